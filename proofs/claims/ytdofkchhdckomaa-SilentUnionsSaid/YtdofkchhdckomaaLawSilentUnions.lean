/- The law SilentUnions returns true for every input of its type, and leaves its arguments as they were. No condition. -/
import Derived.Test.YtdofkchhdckomaaRows
import Derived.Test.YtdofkchhdckomaaSilentUnionsB
set_option linter.unusedVariables false
set_option maxRecDepth 100000
namespace Go.Proofs.Ytdofkchhdckomaa.silentUnions
open Go Go.Ilv Go.ChangeShapes Go.WideShapes Go.ChangeAt Go.RowKit
open Go.Proofs.YtdCfgU (cfg cfgOk)
theorem own : ownKnob Try.prog.godebug = none := by kernel_rfl
theorem laidOut : laidOutB Try.prog = true := by kernel_rfl
theorem intrOk : IntrOk cfg Try.prog := Go.Proofs.YtdCfgU.intrOk
theorem lifted (os : Os) (started : os.Started) (H : Type) (enc : TypeId × Value → H) :
    ReturnsInHanded {} Try.checked os 4 .any (Rows.silentUnionsSpec.pre6 enc Try.prog Try.f4 Rows.silentUnionsRow.domain false) (Rows.silentUnionsSpec.post enc Try.prog Try.f4 false true false false) := by
  refine returnsInHanded_of_change_sized (C := Try.checked) own started (by kernel_rfl) Try.func4
    (ChangeSpec.witness6 (enc := enc) (C := Try.checked) false ⟨#[], #[.slice none 0 0, .slice none 0 0], []⟩ 8 (by kernel_rfl) (by kernel_rfl) (by kernel_rfl) (by kernel_rfl)) ?_
  intro W base args ds gs before hval0 hW hcnd hsz0 _
  have hval : ∀ (j : Nat) t v, Try.f4.params[j]? = some t → args[j]? = some v → Value.okWide Try.prog W .any base t v := hval0
  have hW' := hW
  obtain ⟨p, q, hA0, hV, rfl, hfz, hnd⟩ := hW
  have hA : DataW.TrodAll enc Try.prog W 0 (fun _ => true) true Try.f4.params.toList args.toList ds p := hA0
  rw [Try.params4] at hA hval
  obtain ⟨v0, vs0, d0, ds0, p0, q0, hargs, rfl, rfl, h0, r0⟩ := trodAll_cons hA
  obtain ⟨v1, vs1, d1, ds1, p1, q1, rfl, rfl, rfl, h1, r1⟩ := trodAll_cons r0
  obtain ⟨rfl, rfl, rfl⟩ := trodAll_nil r1
  obtain rfl : args = #[v0, v1] := by cases args; simp_all
  obtain ⟨rfl, rfl⟩ := trodVars_none hV
  have k0 := h0
  have lt0 : ∀ x ∈ p0, x.block < W.heap.size := by obtain ⟨m, hm⟩ := k0; exact DataW.trod_lt m _ _ _ hm
  obtain ⟨x0, wf0, rel0⟩ := arg_wf (K := bareK) cfgOk (bareK_fz W) Go.Proofs.YtdCfgU.shape26 (hval 0 26 v0 rfl rfl) h0
  have k1 := h1
  have lt1 : ∀ x ∈ p1, x.block < W.heap.size := by obtain ⟨m, hm⟩ := k1; exact DataW.trod_lt m _ _ _ hm
  obtain ⟨x1, wf1, rel1⟩ := arg_wf (K := bareK) cfgOk (bareK_fz W) Go.Proofs.YtdCfgU.shape26 (hval 1 26 v1 rfl rfl) h1
  obtain ⟨s', hs'⟩ := Go.Proofs.YtdCfgU.law_wf x0 wf0 x1 wf1
  refine (law_calls (callL_sound cfgOk intrOk) Go.Proofs.YtdCfgU.noGlob (LRel.cons rel0 (LRel.cons rel1 LRel.nil)) hs').mono fun e W' ⟨he, bel⟩ => ?_
  subst he
  exact ⟨_, rfl, _, _, _, [], _, [], hW', trodAll_mk1 (shut_bool Try.underlying4 _), (trodAll_cons_mk (Below.trod laidOut (by kernel_rfl) (of_decide_eq_true (by kernel_rfl)) k0 bel lt0) (trodAll_cons_mk (Below.trod laidOut (by kernel_rfl) (of_decide_eq_true (by kernel_rfl)) k1 bel lt1) trodAll_mk0)), rfl, bel.frame _, fun h => by cases h⟩
theorem over : Rows.silentUnionsRow.holds Try.pinned (OpenSpec.ofChange Rows.silentUnionsSpec) :=
  OpenClaim.holds_of_wide 4 Try.f4 rfl rfl rfl rfl rfl rfl rfl ⟨rfl, rfl, rfl, rfl, rfl⟩ rfl rfl rfl rfl rfl (by kernel_rfl) Try.func4 (by kernel_rfl)
    (of_decide_eq_true (by kernel_rfl)) (by unfold Func.isWrapper; first | (rw [if_pos (by decide +kernel)]; kernel_rfl) | (rw [if_neg (by decide +kernel)]; exact ⟨rfl, rfl⟩))
    (fun os started H enc _ => lifted os started H enc)
theorem proved : Rows.SilentUnionsSaid := over
#print axioms proved
end Go.Proofs.Ytdofkchhdckomaa.silentUnions
namespace Go.Proofs.Ytdofkchhdckomaa
/-- The row, under a short name, for the claim. -/
theorem silentUnions_holds : Rows.SilentUnionsSaid := silentUnions.proved
end Go.Proofs.Ytdofkchhdckomaa
