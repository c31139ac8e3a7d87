/- The law RunChoices returns true for every input of its type, and leaves its arguments as they were. No condition. -/
import Derived.Test.YtdofkchhdckomaaRows
import Derived.Test.YtdofkchhdckomaaRunChoicesB
set_option linter.unusedVariables false
set_option maxRecDepth 100000
namespace Go.Proofs.Ytdofkchhdckomaa.runChoices
open Go Go.Ilv Go.ChangeShapes Go.WideShapes Go.ChangeAt Go.RowKit
open Go.Proofs.YtdCfgRC (cfg cfgOk)
theorem own : ownKnob Try.prog.godebug = none := by kernel_rfl
theorem laidOut : laidOutB Try.prog = true := by kernel_rfl
theorem intrOk : IntrOk cfg Try.prog := Go.Proofs.YtdCfgRC.intrOk
theorem lifted (os : Os) (started : os.Started) (H : Type) (enc : TypeId × Value → H) :
    ReturnsInHanded {} Try.checked os 3 .any (Rows.runChoicesSpec.pre6 enc Try.prog Try.f3 Rows.runChoicesRow.domain false) (Rows.runChoicesSpec.post enc Try.prog Try.f3 false true false false) := by
  refine returnsInHanded_of_change_sized (C := Try.checked) own started (by kernel_rfl) Try.func3
    (ChangeSpec.witness6 (enc := enc) (C := Try.checked) false ⟨#[], #[.slice none 0 0], []⟩ 8 (by kernel_rfl) (by kernel_rfl) (by kernel_rfl) (by kernel_rfl)) ?_
  intro W base args ds gs before hval0 hW hcnd hsz0 _
  have hval : ∀ (j : Nat) t v, Try.f3.params[j]? = some t → args[j]? = some v → Value.okWide Try.prog W .any base t v := hval0
  have hW' := hW
  obtain ⟨p, q, hA0, hV, rfl, hfz, hnd⟩ := hW
  have hA : DataW.TrodAll enc Try.prog W 0 (fun _ => true) true Try.f3.params.toList args.toList ds p := hA0
  rw [Try.params3] at hA hval
  obtain ⟨v0, vs0, d0, ds0, p0, q0, hargs, rfl, rfl, h0, r0⟩ := trodAll_cons hA
  obtain ⟨rfl, rfl, rfl⟩ := trodAll_nil r0
  obtain rfl : args = #[v0] := by cases args; simp_all
  obtain ⟨rfl, rfl⟩ := trodVars_none hV
  have k0 := h0
  have lt0 : ∀ x ∈ p0, x.block < W.heap.size := by obtain ⟨m, hm⟩ := k0; exact DataW.trod_lt m _ _ _ hm
  obtain ⟨x0, wf0, rel0⟩ := arg_wf (K := bareK) cfgOk (bareK_fz W) Go.Proofs.YtdCfgRC.shape22 (hval 0 22 v0 rfl rfl) h0
  obtain ⟨s', hs'⟩ := Go.Proofs.YtdCfgRC.law_wf x0 wf0
  refine (law_calls (callL_sound cfgOk intrOk) Go.Proofs.YtdCfgRC.noGlob (LRel.cons rel0 LRel.nil) hs').mono fun e W' ⟨he, bel⟩ => ?_
  subst he
  exact ⟨_, rfl, _, _, _, [], _, [], hW', trodAll_mk1 (shut_bool Try.underlying4 _), (trodAll_cons_mk (Below.trod laidOut (by kernel_rfl) (of_decide_eq_true (by kernel_rfl)) k0 bel lt0) trodAll_mk0), rfl, bel.frame _, fun h => by cases h⟩
theorem over : Rows.runChoicesRow.holds Try.pinned (OpenSpec.ofChange Rows.runChoicesSpec) :=
  OpenClaim.holds_of_wide 3 Try.f3 rfl rfl rfl rfl rfl rfl rfl ⟨rfl, rfl, rfl, rfl, rfl⟩ rfl rfl rfl rfl rfl (by kernel_rfl) Try.func3 (by kernel_rfl)
    (of_decide_eq_true (by kernel_rfl)) (by unfold Func.isWrapper; first | (rw [if_pos (by decide +kernel)]; kernel_rfl) | (rw [if_neg (by decide +kernel)]; exact ⟨rfl, rfl⟩))
    (fun os started H enc _ => lifted os started H enc)
theorem proved : Rows.RunChoicesSaid := over
#print axioms proved
end Go.Proofs.Ytdofkchhdckomaa.runChoices
namespace Go.Proofs.Ytdofkchhdckomaa
/-- The row, under a short name, for the claim. -/
theorem runChoices_holds : Rows.RunChoicesSaid := runChoices.proved
end Go.Proofs.Ytdofkchhdckomaa
