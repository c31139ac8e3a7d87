/- The law SilentCycles returns true for every input of its type, and leaves its arguments as they were. No condition. -/
import Derived.Test.YtdofkchhdckomaaRows
import Derived.Test.YtdofkchhdckomaaSilentCyclesA
set_option linter.unusedVariables false
set_option maxRecDepth 100000
namespace Go.Proofs.Ytdofkchhdckomaa.silentCycles
open Go Go.Ilv Go.ChangeShapes Go.WideShapes Go.ChangeAt Go.RowKit
open Go.Proofs.YtdCfgA (cfg cfgOk)
theorem own : ownKnob Try.prog.godebug = none := by kernel_rfl
theorem laidOut : laidOutB Try.prog = true := by kernel_rfl
theorem intrOk : IntrOk cfg Try.prog := Go.Proofs.YtdCfgA.intrOk
theorem lifted (os : Os) (started : os.Started) (H : Type) (enc : TypeId × Value → H) :
    ReturnsInHanded {} Try.checked os 7 .any (Rows.silentCyclesSpec.pre6 enc Try.prog Try.f7 Rows.silentCyclesRow.domain false) (Rows.silentCyclesSpec.post enc Try.prog Try.f7 false true false false) := by
  refine returnsInHanded_of_change_sized (C := Try.checked) own started (by kernel_rfl) Try.func7
    (ChangeSpec.witness6 (enc := enc) (C := Try.checked) false ⟨#[], #[], []⟩ 8 (by kernel_rfl) (by kernel_rfl) (by kernel_rfl) (by kernel_rfl)) ?_
  intro W base args ds gs before hval0 hW hcnd hsz0 _
  have hval : ∀ (j : Nat) t v, Try.f7.params[j]? = some t → args[j]? = some v → Value.okWide Try.prog W .any base t v := hval0
  have hW' := hW
  obtain ⟨p, q, hA0, hV, rfl, hfz, hnd⟩ := hW
  have hA : DataW.TrodAll enc Try.prog W 0 (fun _ => true) true Try.f7.params.toList args.toList ds p := hA0
  rw [Try.params7] at hA hval
  obtain ⟨rfl, rfl, rfl⟩ := trodAll_none hA
  obtain ⟨rfl, rfl⟩ := trodVars_none hV
  obtain ⟨s', hs'⟩ := Go.Proofs.YtdCfgA.law_wf 
  refine (law_calls (callL_sound cfgOk intrOk) Go.Proofs.YtdCfgA.noGlob LRel.nil hs').mono fun e W' ⟨he, bel⟩ => ?_
  subst he
  exact ⟨_, rfl, _, _, _, [], _, [], hW', trodAll_mk1 (shut_bool Try.underlying4 _), trodAll_mk0, rfl, bel.frame _, fun h => by cases h⟩
theorem over : Rows.silentCyclesRow.holds Try.pinned (OpenSpec.ofChange Rows.silentCyclesSpec) :=
  OpenClaim.holds_of_wide 7 Try.f7 rfl rfl rfl rfl rfl rfl rfl ⟨rfl, rfl, rfl, rfl, rfl⟩ rfl rfl rfl rfl rfl (by kernel_rfl) Try.func7 (by kernel_rfl)
    (of_decide_eq_true (by kernel_rfl)) (by unfold Func.isWrapper; first | (rw [if_pos (by decide +kernel)]; kernel_rfl) | (rw [if_neg (by decide +kernel)]; exact ⟨rfl, rfl⟩))
    (fun os started H enc _ => lifted os started H enc)
theorem proved : Rows.SilentCyclesSaid := over
#print axioms proved
end Go.Proofs.Ytdofkchhdckomaa.silentCycles
namespace Go.Proofs.Ytdofkchhdckomaa
/-- The row, under a short name, for the claim. -/
theorem silentCycles_holds : Rows.SilentCyclesSaid := silentCycles.proved
end Go.Proofs.Ytdofkchhdckomaa
