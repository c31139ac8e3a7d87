/- The tables of the evaluator for the functions that interleavelaw07.SilentUnions reach: which types, which functions, what is kept where. Written by gen.py. -/
import Derived.Test.YtdofkchhdckomaaProg
import Derived.Test.YtdofkchhdckomaaIlvFast5
import Derived.Shelf.Slices.Clone
import Derived.Test.YtdofkchhdckomaaIlvSort
import Derived.Test.YtdofkchhdckomaaTryShelf
import Derived.Test.YtdofkchhdckomaaTryShelfB
set_option maxRecDepth 100000
set_option linter.unusedVariables false
set_option linter.unusedSimpArgs false
namespace Go.Proofs.YtdCfgU
open Go Go.Ilv
noncomputable def tyTab : List (Nat × Ty) := [
  (3, ⟨.int .i64, 1, 8, [.int .i64 0]⟩),
  (4, ⟨.bool, 1, 1, [.bool false]⟩),
  (26, ⟨.slice 3, 1, 24, [.nils]⟩),
  (37, ⟨.slice 26, 1, 24, [.nils]⟩),
  (82, ⟨.int .u64, 1, 8, [.int .u64 0]⟩)]
/-- interleave/interleavelaw07.SilentUnions -/
noncomputable def fi4 : FnI := ⟨Go.Proofs.Try.f4, true, false, [84, 85],
  [(0, [0, 1]), (1, [0, 1, 16]), (2, [4]), (3, [0, 1, 5]), (4, [0, 1, 5, 6]), (5, [0, 1, 5, 6, 23]), (6, [0, 1, 5, 6]), (7, [0, 1, 5, 6, 57]), (8, [4]), (9, [0, 1, 5, 7]), (10, [0, 1, 5, 7, 61]), (11, [0, 1, 5, 7]), (12, [0, 1, 5, 7, 70]), (13, [4]), (14, [1, 5, 8]), (15, [1, 5, 8, 74]), (16, [1, 5, 8]), (17, [1, 5, 8, 83]), (18, [4]), (19, [4])],
  []⟩
/-- interleave/silent.Union -/
noncomputable def fi11 : FnI := ⟨Go.Proofs.Try.f11, true, false, [8],
  [(0, [0, 1]), (1, [5]), (2, [5]), (3, [4])],
  []⟩
/-- interleave/interleaveref07.Has -/
noncomputable def fi12 : FnI := ⟨Go.Proofs.Try.f12, true, false, [],
  [(0, [0, 1]), (1, [0, 1, 5]), (2, [0, 1, 5, 9]), (3, [0, 1, 5]), (4, [0, 1, 5, 17]), (5, [4]), (6, [4])],
  []⟩
/-- slices.Concat[[]int,int] -/
noncomputable def fi20 : FnI := ⟨Go.Proofs.Try.f20, false, false, [],
  [(0, [0]), (1, [0, 3]), (2, [0, 3, 9, 10, 11]), (3, [0, 3, 9, 10, 11, 12]), (4, [0, 3, 5, 9, 10, 11]), (5, [0, 3, 9, 10, 11]), (6, [0, 3, 9, 10, 11, 20]), (7, [0, 3, 9, 10, 11]), (8, [0, 3, 9, 10, 11]), (9, [0, 6]), (10, [6, 25, 26, 27]), (11, [6, 25, 26, 27, 28]), (12, [6, 8, 25, 26, 27]), (13, [6, 25, 26, 27]), (14, [6, 25, 26, 27]), (15, [2])],
  []⟩
/-- slices.Sort[[]int,int] -/
noncomputable def fi21 : FnI := ⟨Go.Proofs.Try.f21, false, true, [],
  [(0, [0, 2]), (1, [])],
  []⟩
/-- slices.Compact[[]int,int] -/
noncomputable def fi22 : FnI := ⟨Go.Proofs.Try.f22, false, true, [],
  [(0, [0]), (1, [0, 8]), (2, [2]), (3, [0, 3]), (4, [0, 3, 13]), (5, [0, 3]), (6, [0, 3, 25]), (7, [0, 3, 4]), (8, [0, 3, 4, 5]), (9, [0, 3, 4, 5, 32]), (10, [0, 3, 4, 5]), (11, [0, 3, 4, 5, 44]), (12, [0, 3, 4, 5]), (13, [0, 3, 4, 5]), (14, [0, 3]), (15, [2]), (16, [2])],
  []⟩
/-- slices.Grow[[]int,int] -/
noncomputable def fi30 : FnI := ⟨Go.Proofs.Try.f30, false, true, [],
  [(0, [0, 1]), (1, [0, 1, 6]), (2, [0, 1]), (3, [0, 1]), (4, [0, 1, 16]), (5, [0]), (6, [4])],
  []⟩
noncomputable def fnTab : List (Nat × FnI) := [(4, fi4), (11, fi11), (12, fi12), (20, fi20), (21, fi21), (22, fi22), (30, fi30)]
noncomputable def intrTab : List (Nat × (List V → St → Option (V × St))) := [(21, intrSort), (22, (intrCompact Go.Lib.compact)), (30, (intrGrow 1 8))]
noncomputable def cfg : Cfg := { ty := aget tyTab, fn := aget fnTab, glob := fun _ => none, eqs := fun t => [].contains t, intr := aget intrTab }
theorem tysOk : (tyTab.all fun p => tyOkB Go.Proofs.Try.prog p.1 p.2) = true := by decide +kernel
theorem eqsOk : (([] : List Nat).all fun t => eqOkB Go.Proofs.Try.prog t) = true := by decide +kernel
theorem codesOk : (fnTab.all fun p => fnOkB cfg p.2) = true := by decide +kernel
theorem fnsOk : FnsAt Go.Proofs.Try.prog fnTab := ⟨Go.Proofs.Try.func4, Go.Proofs.Try.func11, Go.Proofs.Try.func12, Go.Proofs.Try.func20, Go.Proofs.Try.func21, Go.Proofs.Try.func22, Go.Proofs.Try.func30, trivial⟩
theorem cfgOk : CfgOk cfg Go.Proofs.Try.prog := cfgOk_of tysOk eqsOk codesOk fnsOk (by decide +kernel)
theorem ty3 : cfg.ty 3 = some ⟨.int .i64, 1, 8, [.int .i64 0]⟩ := rfl
theorem ty4 : cfg.ty 4 = some ⟨.bool, 1, 1, [.bool false]⟩ := rfl
theorem ty26 : cfg.ty 26 = some ⟨.slice 3, 1, 24, [.nils]⟩ := rfl
theorem ty37 : cfg.ty 37 = some ⟨.slice 26, 1, 24, [.nils]⟩ := rfl
theorem ty82 : cfg.ty 82 = some ⟨.int .u64, 1, 8, [.int .u64 0]⟩ := rfl
theorem frz4 : fi4.frz = [84, 85] := rfl
theorem live4 : fi4.live = [(0, [0, 1]), (1, [0, 1, 16]), (2, [4]), (3, [0, 1, 5]), (4, [0, 1, 5, 6]), (5, [0, 1, 5, 6, 23]), (6, [0, 1, 5, 6]), (7, [0, 1, 5, 6, 57]), (8, [4]), (9, [0, 1, 5, 7]), (10, [0, 1, 5, 7, 61]), (11, [0, 1, 5, 7]), (12, [0, 1, 5, 7, 70]), (13, [4]), (14, [1, 5, 8]), (15, [1, 5, 8, 74]), (16, [1, 5, 8]), (17, [1, 5, 8, 83]), (18, [4]), (19, [4])] := rfl
theorem conf4 : fi4.conf = [] := rfl
theorem keep4 : fi4.keep = false := rfl
/-- interleave/interleavelaw07.SilentUnions: its code -/
noncomputable def code4 : Code := fi4.fn.body.getD .skip
theorem body4 : fi4.fn.body = some code4 := rfl
theorem res4 : fi4.fn.results = Go.Proofs.Try.f4.results := rfl
theorem frz11 : fi11.frz = [8] := rfl
theorem live11 : fi11.live = [(0, [0, 1]), (1, [5]), (2, [5]), (3, [4])] := rfl
theorem conf11 : fi11.conf = [] := rfl
theorem keep11 : fi11.keep = false := rfl
/-- interleave/silent.Union: its code -/
noncomputable def code11 : Code := fi11.fn.body.getD .skip
theorem body11 : fi11.fn.body = some code11 := rfl
theorem res11 : fi11.fn.results = Go.Proofs.Try.f11.results := rfl
theorem frz12 : fi12.frz = [] := rfl
theorem live12 : fi12.live = [(0, [0, 1]), (1, [0, 1, 5]), (2, [0, 1, 5, 9]), (3, [0, 1, 5]), (4, [0, 1, 5, 17]), (5, [4]), (6, [4])] := rfl
theorem conf12 : fi12.conf = [] := rfl
theorem keep12 : fi12.keep = false := rfl
/-- interleave/interleaveref07.Has: its code -/
noncomputable def code12 : Code := fi12.fn.body.getD .skip
theorem body12 : fi12.fn.body = some code12 := rfl
theorem res12 : fi12.fn.results = Go.Proofs.Try.f12.results := rfl
theorem frz20 : fi20.frz = [] := rfl
theorem live20 : fi20.live = [(0, [0]), (1, [0, 3]), (2, [0, 3, 9, 10, 11]), (3, [0, 3, 9, 10, 11, 12]), (4, [0, 3, 5, 9, 10, 11]), (5, [0, 3, 9, 10, 11]), (6, [0, 3, 9, 10, 11, 20]), (7, [0, 3, 9, 10, 11]), (8, [0, 3, 9, 10, 11]), (9, [0, 6]), (10, [6, 25, 26, 27]), (11, [6, 25, 26, 27, 28]), (12, [6, 8, 25, 26, 27]), (13, [6, 25, 26, 27]), (14, [6, 25, 26, 27]), (15, [2])] := rfl
theorem conf20 : fi20.conf = [] := rfl
theorem keep20 : fi20.keep = false := rfl
/-- slices.Concat[[]int,int]: its code -/
noncomputable def code20 : Code := fi20.fn.body.getD .skip
theorem body20 : fi20.fn.body = some code20 := rfl
theorem res20 : fi20.fn.results = Go.Proofs.Try.f20.results := rfl
theorem frz21 : fi21.frz = [] := rfl
theorem live21 : fi21.live = [(0, [0, 2]), (1, [])] := rfl
theorem conf21 : fi21.conf = [] := rfl
theorem keep21 : fi21.keep = true := rfl
/-- slices.Sort[[]int,int]: its code -/
noncomputable def code21 : Code := fi21.fn.body.getD .skip
theorem body21 : fi21.fn.body = some code21 := rfl
theorem res21 : fi21.fn.results = Go.Proofs.Try.f21.results := rfl
theorem frz22 : fi22.frz = [] := rfl
theorem live22 : fi22.live = [(0, [0]), (1, [0, 8]), (2, [2]), (3, [0, 3]), (4, [0, 3, 13]), (5, [0, 3]), (6, [0, 3, 25]), (7, [0, 3, 4]), (8, [0, 3, 4, 5]), (9, [0, 3, 4, 5, 32]), (10, [0, 3, 4, 5]), (11, [0, 3, 4, 5, 44]), (12, [0, 3, 4, 5]), (13, [0, 3, 4, 5]), (14, [0, 3]), (15, [2]), (16, [2])] := rfl
theorem conf22 : fi22.conf = [] := rfl
theorem keep22 : fi22.keep = true := rfl
/-- slices.Compact[[]int,int]: its code -/
noncomputable def code22 : Code := fi22.fn.body.getD .skip
theorem body22 : fi22.fn.body = some code22 := rfl
theorem res22 : fi22.fn.results = Go.Proofs.Try.f22.results := rfl
theorem frz30 : fi30.frz = [] := rfl
theorem live30 : fi30.live = [(0, [0, 1]), (1, [0, 1, 6]), (2, [0, 1]), (3, [0, 1]), (4, [0, 1, 16]), (5, [0]), (6, [4])] := rfl
theorem conf30 : fi30.conf = [] := rfl
theorem keep30 : fi30.keep = true := rfl
/-- slices.Grow[[]int,int]: its code -/
noncomputable def code30 : Code := fi30.fn.body.getD .skip
theorem body30 : fi30.fn.body = some code30 := rfl
theorem res30 : fi30.fn.results = Go.Proofs.Try.f30.results := rfl
theorem fn4 : cfg.fn 4 = some fi4 := rfl
theorem pure4 : fi4.pure = true := rfl
theorem call4 (args : List V) (s : St) : callL cfg 4 args s = bnd (execL cfg fi4 code4 (enumE 0 args) s) (finK cfg fi4 s.nxt) := x_call rfl rfl rfl
theorem intr4 : cfg.intr 4 = none := rfl
theorem fn11 : cfg.fn 11 = some fi11 := rfl
theorem pure11 : fi11.pure = true := rfl
theorem call11 (args : List V) (s : St) : callL cfg 11 args s = bnd (execL cfg fi11 code11 (enumE 0 args) s) (finK cfg fi11 s.nxt) := x_call rfl rfl rfl
theorem intr11 : cfg.intr 11 = none := rfl
theorem fn12 : cfg.fn 12 = some fi12 := rfl
theorem pure12 : fi12.pure = true := rfl
theorem call12 (args : List V) (s : St) : callL cfg 12 args s = bnd (execL cfg fi12 code12 (enumE 0 args) s) (finK cfg fi12 s.nxt) := x_call rfl rfl rfl
theorem intr12 : cfg.intr 12 = none := rfl
theorem fn20 : cfg.fn 20 = some fi20 := rfl
theorem pure20 : fi20.pure = false := rfl
theorem call20 (args : List V) (s : St) : callL cfg 20 args s = bnd (execL cfg fi20 code20 (enumE 0 args) s) (finK cfg fi20 s.nxt) := x_call rfl rfl rfl
theorem intr20 : cfg.intr 20 = none := rfl
theorem fn21 : cfg.fn 21 = some fi21 := rfl
theorem pure21 : fi21.pure = false := rfl
theorem call21 (args : List V) (s : St) : callL cfg 21 args s = intrSort args s := callL_intr rfl
theorem fn22 : cfg.fn 22 = some fi22 := rfl
theorem pure22 : fi22.pure = false := rfl
theorem call22 (args : List V) (s : St) : callL cfg 22 args s = (intrCompact Go.Lib.compact) args s := callL_intr rfl
theorem fn30 : cfg.fn 30 = some fi30 := rfl
theorem pure30 : fi30.pure = false := rfl
theorem call30 (args : List V) (s : St) : callL cfg 30 args s = (intrGrow 1 8) args s := callL_intr rfl
theorem noGlob (g : Nat) : cfg.glob g = none := rfl
noncomputable def cfg0 : Cfg := { cfg with intr := fun _ => none }
theorem cfgOk0 : CfgOk cfg0 Go.Proofs.Try.prog := cfgOk.told _
theorem intrOk0 : IntrOk cfg0 Go.Proofs.Try.prog := fun f g h => by cases h
theorem growOk30 : GrowOk Go.Proofs.Try.prog 1 8 30 := by
  intro a n w h1 h2 h3
  obtain ⟨i, z, q1, q2, q3, q4, q5, _⟩ := (cfgOk.ty 3 _ ty3).z
  have q2' : i.size = 1 := q2
  have q3' : i.bytes = 8 := q3
  have q5' : z.cells.size = 1 := q5
  refine (Any8.slices_Grow_grow Try.growI i z q1 q4 (by rw [q2']; decide) a 0 0 n [] w (by omega) (by omega) (by rw [q3']; omega) (by omega) (by simp) (fun _ => rfl) (fun a _ j v h => by simp at h)).mono ?_
  rintro e w' ⟨rfl, hw⟩
  refine ⟨_, _, _, rfl, hw, ?_⟩
  simp only [Array.size_append, List.size_toArray, List.length_nil, size_zeroCells, q5', Nat.zero_add, Nat.sub_zero]
  rw [← Nat.add_mul]
  exact Nat.mul_le_mul_right _ (by omega)
theorem growRoom30 : GrowRoom Go.Proofs.Try.prog 30 := fun a l c n w h1 h2 h3 h4 => Any8.slices_Grow_room Try.growI a l c n w h1 h2 h3 h4
theorem intrOk : IntrOk cfg Go.Proofs.Try.prog := by
  intro f g h
  simp only [cfg, intrTab, aget] at h
  split at h
  · rename_i hf; subst hf; obtain rfl := Option.some.inj h; exact intrSort_sound Try.slices_Sort_int Try.slices_Sort_int_none
  split at h
  · rename_i hf; subst hf; obtain rfl := Option.some.inj h; exact intrCompact_sound Try.slices_Compact_int Try.slices_Compact_int_empty
  split at h
  · rename_i hf; subst hf; obtain rfl := Option.some.inj h; exact intrGrow_sound growOk30 growRoom30
  cases h
end Go.Proofs.YtdCfgU
