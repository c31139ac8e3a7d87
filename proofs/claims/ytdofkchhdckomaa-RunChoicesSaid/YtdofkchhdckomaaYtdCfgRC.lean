/- The tables of the evaluator for the functions that interleavelaw09.RunChoices reach: which types, which functions, what is kept where. Written by gen.py. -/
import Derived.Test.YtdofkchhdckomaaProg
import Derived.Test.YtdofkchhdckomaaIlvList
set_option maxRecDepth 100000
set_option linter.unusedVariables false
namespace Go.Proofs.YtdCfgRC
open Go Go.Ilv
noncomputable def tyTab : List (Nat × Ty) := [
  (2, ⟨.int .i64, 1, 8, [.int .i64 0]⟩),
  (3, ⟨.int .i64, 1, 8, [.int .i64 0]⟩),
  (4, ⟨.bool, 1, 1, [.bool false]⟩),
  (22, ⟨.slice 28, 1, 24, [.nils]⟩),
  (24, ⟨.slice 62, 1, 24, [.nils]⟩),
  (26, ⟨.slice 3, 1, 24, [.nils]⟩),
  (28, ⟨.struct [(0, 3), (1, 3), (2, 3), (3, 2), (4, 3), (5, 26), (6, 26)], 7, 88, [.int .i64 0, .int .i64 0, .int .i64 0, .int .i64 0, .int .i64 0, .nils, .nils]⟩),
  (62, ⟨.struct [(0, 3), (1, 3)], 2, 16, [.int .i64 0, .int .i64 0]⟩)]
/-- interleave/interleavelaw09.RunChoices -/
noncomputable def fi3 : FnI := ⟨Go.Proofs.Try.f3, true, false, [13],
  [(0, [0]), (1, [0, 5]), (2, [2]), (3, [2])],
  []⟩
/-- interleave/interleaveref09.SameChoices -/
noncomputable def fi8 : FnI := ⟨Go.Proofs.Try.f8, true, false, [],
  [(0, [0, 1]), (1, [0, 1, 10]), (2, [4]), (3, [0, 1, 5]), (4, [0, 1, 5, 14]), (5, [0, 1, 5]), (6, [0, 1, 5, 25]), (7, [4]), (8, [4])],
  []⟩
/-- interleave/run.Choices -/
noncomputable def fi9 : FnI := ⟨Go.Proofs.Try.f9, true, false, [34],
  [(0, [0]), (1, [0, 3]), (2, [3, 7, 8, 9]), (3, [3, 7, 8, 9, 10]), (4, [3, 5, 7, 8, 9]), (5, [3, 5, 6, 7, 8, 9]), (6, [3, 5, 6, 7, 8, 9, 28]), (7, [3, 6, 7, 8, 9]), (8, [3, 7, 8, 9]), (9, [3, 7, 8, 9]), (10, [2])],
  []⟩
/-- interleave/interleaveref09.Choices -/
noncomputable def fi10 : FnI := ⟨Go.Proofs.Try.f10, true, false, [48],
  [(0, [0]), (1, [0, 3]), (2, [0, 3, 4]), (3, [0, 3, 4, 9]), (4, [0, 3, 4]), (5, [0, 3, 4, 5]), (6, [0, 3, 4, 5, 39]), (7, [0, 3, 4, 5]), (8, [0, 3, 4]), (9, [2])],
  []⟩
noncomputable def fnTab : List (Nat × FnI) := [(3, fi3), (8, fi8), (9, fi9), (10, fi10)]
noncomputable def intrTab : List (Nat × (List V → St → Option (V × St))) := []
noncomputable def cfg : Cfg := { ty := aget tyTab, fn := aget fnTab, glob := fun _ => none, eqs := fun t => [62].contains t, intr := aget intrTab }
theorem tysOk : (tyTab.all fun p => tyOkB Go.Proofs.Try.prog p.1 p.2) = true := by decide +kernel
theorem eqsOk : ([62].all fun t => eqOkB Go.Proofs.Try.prog t) = true := by decide +kernel
theorem codesOk : (fnTab.all fun p => fnOkB cfg p.2) = true := by decide +kernel
theorem fnsOk : FnsAt Go.Proofs.Try.prog fnTab := ⟨Go.Proofs.Try.func3, Go.Proofs.Try.func8, Go.Proofs.Try.func9, Go.Proofs.Try.func10, trivial⟩
theorem cfgOk : CfgOk cfg Go.Proofs.Try.prog := cfgOk_of tysOk eqsOk codesOk fnsOk (by decide +kernel)
theorem ty2 : cfg.ty 2 = some ⟨.int .i64, 1, 8, [.int .i64 0]⟩ := rfl
theorem ty3 : cfg.ty 3 = some ⟨.int .i64, 1, 8, [.int .i64 0]⟩ := rfl
theorem ty4 : cfg.ty 4 = some ⟨.bool, 1, 1, [.bool false]⟩ := rfl
theorem ty22 : cfg.ty 22 = some ⟨.slice 28, 1, 24, [.nils]⟩ := rfl
theorem ty24 : cfg.ty 24 = some ⟨.slice 62, 1, 24, [.nils]⟩ := rfl
theorem ty26 : cfg.ty 26 = some ⟨.slice 3, 1, 24, [.nils]⟩ := rfl
theorem ty28 : cfg.ty 28 = some ⟨.struct [(0, 3), (1, 3), (2, 3), (3, 2), (4, 3), (5, 26), (6, 26)], 7, 88, [.int .i64 0, .int .i64 0, .int .i64 0, .int .i64 0, .int .i64 0, .nils, .nils]⟩ := rfl
theorem ty62 : cfg.ty 62 = some ⟨.struct [(0, 3), (1, 3)], 2, 16, [.int .i64 0, .int .i64 0]⟩ := rfl
theorem eqs62 : cfg.eqs 62 = true := rfl
theorem frz3 : fi3.frz = [13] := rfl
theorem live3 : fi3.live = [(0, [0]), (1, [0, 5]), (2, [2]), (3, [2])] := rfl
theorem conf3 : fi3.conf = [] := rfl
theorem keep3 : fi3.keep = false := rfl
/-- interleave/interleavelaw09.RunChoices: its code -/
noncomputable def code3 : Code := fi3.fn.body.getD .skip
theorem body3 : fi3.fn.body = some code3 := rfl
theorem res3 : fi3.fn.results = Go.Proofs.Try.f3.results := rfl
theorem frz8 : fi8.frz = [] := rfl
theorem live8 : fi8.live = [(0, [0, 1]), (1, [0, 1, 10]), (2, [4]), (3, [0, 1, 5]), (4, [0, 1, 5, 14]), (5, [0, 1, 5]), (6, [0, 1, 5, 25]), (7, [4]), (8, [4])] := rfl
theorem conf8 : fi8.conf = [] := rfl
theorem keep8 : fi8.keep = false := rfl
/-- interleave/interleaveref09.SameChoices: its code -/
noncomputable def code8 : Code := fi8.fn.body.getD .skip
theorem body8 : fi8.fn.body = some code8 := rfl
theorem res8 : fi8.fn.results = Go.Proofs.Try.f8.results := rfl
theorem frz9 : fi9.frz = [34] := rfl
theorem live9 : fi9.live = [(0, [0]), (1, [0, 3]), (2, [3, 7, 8, 9]), (3, [3, 7, 8, 9, 10]), (4, [3, 5, 7, 8, 9]), (5, [3, 5, 6, 7, 8, 9]), (6, [3, 5, 6, 7, 8, 9, 28]), (7, [3, 6, 7, 8, 9]), (8, [3, 7, 8, 9]), (9, [3, 7, 8, 9]), (10, [2])] := rfl
theorem conf9 : fi9.conf = [] := rfl
theorem keep9 : fi9.keep = false := rfl
/-- interleave/run.Choices: its code -/
noncomputable def code9 : Code := fi9.fn.body.getD .skip
theorem body9 : fi9.fn.body = some code9 := rfl
theorem res9 : fi9.fn.results = Go.Proofs.Try.f9.results := rfl
theorem frz10 : fi10.frz = [48] := rfl
theorem live10 : fi10.live = [(0, [0]), (1, [0, 3]), (2, [0, 3, 4]), (3, [0, 3, 4, 9]), (4, [0, 3, 4]), (5, [0, 3, 4, 5]), (6, [0, 3, 4, 5, 39]), (7, [0, 3, 4, 5]), (8, [0, 3, 4]), (9, [2])] := rfl
theorem conf10 : fi10.conf = [] := rfl
theorem keep10 : fi10.keep = false := rfl
/-- interleave/interleaveref09.Choices: its code -/
noncomputable def code10 : Code := fi10.fn.body.getD .skip
theorem body10 : fi10.fn.body = some code10 := rfl
theorem res10 : fi10.fn.results = Go.Proofs.Try.f10.results := rfl
theorem fn3 : cfg.fn 3 = some fi3 := rfl
theorem pure3 : fi3.pure = true := rfl
theorem intr3 : cfg.intr 3 = none := rfl
theorem fn8 : cfg.fn 8 = some fi8 := rfl
theorem pure8 : fi8.pure = true := rfl
theorem intr8 : cfg.intr 8 = none := rfl
theorem fn9 : cfg.fn 9 = some fi9 := rfl
theorem pure9 : fi9.pure = true := rfl
theorem intr9 : cfg.intr 9 = none := rfl
theorem fn10 : cfg.fn 10 = some fi10 := rfl
theorem pure10 : fi10.pure = true := rfl
theorem intr10 : cfg.intr 10 = none := rfl
theorem noGlob (g : Nat) : cfg.glob g = none := rfl
theorem intrOk : IntrOk cfg Go.Proofs.Try.prog := fun f g h => by cases h
end Go.Proofs.YtdCfgRC
