import Derived.Test.YtdofkchhdckomaaLw1
import Derived.Test.YtdofkchhdckomaaLw4
/- The reference's step, case by case. -/
set_option maxRecDepth 100000
set_option linter.unusedSimpArgs false
set_option linter.unusedVariables false
namespace Go.Proofs.YtdCfgT
open Go Go.Ilv
def row1 (v : V) : List V := [v]
theorem frz_T {v : V} {t : List Int} (h : IsT v t) (hl : t.length ≤ 100000000) : ∃ w, IsT w t ∧ (w.storable = true ∧ w.cells = [w]) ∧ ∀ s id, appendOp cfg true s id 3 .nils v = some (w, .none) := by
  by_cases ht : t = []
  · subst ht
    refine ⟨.nils, IsT.nils, ⟨rfl, rfl⟩, fun s id => ?_⟩
    rcases h with rfl | ⟨_, rfl⟩ <;> rfl
  · rcases h with rfl | ⟨e, _⟩
    · exact ⟨lits t, IsT.lits t, ⟨rfl, rfl⟩, fun s id => frz_lit ht hl s id⟩
    · exact absurd e ht
theorem y1al {l : List (Nat × Ilv.Obj)} {n rid : Nat} {pc ev a b c nn site : Int} {rv tv : V} {regs : List Int} (hn : 2 ≤ n) (hr : Regs l rid rv regs) (ha : a < 0) :
    callL cfg 27 [.agg (iC 1 a b c nn site), .agg [.int .i64 pc, rv, tv, .int .i64 ev]] ⟨n, l⟩ = some (.tup [.agg zC, .bool false], St.killVars ⟨n + 3, aset (aset (aset l n (B2 1 a b c nn site)) (n + 1) (Sbox pc rv tv ev)) (n + 2) ⟨4, 0, true, [[.int .i64 0, .nils, .nils, .int .i64 0]]⟩⟩ n) := by
  have hs : code27 = Code.seq _ _ := rfl
  have hrr : fi27.fn.results.toList = [_, _] := rfl
  have hlen := hr.len
  have ht38 : ∀ s, callV (callL cfg) true 38 [.agg [.int .i64 1, .int .i64 a, .int .i64 b, .int .i64 c, .int .i64 nn, .int .i64 site]] s = some (.lit [.int .i64 a], s) := fun s => told38 (op := 1) ⟨by decide, by decide⟩ a b c nn site s
  have q1 : (n = n + 1) = False := eq_false (by omega)
  have q2 : (n = n + 2) = False := eq_false (by omega)
  have q3 : (n + 1 = n + 2) = False := eq_false (by omega)
  have q4 : (n + 2 = n + 1) = False := eq_false (by omega)
  have q5 : (n + 1 = n) = False := eq_false (by omega)
  have q6 : (n + 2 = n) = False := eq_false (by omega)
  rw [call27, hs]
  simp (config := { maxSteps := 3000000 }) only [↓x_seq, ↓x_reg, ↓x_drawK, drawK_f, bumps, makes, goCall, writes, List.any_cons, List.any_nil, ↓x_cond, ↓x_block, execL_skip, execL_ret, thn_normal, thn_ret, regK_mk, condK_tt, outB_ret, inss, ins, List.map_cons, List.map_nil, Option.map_none, Option.map_some, Option.bind_some, List.getElem?_toArray, List.getElem?_cons_zero, List.getElem?_cons_succ,
      runI_nil, i_move, i_assign, i_alloc, i_box, i_build, i_load, i_store, i_binOp, i_builtin, runI_call, stepK_none, stepK_set, callK_mk,
      runDI_nil, d_move, d_pick, d_load, d_binOp, d_indexAddr, runDI_guard, guardD_ft, stepD_none, putE_some, putE_none, frzD_some, frzD_none, bnd_some, yes_eq, keepE_nil, keepE_cons, cons1_some, List.contains_cons, List.contains_nil, Bool.or_false, prim_move, prim_assign, prim_alloc, prim_box, prim_build, prim_load, prim_store, prim_binOp, prim_indexAddr, prim_len, prim_pick, true_and, opnd_tmp, opnd_int, opnd_bool, opnds_nil, opnds_cons, popnds_nil, nilS_tmp, nilS_int, bin_lss, aget, aset, aget_aset, aset_aset, cond_true, cond_false, decide_true, ↓reduceIte, eq_self,
      reduceCtorEq, Nat.reduceEqDiff, Nat.reduceLT, Nat.reduceBEq, Nat.reduceAdd, Nat.add_assoc, Nat.add_left_cancel_iff, Nat.one_ne_zero, indexAddr, rd, List.length_cons, List.length_nil, List.take_succ_cons, List.take_zero, List.drop_succ_cons, List.drop_zero, List.drop_nil, List.take_nil, List.set_cons_zero, List.nil_append, List.cons_append, Nat.zero_add, Nat.add_zero, Nat.le_refl, ofCells, K.agg, put1, splice, build, buildFill, sto_agg, cel_int, cel_agg, Bool.true_and, Bool.and_false, beq_self_eq_true, St_get, enumE, callI_func, finK_ret, Ilv.results, resV, all_nil, all_cons, Bool.or_false, x_loop, frz27, lv27_0, lv27_1, lv27_2, lv27_3, lv27_5, cf27_5, lv27_6, ty3, ty26, ty39, ty60, lenl26, Int.cast_ofNat_Int, Int.reduceLT, Int.reduceLE, Int.reduceToNat, hrr, keep27, iC, fn38, pure38, ht38, q1, q2, B2, Sbox, zC, ha]
theorem y1ag {l : List (Nat × Ilv.Obj)} {n rid : Nat} {pc ev a b c nn site : Int} {rv tv : V} {regs : List Int} (hn : 2 ≤ n) (hr : Regs l rid rv regs) (ha : ¬ a < 0) (ha1 : (regs.length : Int) ≤ a) :
    callL cfg 27 [.agg (iC 1 a b c nn site), .agg [.int .i64 pc, rv, tv, .int .i64 ev]] ⟨n, l⟩ = some (.tup [.agg zC, .bool false], St.killVars ⟨n + 3, aset (aset (aset l n (B2 1 a b c nn site)) (n + 1) (Sbox pc rv tv ev)) (n + 2) ⟨4, 0, true, [[.int .i64 0, .nils, .nils, .int .i64 0]]⟩⟩ n) := by
  have hs : code27 = Code.seq _ _ := rfl
  have hrr : fi27.fn.results.toList = [_, _] := rfl
  have hlen := hr.len
  have ht38 : ∀ s, callV (callL cfg) true 38 [.agg [.int .i64 1, .int .i64 a, .int .i64 b, .int .i64 c, .int .i64 nn, .int .i64 site]] s = some (.lit [.int .i64 a], s) := fun s => told38 (op := 1) ⟨by decide, by decide⟩ a b c nn site s
  have q1 : (n = n + 1) = False := eq_false (by omega)
  have q2 : (n = n + 2) = False := eq_false (by omega)
  have q3 : (n + 1 = n + 2) = False := eq_false (by omega)
  have q4 : (n + 2 = n + 1) = False := eq_false (by omega)
  have q5 : (n + 1 = n) = False := eq_false (by omega)
  have q6 : (n + 2 = n) = False := eq_false (by omega)
  rw [call27, hs]
  simp (config := { maxSteps := 3000000 }) only [↓x_seq, ↓x_reg, ↓x_drawK, drawK_f, bumps, makes, goCall, writes, List.any_cons, List.any_nil, ↓x_cond, ↓x_block, execL_skip, execL_ret, thn_normal, thn_ret, regK_mk, condK_tt, outB_ret, inss, ins, List.map_cons, List.map_nil, Option.map_none, Option.map_some, Option.bind_some, List.getElem?_toArray, List.getElem?_cons_zero, List.getElem?_cons_succ,
      runI_nil, i_move, i_assign, i_alloc, i_box, i_build, i_load, i_store, i_binOp, i_builtin, runI_call, stepK_none, stepK_set, callK_mk,
      runDI_nil, d_move, d_pick, d_load, d_binOp, d_fieldAddr, d_indexAddr, d_builtin, runDI_guard, guardD_ff, stepD_none, putE_some, putE_none, frzD_some, frzD_none, bnd_some, yes_eq, keepE_nil, keepE_cons, cons1_some, List.contains_cons, List.contains_nil, Bool.or_false, prim_move, prim_assign, prim_alloc, prim_box, prim_build, prim_load, prim_store, prim_binOp, prim_fieldAddr, prim_indexAddr, prim_len, prim_pick, true_and, opnd_tmp, opnd_int, opnd_bool, opnds_nil, opnds_cons, popnds_nil, nilS_tmp, nilS_int, bin_lss, bin_geq, aget, aset, aget_aset, aset_aset, cond_true, cond_false, decide_true, decide_false, ↓reduceIte, eq_self,
      reduceCtorEq, Nat.reduceEqDiff, Nat.reduceLT, Nat.reduceLeDiff, Nat.reduceBEq, Nat.reduceAdd, Nat.add_assoc, Nat.add_left_cancel_iff, Nat.one_ne_zero, indexAddr, fieldAddr, rd, List.length_cons, List.length_nil, List.take_succ_cons, List.take_zero, List.drop_succ_cons, List.drop_zero, List.drop_nil, List.take_nil, List.set_cons_zero, List.nil_append, List.cons_append, Nat.zero_add, Nat.add_zero, Nat.le_refl, ofCells, K.agg, put1, splice, build, buildFill, sto_agg, cel_int, cel_agg, Bool.true_and, Bool.and_false, beq_self_eq_true, St_get, enumE, callI_func, finK_ret, Ilv.results, resV, all_nil, all_cons, Bool.or_false, x_loop, frz27, lv27_0, lv27_1, lv27_2, lv27_3, lv27_5, cf27_5, lv27_6, ty3, ty26, ty36, ty39, ty60, lenl26, Int.cast_ofNat_Int, Int.reduceLT, Int.reduceLE, Int.reduceToNat, ge_iff_le, hrr, keep27, iC, fn38, pure38, ht38, q1, q2, q3, hlen, B2, Sbox, zC, ha, ha1]
theorem y2al {l : List (Nat × Ilv.Obj)} {n rid : Nat} {pc ev a b c nn site : Int} {rv tv : V} {regs : List Int} (hn : 2 ≤ n) (hr : Regs l rid rv regs) (ha : a < 0) :
    callL cfg 27 [.agg (iC 2 a b c nn site), .agg [.int .i64 pc, rv, tv, .int .i64 ev]] ⟨n, l⟩ = some (.tup [.agg zC, .bool false], St.killVars ⟨n + 3, aset (aset (aset l n (B2 2 a b c nn site)) (n + 1) (Sbox pc rv tv ev)) (n + 2) ⟨4, 0, true, [[.int .i64 0, .nils, .nils, .int .i64 0]]⟩⟩ n) := by
  have hs : code27 = Code.seq _ _ := rfl
  have hrr : fi27.fn.results.toList = [_, _] := rfl
  have hlen := hr.len
  have ht38 : ∀ s, callV (callL cfg) true 38 [.agg [.int .i64 2, .int .i64 a, .int .i64 b, .int .i64 c, .int .i64 nn, .int .i64 site]] s = some (.lit [.int .i64 a, .int .i64 b], s) := fun s => told38 (op := 2) ⟨by decide, by decide⟩ a b c nn site s
  have q1 : (n = n + 1) = False := eq_false (by omega)
  have q2 : (n = n + 2) = False := eq_false (by omega)
  have q3 : (n + 1 = n + 2) = False := eq_false (by omega)
  have q4 : (n + 2 = n + 1) = False := eq_false (by omega)
  have q5 : (n + 1 = n) = False := eq_false (by omega)
  have q6 : (n + 2 = n) = False := eq_false (by omega)
  rw [call27, hs]
  simp (config := { maxSteps := 3000000 }) only [↓x_seq, ↓x_reg, ↓x_drawK, drawK_f, bumps, makes, goCall, writes, List.any_cons, List.any_nil, ↓x_cond, ↓x_block, execL_skip, execL_ret, thn_normal, thn_ret, regK_mk, condK_tt, outB_ret, inss, ins, List.map_cons, List.map_nil, Option.map_none, Option.map_some, Option.bind_some, List.getElem?_toArray, List.getElem?_cons_zero, List.getElem?_cons_succ,
      runI_nil, i_move, i_assign, i_alloc, i_box, i_build, i_load, i_store, i_binOp, i_builtin, runI_call, stepK_none, stepK_set, callK_mk,
      runDI_nil, d_move, d_pick, d_load, d_binOp, d_indexAddr, runDI_guard, guardD_ft, stepD_none, putE_some, putE_none, frzD_some, frzD_none, bnd_some, yes_eq, keepE_nil, keepE_cons, cons1_some, List.contains_cons, List.contains_nil, Bool.or_false, prim_move, prim_assign, prim_alloc, prim_box, prim_build, prim_load, prim_store, prim_binOp, prim_indexAddr, prim_len, prim_pick, true_and, opnd_tmp, opnd_int, opnd_bool, opnds_nil, opnds_cons, popnds_nil, nilS_tmp, nilS_int, bin_lss, aget, aset, aget_aset, aset_aset, cond_true, cond_false, decide_true, ↓reduceIte, eq_self,
      reduceCtorEq, Nat.reduceEqDiff, Nat.reduceLT, Nat.reduceBEq, Nat.reduceAdd, Nat.add_assoc, Nat.add_left_cancel_iff, Nat.one_ne_zero, indexAddr, rd, List.length_cons, List.length_nil, List.take_succ_cons, List.take_zero, List.drop_succ_cons, List.drop_zero, List.drop_nil, List.take_nil, List.set_cons_zero, List.nil_append, List.cons_append, Nat.zero_add, Nat.add_zero, Nat.le_refl, ofCells, K.agg, put1, splice, build, buildFill, sto_agg, cel_int, cel_agg, Bool.true_and, Bool.and_false, beq_self_eq_true, St_get, enumE, callI_func, finK_ret, Ilv.results, resV, all_nil, all_cons, Bool.or_false, x_loop, frz27, lv27_0, lv27_1, lv27_2, lv27_3, lv27_5, cf27_5, lv27_6, ty3, ty26, ty39, ty60, lenl26, Int.cast_ofNat_Int, Int.reduceLT, Int.reduceLE, Int.reduceToNat, hrr, keep27, iC, fn38, pure38, ht38, q1, q2, B2, Sbox, zC, ha]
theorem y2ag {l : List (Nat × Ilv.Obj)} {n rid : Nat} {pc ev a b c nn site : Int} {rv tv : V} {regs : List Int} (hn : 2 ≤ n) (hr : Regs l rid rv regs) (ha : ¬ a < 0) (ha1 : (regs.length : Int) ≤ a) :
    callL cfg 27 [.agg (iC 2 a b c nn site), .agg [.int .i64 pc, rv, tv, .int .i64 ev]] ⟨n, l⟩ = some (.tup [.agg zC, .bool false], St.killVars ⟨n + 3, aset (aset (aset l n (B2 2 a b c nn site)) (n + 1) (Sbox pc rv tv ev)) (n + 2) ⟨4, 0, true, [[.int .i64 0, .nils, .nils, .int .i64 0]]⟩⟩ n) := by
  have hs : code27 = Code.seq _ _ := rfl
  have hrr : fi27.fn.results.toList = [_, _] := rfl
  have hlen := hr.len
  have ht38 : ∀ s, callV (callL cfg) true 38 [.agg [.int .i64 2, .int .i64 a, .int .i64 b, .int .i64 c, .int .i64 nn, .int .i64 site]] s = some (.lit [.int .i64 a, .int .i64 b], s) := fun s => told38 (op := 2) ⟨by decide, by decide⟩ a b c nn site s
  have q1 : (n = n + 1) = False := eq_false (by omega)
  have q2 : (n = n + 2) = False := eq_false (by omega)
  have q3 : (n + 1 = n + 2) = False := eq_false (by omega)
  have q4 : (n + 2 = n + 1) = False := eq_false (by omega)
  have q5 : (n + 1 = n) = False := eq_false (by omega)
  have q6 : (n + 2 = n) = False := eq_false (by omega)
  rw [call27, hs]
  simp (config := { maxSteps := 3000000 }) only [↓x_seq, ↓x_reg, ↓x_drawK, drawK_f, bumps, makes, goCall, writes, List.any_cons, List.any_nil, ↓x_cond, ↓x_block, execL_skip, execL_ret, thn_normal, thn_ret, regK_mk, condK_tt, outB_ret, inss, ins, List.map_cons, List.map_nil, Option.map_none, Option.map_some, Option.bind_some, List.getElem?_toArray, List.getElem?_cons_zero, List.getElem?_cons_succ,
      runI_nil, i_move, i_assign, i_alloc, i_box, i_build, i_load, i_store, i_binOp, i_builtin, runI_call, stepK_none, stepK_set, callK_mk,
      runDI_nil, d_move, d_pick, d_load, d_binOp, d_fieldAddr, d_indexAddr, d_builtin, runDI_guard, guardD_ff, stepD_none, putE_some, putE_none, frzD_some, frzD_none, bnd_some, yes_eq, keepE_nil, keepE_cons, cons1_some, List.contains_cons, List.contains_nil, Bool.or_false, prim_move, prim_assign, prim_alloc, prim_box, prim_build, prim_load, prim_store, prim_binOp, prim_fieldAddr, prim_indexAddr, prim_len, prim_pick, true_and, opnd_tmp, opnd_int, opnd_bool, opnds_nil, opnds_cons, popnds_nil, nilS_tmp, nilS_int, bin_lss, bin_geq, aget, aset, aget_aset, aset_aset, cond_true, cond_false, decide_true, decide_false, ↓reduceIte, eq_self,
      reduceCtorEq, Nat.reduceEqDiff, Nat.reduceLT, Nat.reduceLeDiff, Nat.reduceBEq, Nat.reduceAdd, Nat.add_assoc, Nat.add_left_cancel_iff, Nat.one_ne_zero, indexAddr, fieldAddr, rd, List.length_cons, List.length_nil, List.take_succ_cons, List.take_zero, List.drop_succ_cons, List.drop_zero, List.drop_nil, List.take_nil, List.set_cons_zero, List.nil_append, List.cons_append, Nat.zero_add, Nat.add_zero, Nat.le_refl, ofCells, K.agg, put1, splice, build, buildFill, sto_agg, cel_int, cel_agg, Bool.true_and, Bool.and_false, beq_self_eq_true, St_get, enumE, callI_func, finK_ret, Ilv.results, resV, all_nil, all_cons, Bool.or_false, x_loop, frz27, lv27_0, lv27_1, lv27_2, lv27_3, lv27_5, cf27_5, lv27_6, ty3, ty26, ty36, ty39, ty60, lenl26, Int.cast_ofNat_Int, Int.reduceLT, Int.reduceLE, Int.reduceToNat, ge_iff_le, hrr, keep27, iC, fn38, pure38, ht38, q1, q2, q3, hlen, B2, Sbox, zC, ha, ha1]
theorem y3al {l : List (Nat × Ilv.Obj)} {n rid : Nat} {pc ev a b c nn site : Int} {rv tv : V} {regs : List Int} (hn : 2 ≤ n) (hr : Regs l rid rv regs) (ha : a < 0) :
    callL cfg 27 [.agg (iC 3 a b c nn site), .agg [.int .i64 pc, rv, tv, .int .i64 ev]] ⟨n, l⟩ = some (.tup [.agg zC, .bool false], St.killVars ⟨n + 3, aset (aset (aset l n (B2 3 a b c nn site)) (n + 1) (Sbox pc rv tv ev)) (n + 2) ⟨4, 0, true, [[.int .i64 0, .nils, .nils, .int .i64 0]]⟩⟩ n) := by
  have hs : code27 = Code.seq _ _ := rfl
  have hrr : fi27.fn.results.toList = [_, _] := rfl
  have hlen := hr.len
  have ht38 : ∀ s, callV (callL cfg) true 38 [.agg [.int .i64 3, .int .i64 a, .int .i64 b, .int .i64 c, .int .i64 nn, .int .i64 site]] s = some (.lit [.int .i64 a, .int .i64 b], s) := fun s => told38 (op := 3) ⟨by decide, by decide⟩ a b c nn site s
  have q1 : (n = n + 1) = False := eq_false (by omega)
  have q2 : (n = n + 2) = False := eq_false (by omega)
  have q3 : (n + 1 = n + 2) = False := eq_false (by omega)
  have q4 : (n + 2 = n + 1) = False := eq_false (by omega)
  have q5 : (n + 1 = n) = False := eq_false (by omega)
  have q6 : (n + 2 = n) = False := eq_false (by omega)
  rw [call27, hs]
  simp (config := { maxSteps := 3000000 }) only [↓x_seq, ↓x_reg, ↓x_drawK, drawK_f, bumps, makes, goCall, writes, List.any_cons, List.any_nil, ↓x_cond, ↓x_block, execL_skip, execL_ret, thn_normal, thn_ret, regK_mk, condK_tt, outB_ret, inss, ins, List.map_cons, List.map_nil, Option.map_none, Option.map_some, Option.bind_some, List.getElem?_toArray, List.getElem?_cons_zero, List.getElem?_cons_succ,
      runI_nil, i_move, i_assign, i_alloc, i_box, i_build, i_load, i_store, i_binOp, i_builtin, runI_call, stepK_none, stepK_set, callK_mk,
      runDI_nil, d_move, d_pick, d_load, d_binOp, d_indexAddr, runDI_guard, guardD_ft, stepD_none, putE_some, putE_none, frzD_some, frzD_none, bnd_some, yes_eq, keepE_nil, keepE_cons, cons1_some, List.contains_cons, List.contains_nil, Bool.or_false, prim_move, prim_assign, prim_alloc, prim_box, prim_build, prim_load, prim_store, prim_binOp, prim_indexAddr, prim_len, prim_pick, true_and, opnd_tmp, opnd_int, opnd_bool, opnds_nil, opnds_cons, popnds_nil, nilS_tmp, nilS_int, bin_lss, aget, aset, aget_aset, aset_aset, cond_true, cond_false, decide_true, ↓reduceIte, eq_self,
      reduceCtorEq, Nat.reduceEqDiff, Nat.reduceLT, Nat.reduceBEq, Nat.reduceAdd, Nat.add_assoc, Nat.add_left_cancel_iff, Nat.one_ne_zero, indexAddr, rd, List.length_cons, List.length_nil, List.take_succ_cons, List.take_zero, List.drop_succ_cons, List.drop_zero, List.drop_nil, List.take_nil, List.set_cons_zero, List.nil_append, List.cons_append, Nat.zero_add, Nat.add_zero, Nat.le_refl, ofCells, K.agg, put1, splice, build, buildFill, sto_agg, cel_int, cel_agg, Bool.true_and, Bool.and_false, beq_self_eq_true, St_get, enumE, callI_func, finK_ret, Ilv.results, resV, all_nil, all_cons, Bool.or_false, x_loop, frz27, lv27_0, lv27_1, lv27_2, lv27_3, lv27_5, cf27_5, lv27_6, ty3, ty26, ty39, ty60, lenl26, Int.cast_ofNat_Int, Int.reduceLT, Int.reduceLE, Int.reduceToNat, hrr, keep27, iC, fn38, pure38, ht38, q1, q2, B2, Sbox, zC, ha]
theorem y3ag {l : List (Nat × Ilv.Obj)} {n rid : Nat} {pc ev a b c nn site : Int} {rv tv : V} {regs : List Int} (hn : 2 ≤ n) (hr : Regs l rid rv regs) (ha : ¬ a < 0) (ha1 : (regs.length : Int) ≤ a) :
    callL cfg 27 [.agg (iC 3 a b c nn site), .agg [.int .i64 pc, rv, tv, .int .i64 ev]] ⟨n, l⟩ = some (.tup [.agg zC, .bool false], St.killVars ⟨n + 3, aset (aset (aset l n (B2 3 a b c nn site)) (n + 1) (Sbox pc rv tv ev)) (n + 2) ⟨4, 0, true, [[.int .i64 0, .nils, .nils, .int .i64 0]]⟩⟩ n) := by
  have hs : code27 = Code.seq _ _ := rfl
  have hrr : fi27.fn.results.toList = [_, _] := rfl
  have hlen := hr.len
  have ht38 : ∀ s, callV (callL cfg) true 38 [.agg [.int .i64 3, .int .i64 a, .int .i64 b, .int .i64 c, .int .i64 nn, .int .i64 site]] s = some (.lit [.int .i64 a, .int .i64 b], s) := fun s => told38 (op := 3) ⟨by decide, by decide⟩ a b c nn site s
  have q1 : (n = n + 1) = False := eq_false (by omega)
  have q2 : (n = n + 2) = False := eq_false (by omega)
  have q3 : (n + 1 = n + 2) = False := eq_false (by omega)
  have q4 : (n + 2 = n + 1) = False := eq_false (by omega)
  have q5 : (n + 1 = n) = False := eq_false (by omega)
  have q6 : (n + 2 = n) = False := eq_false (by omega)
  rw [call27, hs]
  simp (config := { maxSteps := 3000000 }) only [↓x_seq, ↓x_reg, ↓x_drawK, drawK_f, bumps, makes, goCall, writes, List.any_cons, List.any_nil, ↓x_cond, ↓x_block, execL_skip, execL_ret, thn_normal, thn_ret, regK_mk, condK_tt, outB_ret, inss, ins, List.map_cons, List.map_nil, Option.map_none, Option.map_some, Option.bind_some, List.getElem?_toArray, List.getElem?_cons_zero, List.getElem?_cons_succ,
      runI_nil, i_move, i_assign, i_alloc, i_box, i_build, i_load, i_store, i_binOp, i_builtin, runI_call, stepK_none, stepK_set, callK_mk,
      runDI_nil, d_move, d_pick, d_load, d_binOp, d_fieldAddr, d_indexAddr, d_builtin, runDI_guard, guardD_ff, stepD_none, putE_some, putE_none, frzD_some, frzD_none, bnd_some, yes_eq, keepE_nil, keepE_cons, cons1_some, List.contains_cons, List.contains_nil, Bool.or_false, prim_move, prim_assign, prim_alloc, prim_box, prim_build, prim_load, prim_store, prim_binOp, prim_fieldAddr, prim_indexAddr, prim_len, prim_pick, true_and, opnd_tmp, opnd_int, opnd_bool, opnds_nil, opnds_cons, popnds_nil, nilS_tmp, nilS_int, bin_lss, bin_geq, aget, aset, aget_aset, aset_aset, cond_true, cond_false, decide_true, decide_false, ↓reduceIte, eq_self,
      reduceCtorEq, Nat.reduceEqDiff, Nat.reduceLT, Nat.reduceLeDiff, Nat.reduceBEq, Nat.reduceAdd, Nat.add_assoc, Nat.add_left_cancel_iff, Nat.one_ne_zero, indexAddr, fieldAddr, rd, List.length_cons, List.length_nil, List.take_succ_cons, List.take_zero, List.drop_succ_cons, List.drop_zero, List.drop_nil, List.take_nil, List.set_cons_zero, List.nil_append, List.cons_append, Nat.zero_add, Nat.add_zero, Nat.le_refl, ofCells, K.agg, put1, splice, build, buildFill, sto_agg, cel_int, cel_agg, Bool.true_and, Bool.and_false, beq_self_eq_true, St_get, enumE, callI_func, finK_ret, Ilv.results, resV, all_nil, all_cons, Bool.or_false, x_loop, frz27, lv27_0, lv27_1, lv27_2, lv27_3, lv27_5, cf27_5, lv27_6, ty3, ty26, ty36, ty39, ty60, lenl26, Int.cast_ofNat_Int, Int.reduceLT, Int.reduceLE, Int.reduceToNat, ge_iff_le, hrr, keep27, iC, fn38, pure38, ht38, q1, q2, q3, hlen, B2, Sbox, zC, ha, ha1]
theorem y4al {l : List (Nat × Ilv.Obj)} {n rid : Nat} {pc ev a b c nn site : Int} {rv tv : V} {regs : List Int} (hn : 2 ≤ n) (hr : Regs l rid rv regs) (ha : a < 0) :
    callL cfg 27 [.agg (iC 4 a b c nn site), .agg [.int .i64 pc, rv, tv, .int .i64 ev]] ⟨n, l⟩ = some (.tup [.agg zC, .bool false], St.killVars ⟨n + 3, aset (aset (aset l n (B2 4 a b c nn site)) (n + 1) (Sbox pc rv tv ev)) (n + 2) ⟨4, 0, true, [[.int .i64 0, .nils, .nils, .int .i64 0]]⟩⟩ n) := by
  have hs : code27 = Code.seq _ _ := rfl
  have hrr : fi27.fn.results.toList = [_, _] := rfl
  have hlen := hr.len
  have ht38 : ∀ s, callV (callL cfg) true 38 [.agg [.int .i64 4, .int .i64 a, .int .i64 b, .int .i64 c, .int .i64 nn, .int .i64 site]] s = some (.lit [.int .i64 a, .int .i64 b, .int .i64 c], s) := fun s => told38 (op := 4) ⟨by decide, by decide⟩ a b c nn site s
  have q1 : (n = n + 1) = False := eq_false (by omega)
  have q2 : (n = n + 2) = False := eq_false (by omega)
  have q3 : (n + 1 = n + 2) = False := eq_false (by omega)
  have q4 : (n + 2 = n + 1) = False := eq_false (by omega)
  have q5 : (n + 1 = n) = False := eq_false (by omega)
  have q6 : (n + 2 = n) = False := eq_false (by omega)
  rw [call27, hs]
  simp (config := { maxSteps := 3000000 }) only [↓x_seq, ↓x_reg, ↓x_drawK, drawK_f, bumps, makes, goCall, writes, List.any_cons, List.any_nil, ↓x_cond, ↓x_block, execL_skip, execL_ret, thn_normal, thn_ret, regK_mk, condK_tt, outB_ret, inss, ins, List.map_cons, List.map_nil, Option.map_none, Option.map_some, Option.bind_some, List.getElem?_toArray, List.getElem?_cons_zero, List.getElem?_cons_succ,
      runI_nil, i_move, i_assign, i_alloc, i_box, i_build, i_load, i_store, i_binOp, i_builtin, runI_call, stepK_none, stepK_set, callK_mk,
      runDI_nil, d_move, d_pick, d_load, d_binOp, d_indexAddr, runDI_guard, guardD_ft, stepD_none, putE_some, putE_none, frzD_some, frzD_none, bnd_some, yes_eq, keepE_nil, keepE_cons, cons1_some, List.contains_cons, List.contains_nil, Bool.or_false, prim_move, prim_assign, prim_alloc, prim_box, prim_build, prim_load, prim_store, prim_binOp, prim_indexAddr, prim_len, prim_pick, true_and, opnd_tmp, opnd_int, opnd_bool, opnds_nil, opnds_cons, popnds_nil, nilS_tmp, nilS_int, bin_lss, aget, aset, aget_aset, aset_aset, cond_true, cond_false, decide_true, ↓reduceIte, eq_self,
      reduceCtorEq, Nat.reduceEqDiff, Nat.reduceLT, Nat.reduceBEq, Nat.reduceAdd, Nat.add_assoc, Nat.add_left_cancel_iff, Nat.one_ne_zero, indexAddr, rd, List.length_cons, List.length_nil, List.take_succ_cons, List.take_zero, List.drop_succ_cons, List.drop_zero, List.drop_nil, List.take_nil, List.set_cons_zero, List.nil_append, List.cons_append, Nat.zero_add, Nat.add_zero, Nat.le_refl, ofCells, K.agg, put1, splice, build, buildFill, sto_agg, cel_int, cel_agg, Bool.true_and, Bool.and_false, beq_self_eq_true, St_get, enumE, callI_func, finK_ret, Ilv.results, resV, all_nil, all_cons, Bool.or_false, x_loop, frz27, lv27_0, lv27_1, lv27_2, lv27_3, lv27_5, cf27_5, lv27_6, ty3, ty26, ty39, ty60, lenl26, Int.cast_ofNat_Int, Int.reduceLT, Int.reduceLE, Int.reduceToNat, hrr, keep27, iC, fn38, pure38, ht38, q1, q2, B2, Sbox, zC, ha]
theorem y4ag {l : List (Nat × Ilv.Obj)} {n rid : Nat} {pc ev a b c nn site : Int} {rv tv : V} {regs : List Int} (hn : 2 ≤ n) (hr : Regs l rid rv regs) (ha : ¬ a < 0) (ha1 : (regs.length : Int) ≤ a) :
    callL cfg 27 [.agg (iC 4 a b c nn site), .agg [.int .i64 pc, rv, tv, .int .i64 ev]] ⟨n, l⟩ = some (.tup [.agg zC, .bool false], St.killVars ⟨n + 3, aset (aset (aset l n (B2 4 a b c nn site)) (n + 1) (Sbox pc rv tv ev)) (n + 2) ⟨4, 0, true, [[.int .i64 0, .nils, .nils, .int .i64 0]]⟩⟩ n) := by
  have hs : code27 = Code.seq _ _ := rfl
  have hrr : fi27.fn.results.toList = [_, _] := rfl
  have hlen := hr.len
  have ht38 : ∀ s, callV (callL cfg) true 38 [.agg [.int .i64 4, .int .i64 a, .int .i64 b, .int .i64 c, .int .i64 nn, .int .i64 site]] s = some (.lit [.int .i64 a, .int .i64 b, .int .i64 c], s) := fun s => told38 (op := 4) ⟨by decide, by decide⟩ a b c nn site s
  have q1 : (n = n + 1) = False := eq_false (by omega)
  have q2 : (n = n + 2) = False := eq_false (by omega)
  have q3 : (n + 1 = n + 2) = False := eq_false (by omega)
  have q4 : (n + 2 = n + 1) = False := eq_false (by omega)
  have q5 : (n + 1 = n) = False := eq_false (by omega)
  have q6 : (n + 2 = n) = False := eq_false (by omega)
  rw [call27, hs]
  simp (config := { maxSteps := 3000000 }) only [↓x_seq, ↓x_reg, ↓x_drawK, drawK_f, bumps, makes, goCall, writes, List.any_cons, List.any_nil, ↓x_cond, ↓x_block, execL_skip, execL_ret, thn_normal, thn_ret, regK_mk, condK_tt, outB_ret, inss, ins, List.map_cons, List.map_nil, Option.map_none, Option.map_some, Option.bind_some, List.getElem?_toArray, List.getElem?_cons_zero, List.getElem?_cons_succ,
      runI_nil, i_move, i_assign, i_alloc, i_box, i_build, i_load, i_store, i_binOp, i_builtin, runI_call, stepK_none, stepK_set, callK_mk,
      runDI_nil, d_move, d_pick, d_load, d_binOp, d_fieldAddr, d_indexAddr, d_builtin, runDI_guard, guardD_ff, stepD_none, putE_some, putE_none, frzD_some, frzD_none, bnd_some, yes_eq, keepE_nil, keepE_cons, cons1_some, List.contains_cons, List.contains_nil, Bool.or_false, prim_move, prim_assign, prim_alloc, prim_box, prim_build, prim_load, prim_store, prim_binOp, prim_fieldAddr, prim_indexAddr, prim_len, prim_pick, true_and, opnd_tmp, opnd_int, opnd_bool, opnds_nil, opnds_cons, popnds_nil, nilS_tmp, nilS_int, bin_lss, bin_geq, aget, aset, aget_aset, aset_aset, cond_true, cond_false, decide_true, decide_false, ↓reduceIte, eq_self,
      reduceCtorEq, Nat.reduceEqDiff, Nat.reduceLT, Nat.reduceLeDiff, Nat.reduceBEq, Nat.reduceAdd, Nat.add_assoc, Nat.add_left_cancel_iff, Nat.one_ne_zero, indexAddr, fieldAddr, rd, List.length_cons, List.length_nil, List.take_succ_cons, List.take_zero, List.drop_succ_cons, List.drop_zero, List.drop_nil, List.take_nil, List.set_cons_zero, List.nil_append, List.cons_append, Nat.zero_add, Nat.add_zero, Nat.le_refl, ofCells, K.agg, put1, splice, build, buildFill, sto_agg, cel_int, cel_agg, Bool.true_and, Bool.and_false, beq_self_eq_true, St_get, enumE, callI_func, finK_ret, Ilv.results, resV, all_nil, all_cons, Bool.or_false, x_loop, frz27, lv27_0, lv27_1, lv27_2, lv27_3, lv27_5, cf27_5, lv27_6, ty3, ty26, ty36, ty39, ty60, lenl26, Int.cast_ofNat_Int, Int.reduceLT, Int.reduceLE, Int.reduceToNat, ge_iff_le, hrr, keep27, iC, fn38, pure38, ht38, q1, q2, q3, hlen, B2, Sbox, zC, ha, ha1]
theorem y2bl {l : List (Nat × Ilv.Obj)} {n rid : Nat} {pc ev a b c nn site : Int} {rv tv : V} {regs : List Int} (hn : 2 ≤ n) (hr : Regs l rid rv regs) (ha : ¬ a < 0) (ha1 : ¬ (regs.length : Int) ≤ a) (hb : b < 0) :
    callL cfg 27 [.agg (iC 2 a b c nn site), .agg [.int .i64 pc, rv, tv, .int .i64 ev]] ⟨n, l⟩ = some (.tup [.agg zC, .bool false], St.killVars ⟨n + 3, aset (aset (aset l n (B2 2 a b c nn site)) (n + 1) (Sbox pc rv tv ev)) (n + 2) ⟨4, 0, true, [[.int .i64 0, .nils, .nils, .int .i64 0]]⟩⟩ n) := by
  have hs : code27 = Code.seq _ _ := rfl
  have hrr : fi27.fn.results.toList = [_, _] := rfl
  have hlen := hr.len
  have ht38 : ∀ s, callV (callL cfg) true 38 [.agg [.int .i64 2, .int .i64 a, .int .i64 b, .int .i64 c, .int .i64 nn, .int .i64 site]] s = some (.lit [.int .i64 a, .int .i64 b], s) := fun s => told38 (op := 2) ⟨by decide, by decide⟩ a b c nn site s
  have q1 : (n = n + 1) = False := eq_false (by omega)
  have q2 : (n = n + 2) = False := eq_false (by omega)
  have q3 : (n + 1 = n + 2) = False := eq_false (by omega)
  have q4 : (n + 2 = n + 1) = False := eq_false (by omega)
  have q5 : (n + 1 = n) = False := eq_false (by omega)
  have q6 : (n + 2 = n) = False := eq_false (by omega)
  rw [call27, hs]
  simp (config := { maxSteps := 3000000 }) only [↓x_seq, ↓x_reg, ↓x_drawK, drawK_f, bumps, makes, goCall, writes, List.any_cons, List.any_nil, ↓x_cond, ↓x_block, execL_skip, execL_ret, thn_normal, thn_ret, regK_mk, condK_tt, condK_ff, outB_normal, outB_ret, inss, ins, List.map_cons, List.map_nil, Option.map_none, Option.map_some, Option.bind_some, List.getElem?_toArray, List.getElem?_cons_zero, List.getElem?_cons_succ,
      runI_nil, i_move, i_assign, i_alloc, i_box, i_build, i_load, i_store, i_binOp, i_builtin, runI_call, stepK_none, stepK_set, callK_mk,
      runDI_nil, d_move, d_pick, d_load, d_binOp, d_fieldAddr, d_indexAddr, d_builtin, runDI_guard, guardD_ff, guardD_ft, stepD_none, putE_some, putE_none, frzD_some, frzD_none, bnd_some, yes_eq, keepE_nil, keepE_cons, cons1_some, List.contains_cons, List.contains_nil, Bool.or_false, prim_move, prim_assign, prim_alloc, prim_box, prim_build, prim_load, prim_store, prim_binOp, prim_fieldAddr, prim_indexAddr, prim_len, prim_pick, true_and, opnd_tmp, opnd_int, opnd_bool, opnds_nil, opnds_cons, popnds_nil, nilS_tmp, nilS_int, bin_lss, bin_geq, bin_add, aget, aset, aget_aset, aset_aset, cond_true, cond_false, decide_true, decide_false, ↓reduceIte, eq_self,
      reduceCtorEq, Nat.reduceEqDiff, Nat.reduceLT, Nat.reduceLeDiff, Nat.reduceBEq, Nat.reduceAdd, Nat.add_assoc, Nat.add_left_cancel_iff, Nat.one_ne_zero, indexAddr, fieldAddr, rd, List.length_cons, List.length_nil, List.take_succ_cons, List.take_zero, List.drop_succ_cons, List.drop_zero, List.drop_nil, List.take_nil, List.set_cons_zero, List.nil_append, List.cons_append, Nat.zero_add, Nat.add_zero, Nat.le_refl, ofCells, K.agg, put1, splice, build, buildFill, sto_agg, cel_int, cel_agg, Bool.true_and, Bool.and_false, beq_self_eq_true, St_get, enumE, callI_func, finK_ret, Ilv.results, resV, all_nil, all_cons, Bool.or_false, x_loop, frz27, lv27_0, lv27_1, lv27_2, lv27_3, lv27_5, cf27_5, lv27_6, lv27_4, ty3, ty26, ty36, ty39, ty60, lenl26, Int.cast_ofNat_Int, Int.reduceLT, Int.reduceLE, Int.reduceAdd, Int.reduceToNat, ge_iff_le, hrr, keep27, iC, fn38, pure38, ht38, wl1, q1, q2, q3, hlen, B2, Sbox, zC, ha, ha1, hb]
theorem y2bg {l : List (Nat × Ilv.Obj)} {n rid : Nat} {pc ev a b c nn site : Int} {rv tv : V} {regs : List Int} (hn : 2 ≤ n) (hr : Regs l rid rv regs) (ha : ¬ a < 0) (ha1 : ¬ (regs.length : Int) ≤ a) (hb : ¬ b < 0) (hb1 : (regs.length : Int) ≤ b) :
    callL cfg 27 [.agg (iC 2 a b c nn site), .agg [.int .i64 pc, rv, tv, .int .i64 ev]] ⟨n, l⟩ = some (.tup [.agg zC, .bool false], St.killVars ⟨n + 3, aset (aset (aset l n (B2 2 a b c nn site)) (n + 1) (Sbox pc rv tv ev)) (n + 2) ⟨4, 0, true, [[.int .i64 0, .nils, .nils, .int .i64 0]]⟩⟩ n) := by
  have hs : code27 = Code.seq _ _ := rfl
  have hrr : fi27.fn.results.toList = [_, _] := rfl
  have hlen := hr.len
  have ht38 : ∀ s, callV (callL cfg) true 38 [.agg [.int .i64 2, .int .i64 a, .int .i64 b, .int .i64 c, .int .i64 nn, .int .i64 site]] s = some (.lit [.int .i64 a, .int .i64 b], s) := fun s => told38 (op := 2) ⟨by decide, by decide⟩ a b c nn site s
  have q1 : (n = n + 1) = False := eq_false (by omega)
  have q2 : (n = n + 2) = False := eq_false (by omega)
  have q3 : (n + 1 = n + 2) = False := eq_false (by omega)
  have q4 : (n + 2 = n + 1) = False := eq_false (by omega)
  have q5 : (n + 1 = n) = False := eq_false (by omega)
  have q6 : (n + 2 = n) = False := eq_false (by omega)
  rw [call27, hs]
  simp (config := { maxSteps := 3000000 }) only [↓x_seq, ↓x_reg, ↓x_drawK, drawK_f, bumps, makes, goCall, writes, List.any_cons, List.any_nil, ↓x_cond, ↓x_block, execL_skip, execL_ret, thn_normal, thn_ret, regK_mk, condK_tt, condK_ff, outB_normal, outB_ret, inss, ins, List.map_cons, List.map_nil, Option.map_none, Option.map_some, Option.bind_some, List.getElem?_toArray, List.getElem?_cons_zero, List.getElem?_cons_succ,
      runI_nil, i_move, i_assign, i_alloc, i_box, i_build, i_load, i_store, i_binOp, i_builtin, runI_call, stepK_none, stepK_set, callK_mk,
      runDI_nil, d_move, d_pick, d_load, d_binOp, d_fieldAddr, d_indexAddr, d_builtin, runDI_guard, guardD_ff, stepD_none, putE_some, putE_none, frzD_some, frzD_none, bnd_some, yes_eq, keepE_nil, keepE_cons, cons1_some, List.contains_cons, List.contains_nil, Bool.or_false, prim_move, prim_assign, prim_alloc, prim_box, prim_build, prim_load, prim_store, prim_binOp, prim_fieldAddr, prim_indexAddr, prim_len, prim_pick, true_and, opnd_tmp, opnd_int, opnd_bool, opnds_nil, opnds_cons, popnds_nil, nilS_tmp, nilS_int, bin_lss, bin_geq, bin_add, aget, aset, aget_aset, aset_aset, cond_true, cond_false, decide_true, decide_false, ↓reduceIte, eq_self,
      reduceCtorEq, Nat.reduceEqDiff, Nat.reduceLT, Nat.reduceLeDiff, Nat.reduceBEq, Nat.reduceAdd, Nat.add_assoc, Nat.add_left_cancel_iff, Nat.one_ne_zero, indexAddr, fieldAddr, rd, List.length_cons, List.length_nil, List.take_succ_cons, List.take_zero, List.drop_succ_cons, List.drop_zero, List.drop_nil, List.take_nil, List.set_cons_zero, List.nil_append, List.cons_append, Nat.zero_add, Nat.add_zero, Nat.le_refl, ofCells, K.agg, put1, splice, build, buildFill, sto_agg, cel_int, cel_agg, Bool.true_and, Bool.and_false, beq_self_eq_true, St_get, enumE, callI_func, finK_ret, Ilv.results, resV, all_nil, all_cons, Bool.or_false, x_loop, frz27, lv27_0, lv27_1, lv27_2, lv27_3, lv27_5, cf27_5, lv27_6, lv27_4, ty3, ty26, ty36, ty39, ty60, lenl26, Int.cast_ofNat_Int, Int.reduceLT, Int.reduceLE, Int.reduceAdd, Int.reduceToNat, ge_iff_le, hrr, keep27, iC, fn38, pure38, ht38, wl1, q1, q2, q3, hlen, B2, Sbox, zC, ha, ha1, hb, hb1]
theorem y3bl {l : List (Nat × Ilv.Obj)} {n rid : Nat} {pc ev a b c nn site : Int} {rv tv : V} {regs : List Int} (hn : 2 ≤ n) (hr : Regs l rid rv regs) (ha : ¬ a < 0) (ha1 : ¬ (regs.length : Int) ≤ a) (hb : b < 0) :
    callL cfg 27 [.agg (iC 3 a b c nn site), .agg [.int .i64 pc, rv, tv, .int .i64 ev]] ⟨n, l⟩ = some (.tup [.agg zC, .bool false], St.killVars ⟨n + 3, aset (aset (aset l n (B2 3 a b c nn site)) (n + 1) (Sbox pc rv tv ev)) (n + 2) ⟨4, 0, true, [[.int .i64 0, .nils, .nils, .int .i64 0]]⟩⟩ n) := by
  have hs : code27 = Code.seq _ _ := rfl
  have hrr : fi27.fn.results.toList = [_, _] := rfl
  have hlen := hr.len
  have ht38 : ∀ s, callV (callL cfg) true 38 [.agg [.int .i64 3, .int .i64 a, .int .i64 b, .int .i64 c, .int .i64 nn, .int .i64 site]] s = some (.lit [.int .i64 a, .int .i64 b], s) := fun s => told38 (op := 3) ⟨by decide, by decide⟩ a b c nn site s
  have q1 : (n = n + 1) = False := eq_false (by omega)
  have q2 : (n = n + 2) = False := eq_false (by omega)
  have q3 : (n + 1 = n + 2) = False := eq_false (by omega)
  have q4 : (n + 2 = n + 1) = False := eq_false (by omega)
  have q5 : (n + 1 = n) = False := eq_false (by omega)
  have q6 : (n + 2 = n) = False := eq_false (by omega)
  rw [call27, hs]
  simp (config := { maxSteps := 3000000 }) only [↓x_seq, ↓x_reg, ↓x_drawK, drawK_f, bumps, makes, goCall, writes, List.any_cons, List.any_nil, ↓x_cond, ↓x_block, execL_skip, execL_ret, thn_normal, thn_ret, regK_mk, condK_tt, condK_ff, outB_normal, outB_ret, inss, ins, List.map_cons, List.map_nil, Option.map_none, Option.map_some, Option.bind_some, List.getElem?_toArray, List.getElem?_cons_zero, List.getElem?_cons_succ,
      runI_nil, i_move, i_assign, i_alloc, i_box, i_build, i_load, i_store, i_binOp, i_builtin, runI_call, stepK_none, stepK_set, callK_mk,
      runDI_nil, d_move, d_pick, d_load, d_binOp, d_fieldAddr, d_indexAddr, d_builtin, runDI_guard, guardD_ff, guardD_ft, stepD_none, putE_some, putE_none, frzD_some, frzD_none, bnd_some, yes_eq, keepE_nil, keepE_cons, cons1_some, List.contains_cons, List.contains_nil, Bool.or_false, prim_move, prim_assign, prim_alloc, prim_box, prim_build, prim_load, prim_store, prim_binOp, prim_fieldAddr, prim_indexAddr, prim_len, prim_pick, true_and, opnd_tmp, opnd_int, opnd_bool, opnds_nil, opnds_cons, popnds_nil, nilS_tmp, nilS_int, bin_lss, bin_geq, bin_add, aget, aset, aget_aset, aset_aset, cond_true, cond_false, decide_true, decide_false, ↓reduceIte, eq_self,
      reduceCtorEq, Nat.reduceEqDiff, Nat.reduceLT, Nat.reduceLeDiff, Nat.reduceBEq, Nat.reduceAdd, Nat.add_assoc, Nat.add_left_cancel_iff, Nat.one_ne_zero, indexAddr, fieldAddr, rd, List.length_cons, List.length_nil, List.take_succ_cons, List.take_zero, List.drop_succ_cons, List.drop_zero, List.drop_nil, List.take_nil, List.set_cons_zero, List.nil_append, List.cons_append, Nat.zero_add, Nat.add_zero, Nat.le_refl, ofCells, K.agg, put1, splice, build, buildFill, sto_agg, cel_int, cel_agg, Bool.true_and, Bool.and_false, beq_self_eq_true, St_get, enumE, callI_func, finK_ret, Ilv.results, resV, all_nil, all_cons, Bool.or_false, x_loop, frz27, lv27_0, lv27_1, lv27_2, lv27_3, lv27_5, cf27_5, lv27_6, lv27_4, ty3, ty26, ty36, ty39, ty60, lenl26, Int.cast_ofNat_Int, Int.reduceLT, Int.reduceLE, Int.reduceAdd, Int.reduceToNat, ge_iff_le, hrr, keep27, iC, fn38, pure38, ht38, wl1, q1, q2, q3, hlen, B2, Sbox, zC, ha, ha1, hb]
theorem y3bg {l : List (Nat × Ilv.Obj)} {n rid : Nat} {pc ev a b c nn site : Int} {rv tv : V} {regs : List Int} (hn : 2 ≤ n) (hr : Regs l rid rv regs) (ha : ¬ a < 0) (ha1 : ¬ (regs.length : Int) ≤ a) (hb : ¬ b < 0) (hb1 : (regs.length : Int) ≤ b) :
    callL cfg 27 [.agg (iC 3 a b c nn site), .agg [.int .i64 pc, rv, tv, .int .i64 ev]] ⟨n, l⟩ = some (.tup [.agg zC, .bool false], St.killVars ⟨n + 3, aset (aset (aset l n (B2 3 a b c nn site)) (n + 1) (Sbox pc rv tv ev)) (n + 2) ⟨4, 0, true, [[.int .i64 0, .nils, .nils, .int .i64 0]]⟩⟩ n) := by
  have hs : code27 = Code.seq _ _ := rfl
  have hrr : fi27.fn.results.toList = [_, _] := rfl
  have hlen := hr.len
  have ht38 : ∀ s, callV (callL cfg) true 38 [.agg [.int .i64 3, .int .i64 a, .int .i64 b, .int .i64 c, .int .i64 nn, .int .i64 site]] s = some (.lit [.int .i64 a, .int .i64 b], s) := fun s => told38 (op := 3) ⟨by decide, by decide⟩ a b c nn site s
  have q1 : (n = n + 1) = False := eq_false (by omega)
  have q2 : (n = n + 2) = False := eq_false (by omega)
  have q3 : (n + 1 = n + 2) = False := eq_false (by omega)
  have q4 : (n + 2 = n + 1) = False := eq_false (by omega)
  have q5 : (n + 1 = n) = False := eq_false (by omega)
  have q6 : (n + 2 = n) = False := eq_false (by omega)
  rw [call27, hs]
  simp (config := { maxSteps := 3000000 }) only [↓x_seq, ↓x_reg, ↓x_drawK, drawK_f, bumps, makes, goCall, writes, List.any_cons, List.any_nil, ↓x_cond, ↓x_block, execL_skip, execL_ret, thn_normal, thn_ret, regK_mk, condK_tt, condK_ff, outB_normal, outB_ret, inss, ins, List.map_cons, List.map_nil, Option.map_none, Option.map_some, Option.bind_some, List.getElem?_toArray, List.getElem?_cons_zero, List.getElem?_cons_succ,
      runI_nil, i_move, i_assign, i_alloc, i_box, i_build, i_load, i_store, i_binOp, i_builtin, runI_call, stepK_none, stepK_set, callK_mk,
      runDI_nil, d_move, d_pick, d_load, d_binOp, d_fieldAddr, d_indexAddr, d_builtin, runDI_guard, guardD_ff, stepD_none, putE_some, putE_none, frzD_some, frzD_none, bnd_some, yes_eq, keepE_nil, keepE_cons, cons1_some, List.contains_cons, List.contains_nil, Bool.or_false, prim_move, prim_assign, prim_alloc, prim_box, prim_build, prim_load, prim_store, prim_binOp, prim_fieldAddr, prim_indexAddr, prim_len, prim_pick, true_and, opnd_tmp, opnd_int, opnd_bool, opnds_nil, opnds_cons, popnds_nil, nilS_tmp, nilS_int, bin_lss, bin_geq, bin_add, aget, aset, aget_aset, aset_aset, cond_true, cond_false, decide_true, decide_false, ↓reduceIte, eq_self,
      reduceCtorEq, Nat.reduceEqDiff, Nat.reduceLT, Nat.reduceLeDiff, Nat.reduceBEq, Nat.reduceAdd, Nat.add_assoc, Nat.add_left_cancel_iff, Nat.one_ne_zero, indexAddr, fieldAddr, rd, List.length_cons, List.length_nil, List.take_succ_cons, List.take_zero, List.drop_succ_cons, List.drop_zero, List.drop_nil, List.take_nil, List.set_cons_zero, List.nil_append, List.cons_append, Nat.zero_add, Nat.add_zero, Nat.le_refl, ofCells, K.agg, put1, splice, build, buildFill, sto_agg, cel_int, cel_agg, Bool.true_and, Bool.and_false, beq_self_eq_true, St_get, enumE, callI_func, finK_ret, Ilv.results, resV, all_nil, all_cons, Bool.or_false, x_loop, frz27, lv27_0, lv27_1, lv27_2, lv27_3, lv27_5, cf27_5, lv27_6, lv27_4, ty3, ty26, ty36, ty39, ty60, lenl26, Int.cast_ofNat_Int, Int.reduceLT, Int.reduceLE, Int.reduceAdd, Int.reduceToNat, ge_iff_le, hrr, keep27, iC, fn38, pure38, ht38, wl1, q1, q2, q3, hlen, B2, Sbox, zC, ha, ha1, hb, hb1]
theorem y4bl {l : List (Nat × Ilv.Obj)} {n rid : Nat} {pc ev a b c nn site : Int} {rv tv : V} {regs : List Int} (hn : 2 ≤ n) (hr : Regs l rid rv regs) (ha : ¬ a < 0) (ha1 : ¬ (regs.length : Int) ≤ a) (hb : b < 0) :
    callL cfg 27 [.agg (iC 4 a b c nn site), .agg [.int .i64 pc, rv, tv, .int .i64 ev]] ⟨n, l⟩ = some (.tup [.agg zC, .bool false], St.killVars ⟨n + 3, aset (aset (aset l n (B2 4 a b c nn site)) (n + 1) (Sbox pc rv tv ev)) (n + 2) ⟨4, 0, true, [[.int .i64 0, .nils, .nils, .int .i64 0]]⟩⟩ n) := by
  have hs : code27 = Code.seq _ _ := rfl
  have hrr : fi27.fn.results.toList = [_, _] := rfl
  have hlen := hr.len
  have ht38 : ∀ s, callV (callL cfg) true 38 [.agg [.int .i64 4, .int .i64 a, .int .i64 b, .int .i64 c, .int .i64 nn, .int .i64 site]] s = some (.lit [.int .i64 a, .int .i64 b, .int .i64 c], s) := fun s => told38 (op := 4) ⟨by decide, by decide⟩ a b c nn site s
  have q1 : (n = n + 1) = False := eq_false (by omega)
  have q2 : (n = n + 2) = False := eq_false (by omega)
  have q3 : (n + 1 = n + 2) = False := eq_false (by omega)
  have q4 : (n + 2 = n + 1) = False := eq_false (by omega)
  have q5 : (n + 1 = n) = False := eq_false (by omega)
  have q6 : (n + 2 = n) = False := eq_false (by omega)
  rw [call27, hs]
  simp (config := { maxSteps := 3000000 }) only [↓x_seq, ↓x_reg, ↓x_drawK, drawK_f, bumps, makes, goCall, writes, List.any_cons, List.any_nil, ↓x_cond, ↓x_block, execL_skip, execL_ret, thn_normal, thn_ret, regK_mk, condK_tt, condK_ff, outB_normal, outB_ret, inss, ins, List.map_cons, List.map_nil, Option.map_none, Option.map_some, Option.bind_some, List.getElem?_toArray, List.getElem?_cons_zero, List.getElem?_cons_succ,
      runI_nil, i_move, i_assign, i_alloc, i_box, i_build, i_load, i_store, i_binOp, i_builtin, runI_call, stepK_none, stepK_set, callK_mk,
      runDI_nil, d_move, d_pick, d_load, d_binOp, d_fieldAddr, d_indexAddr, d_builtin, runDI_guard, guardD_ff, guardD_ft, stepD_none, putE_some, putE_none, frzD_some, frzD_none, bnd_some, yes_eq, keepE_nil, keepE_cons, cons1_some, List.contains_cons, List.contains_nil, Bool.or_false, prim_move, prim_assign, prim_alloc, prim_box, prim_build, prim_load, prim_store, prim_binOp, prim_fieldAddr, prim_indexAddr, prim_len, prim_pick, true_and, opnd_tmp, opnd_int, opnd_bool, opnds_nil, opnds_cons, popnds_nil, nilS_tmp, nilS_int, bin_lss, bin_geq, bin_add, aget, aset, aget_aset, aset_aset, cond_true, cond_false, decide_true, decide_false, ↓reduceIte, eq_self,
      reduceCtorEq, Nat.reduceEqDiff, Nat.reduceLT, Nat.reduceLeDiff, Nat.reduceBEq, Nat.reduceAdd, Nat.add_assoc, Nat.add_left_cancel_iff, Nat.one_ne_zero, indexAddr, fieldAddr, rd, List.length_cons, List.length_nil, List.take_succ_cons, List.take_zero, List.drop_succ_cons, List.drop_zero, List.drop_nil, List.take_nil, List.set_cons_zero, List.nil_append, List.cons_append, Nat.zero_add, Nat.add_zero, Nat.le_refl, ofCells, K.agg, put1, splice, build, buildFill, sto_agg, cel_int, cel_agg, Bool.true_and, Bool.and_false, beq_self_eq_true, St_get, enumE, callI_func, finK_ret, Ilv.results, resV, all_nil, all_cons, Bool.or_false, x_loop, frz27, lv27_0, lv27_1, lv27_2, lv27_3, lv27_5, cf27_5, lv27_6, lv27_4, ty3, ty26, ty36, ty39, ty60, lenl26, Int.cast_ofNat_Int, Int.reduceLT, Int.reduceLE, Int.reduceAdd, Int.reduceToNat, ge_iff_le, hrr, keep27, iC, fn38, pure38, ht38, wl1, q1, q2, q3, hlen, B2, Sbox, zC, ha, ha1, hb]
theorem y4bg {l : List (Nat × Ilv.Obj)} {n rid : Nat} {pc ev a b c nn site : Int} {rv tv : V} {regs : List Int} (hn : 2 ≤ n) (hr : Regs l rid rv regs) (ha : ¬ a < 0) (ha1 : ¬ (regs.length : Int) ≤ a) (hb : ¬ b < 0) (hb1 : (regs.length : Int) ≤ b) :
    callL cfg 27 [.agg (iC 4 a b c nn site), .agg [.int .i64 pc, rv, tv, .int .i64 ev]] ⟨n, l⟩ = some (.tup [.agg zC, .bool false], St.killVars ⟨n + 3, aset (aset (aset l n (B2 4 a b c nn site)) (n + 1) (Sbox pc rv tv ev)) (n + 2) ⟨4, 0, true, [[.int .i64 0, .nils, .nils, .int .i64 0]]⟩⟩ n) := by
  have hs : code27 = Code.seq _ _ := rfl
  have hrr : fi27.fn.results.toList = [_, _] := rfl
  have hlen := hr.len
  have ht38 : ∀ s, callV (callL cfg) true 38 [.agg [.int .i64 4, .int .i64 a, .int .i64 b, .int .i64 c, .int .i64 nn, .int .i64 site]] s = some (.lit [.int .i64 a, .int .i64 b, .int .i64 c], s) := fun s => told38 (op := 4) ⟨by decide, by decide⟩ a b c nn site s
  have q1 : (n = n + 1) = False := eq_false (by omega)
  have q2 : (n = n + 2) = False := eq_false (by omega)
  have q3 : (n + 1 = n + 2) = False := eq_false (by omega)
  have q4 : (n + 2 = n + 1) = False := eq_false (by omega)
  have q5 : (n + 1 = n) = False := eq_false (by omega)
  have q6 : (n + 2 = n) = False := eq_false (by omega)
  rw [call27, hs]
  simp (config := { maxSteps := 3000000 }) only [↓x_seq, ↓x_reg, ↓x_drawK, drawK_f, bumps, makes, goCall, writes, List.any_cons, List.any_nil, ↓x_cond, ↓x_block, execL_skip, execL_ret, thn_normal, thn_ret, regK_mk, condK_tt, condK_ff, outB_normal, outB_ret, inss, ins, List.map_cons, List.map_nil, Option.map_none, Option.map_some, Option.bind_some, List.getElem?_toArray, List.getElem?_cons_zero, List.getElem?_cons_succ,
      runI_nil, i_move, i_assign, i_alloc, i_box, i_build, i_load, i_store, i_binOp, i_builtin, runI_call, stepK_none, stepK_set, callK_mk,
      runDI_nil, d_move, d_pick, d_load, d_binOp, d_fieldAddr, d_indexAddr, d_builtin, runDI_guard, guardD_ff, stepD_none, putE_some, putE_none, frzD_some, frzD_none, bnd_some, yes_eq, keepE_nil, keepE_cons, cons1_some, List.contains_cons, List.contains_nil, Bool.or_false, prim_move, prim_assign, prim_alloc, prim_box, prim_build, prim_load, prim_store, prim_binOp, prim_fieldAddr, prim_indexAddr, prim_len, prim_pick, true_and, opnd_tmp, opnd_int, opnd_bool, opnds_nil, opnds_cons, popnds_nil, nilS_tmp, nilS_int, bin_lss, bin_geq, bin_add, aget, aset, aget_aset, aset_aset, cond_true, cond_false, decide_true, decide_false, ↓reduceIte, eq_self,
      reduceCtorEq, Nat.reduceEqDiff, Nat.reduceLT, Nat.reduceLeDiff, Nat.reduceBEq, Nat.reduceAdd, Nat.add_assoc, Nat.add_left_cancel_iff, Nat.one_ne_zero, indexAddr, fieldAddr, rd, List.length_cons, List.length_nil, List.take_succ_cons, List.take_zero, List.drop_succ_cons, List.drop_zero, List.drop_nil, List.take_nil, List.set_cons_zero, List.nil_append, List.cons_append, Nat.zero_add, Nat.add_zero, Nat.le_refl, ofCells, K.agg, put1, splice, build, buildFill, sto_agg, cel_int, cel_agg, Bool.true_and, Bool.and_false, beq_self_eq_true, St_get, enumE, callI_func, finK_ret, Ilv.results, resV, all_nil, all_cons, Bool.or_false, x_loop, frz27, lv27_0, lv27_1, lv27_2, lv27_3, lv27_5, cf27_5, lv27_6, lv27_4, ty3, ty26, ty36, ty39, ty60, lenl26, Int.cast_ofNat_Int, Int.reduceLT, Int.reduceLE, Int.reduceAdd, Int.reduceToNat, ge_iff_le, hrr, keep27, iC, fn38, pure38, ht38, wl1, q1, q2, q3, hlen, B2, Sbox, zC, ha, ha1, hb, hb1]
theorem y4cl {l : List (Nat × Ilv.Obj)} {n rid : Nat} {pc ev a b c nn site : Int} {rv tv : V} {regs : List Int} (hn : 2 ≤ n) (hr : Regs l rid rv regs) (ha : ¬ a < 0) (ha1 : ¬ (regs.length : Int) ≤ a) (hb : ¬ b < 0) (hb1 : ¬ (regs.length : Int) ≤ b) (hc : c < 0) :
    callL cfg 27 [.agg (iC 4 a b c nn site), .agg [.int .i64 pc, rv, tv, .int .i64 ev]] ⟨n, l⟩ = some (.tup [.agg zC, .bool false], St.killVars ⟨n + 3, aset (aset (aset l n (B2 4 a b c nn site)) (n + 1) (Sbox pc rv tv ev)) (n + 2) ⟨4, 0, true, [[.int .i64 0, .nils, .nils, .int .i64 0]]⟩⟩ n) := by
  have hs : code27 = Code.seq _ _ := rfl
  have hrr : fi27.fn.results.toList = [_, _] := rfl
  have hlen := hr.len
  have ht38 : ∀ s, callV (callL cfg) true 38 [.agg [.int .i64 4, .int .i64 a, .int .i64 b, .int .i64 c, .int .i64 nn, .int .i64 site]] s = some (.lit [.int .i64 a, .int .i64 b, .int .i64 c], s) := fun s => told38 (op := 4) ⟨by decide, by decide⟩ a b c nn site s
  have q1 : (n = n + 1) = False := eq_false (by omega)
  have q2 : (n = n + 2) = False := eq_false (by omega)
  have q3 : (n + 1 = n + 2) = False := eq_false (by omega)
  have q4 : (n + 2 = n + 1) = False := eq_false (by omega)
  have q5 : (n + 1 = n) = False := eq_false (by omega)
  have q6 : (n + 2 = n) = False := eq_false (by omega)
  rw [call27, hs]
  simp (config := { maxSteps := 3000000 }) only [↓x_seq, ↓x_reg, ↓x_drawK, drawK_f, bumps, makes, goCall, writes, List.any_cons, List.any_nil, ↓x_cond, ↓x_block, execL_skip, execL_ret, thn_normal, thn_ret, regK_mk, condK_tt, condK_ff, outB_normal, outB_ret, inss, ins, List.map_cons, List.map_nil, Option.map_none, Option.map_some, Option.bind_some, List.getElem?_toArray, List.getElem?_cons_zero, List.getElem?_cons_succ,
      runI_nil, i_move, i_assign, i_alloc, i_box, i_build, i_load, i_store, i_binOp, i_builtin, runI_call, stepK_none, stepK_set, callK_mk,
      runDI_nil, d_move, d_pick, d_load, d_binOp, d_fieldAddr, d_indexAddr, d_builtin, runDI_guard, guardD_ff, guardD_ft, stepD_none, putE_some, putE_none, frzD_some, frzD_none, bnd_some, yes_eq, keepE_nil, keepE_cons, cons1_some, List.contains_cons, List.contains_nil, Bool.or_false, prim_move, prim_assign, prim_alloc, prim_box, prim_build, prim_load, prim_store, prim_binOp, prim_fieldAddr, prim_indexAddr, prim_len, prim_pick, true_and, opnd_tmp, opnd_int, opnd_bool, opnds_nil, opnds_cons, popnds_nil, nilS_tmp, nilS_int, bin_lss, bin_geq, bin_add, aget, aset, aget_aset, aset_aset, cond_true, cond_false, decide_true, decide_false, ↓reduceIte, eq_self,
      reduceCtorEq, Nat.reduceEqDiff, Nat.reduceLT, Nat.reduceLeDiff, Nat.reduceBEq, Nat.reduceAdd, Nat.add_assoc, Nat.add_left_cancel_iff, Nat.one_ne_zero, indexAddr, fieldAddr, rd, List.length_cons, List.length_nil, List.take_succ_cons, List.take_zero, List.drop_succ_cons, List.drop_zero, List.drop_nil, List.take_nil, List.set_cons_zero, List.nil_append, List.cons_append, Nat.zero_add, Nat.add_zero, Nat.le_refl, ofCells, K.agg, put1, splice, build, buildFill, sto_agg, cel_int, cel_agg, Bool.true_and, Bool.and_false, beq_self_eq_true, St_get, enumE, callI_func, finK_ret, Ilv.results, resV, all_nil, all_cons, Bool.or_false, x_loop, frz27, lv27_0, lv27_1, lv27_2, lv27_3, lv27_5, cf27_5, lv27_6, lv27_4, ty3, ty26, ty36, ty39, ty60, lenl26, Int.cast_ofNat_Int, Int.reduceLT, Int.reduceLE, Int.reduceAdd, Int.reduceToNat, ge_iff_le, hrr, keep27, iC, fn38, pure38, ht38, wl1, wl2, q1, q2, q3, hlen, B2, Sbox, zC, ha, ha1, hb, hb1, hc]
theorem y4cg {l : List (Nat × Ilv.Obj)} {n rid : Nat} {pc ev a b c nn site : Int} {rv tv : V} {regs : List Int} (hn : 2 ≤ n) (hr : Regs l rid rv regs) (ha : ¬ a < 0) (ha1 : ¬ (regs.length : Int) ≤ a) (hb : ¬ b < 0) (hb1 : ¬ (regs.length : Int) ≤ b) (hc : ¬ c < 0) (hc1 : (regs.length : Int) ≤ c) :
    callL cfg 27 [.agg (iC 4 a b c nn site), .agg [.int .i64 pc, rv, tv, .int .i64 ev]] ⟨n, l⟩ = some (.tup [.agg zC, .bool false], St.killVars ⟨n + 3, aset (aset (aset l n (B2 4 a b c nn site)) (n + 1) (Sbox pc rv tv ev)) (n + 2) ⟨4, 0, true, [[.int .i64 0, .nils, .nils, .int .i64 0]]⟩⟩ n) := by
  have hs : code27 = Code.seq _ _ := rfl
  have hrr : fi27.fn.results.toList = [_, _] := rfl
  have hlen := hr.len
  have ht38 : ∀ s, callV (callL cfg) true 38 [.agg [.int .i64 4, .int .i64 a, .int .i64 b, .int .i64 c, .int .i64 nn, .int .i64 site]] s = some (.lit [.int .i64 a, .int .i64 b, .int .i64 c], s) := fun s => told38 (op := 4) ⟨by decide, by decide⟩ a b c nn site s
  have q1 : (n = n + 1) = False := eq_false (by omega)
  have q2 : (n = n + 2) = False := eq_false (by omega)
  have q3 : (n + 1 = n + 2) = False := eq_false (by omega)
  have q4 : (n + 2 = n + 1) = False := eq_false (by omega)
  have q5 : (n + 1 = n) = False := eq_false (by omega)
  have q6 : (n + 2 = n) = False := eq_false (by omega)
  rw [call27, hs]
  simp (config := { maxSteps := 3000000 }) only [↓x_seq, ↓x_reg, ↓x_drawK, drawK_f, bumps, makes, goCall, writes, List.any_cons, List.any_nil, ↓x_cond, ↓x_block, execL_skip, execL_ret, thn_normal, thn_ret, regK_mk, condK_tt, condK_ff, outB_normal, outB_ret, inss, ins, List.map_cons, List.map_nil, Option.map_none, Option.map_some, Option.bind_some, List.getElem?_toArray, List.getElem?_cons_zero, List.getElem?_cons_succ,
      runI_nil, i_move, i_assign, i_alloc, i_box, i_build, i_load, i_store, i_binOp, i_builtin, runI_call, stepK_none, stepK_set, callK_mk,
      runDI_nil, d_move, d_pick, d_load, d_binOp, d_fieldAddr, d_indexAddr, d_builtin, runDI_guard, guardD_ff, stepD_none, putE_some, putE_none, frzD_some, frzD_none, bnd_some, yes_eq, keepE_nil, keepE_cons, cons1_some, List.contains_cons, List.contains_nil, Bool.or_false, prim_move, prim_assign, prim_alloc, prim_box, prim_build, prim_load, prim_store, prim_binOp, prim_fieldAddr, prim_indexAddr, prim_len, prim_pick, true_and, opnd_tmp, opnd_int, opnd_bool, opnds_nil, opnds_cons, popnds_nil, nilS_tmp, nilS_int, bin_lss, bin_geq, bin_add, aget, aset, aget_aset, aset_aset, cond_true, cond_false, decide_true, decide_false, ↓reduceIte, eq_self,
      reduceCtorEq, Nat.reduceEqDiff, Nat.reduceLT, Nat.reduceLeDiff, Nat.reduceBEq, Nat.reduceAdd, Nat.add_assoc, Nat.add_left_cancel_iff, Nat.one_ne_zero, indexAddr, fieldAddr, rd, List.length_cons, List.length_nil, List.take_succ_cons, List.take_zero, List.drop_succ_cons, List.drop_zero, List.drop_nil, List.take_nil, List.set_cons_zero, List.nil_append, List.cons_append, Nat.zero_add, Nat.add_zero, Nat.le_refl, ofCells, K.agg, put1, splice, build, buildFill, sto_agg, cel_int, cel_agg, Bool.true_and, Bool.and_false, beq_self_eq_true, St_get, enumE, callI_func, finK_ret, Ilv.results, resV, all_nil, all_cons, Bool.or_false, x_loop, frz27, lv27_0, lv27_1, lv27_2, lv27_3, lv27_5, cf27_5, lv27_6, lv27_4, ty3, ty26, ty36, ty39, ty60, lenl26, Int.cast_ofNat_Int, Int.reduceLT, Int.reduceLE, Int.reduceAdd, Int.reduceToNat, ge_iff_le, hrr, keep27, iC, fn38, pure38, ht38, wl1, wl2, q1, q2, q3, hlen, B2, Sbox, zC, ha, ha1, hb, hb1, hc, hc1]
end Go.Proofs.YtdCfgT

/- The reference's step, case by case. -/
set_option maxRecDepth 100000
set_option linter.unusedSimpArgs false
set_option linter.unusedVariables false
namespace Go.Proofs.YtdCfgT
open Go Go.Ilv
theorem y1 {l : List (Nat × Ilv.Obj)} {n rid tid ver : Nat} {pc ev a b c nn site : Int} {regs : List Int} {tcs : List V} (hn : 2 ≤ n) (hrid : rid < n) (htid : tid < n) (d3 : rid ≠ tid) (hR : aget l rid = some ⟨1, 0, false, regs.map intRow⟩) (hT : aget l tid = some ⟨1, ver, false, tcs.map row1⟩) (ht : tcs.length = regs.length) (ha0 : 0 ≤ a) (ha1 : a < (regs.length : Int)) {xa : Int} {va : V} (ga : (regs.map intRow)[a.toNat]? = some [.int .i64 xa]) (gta : (tcs.map row1)[a.toNat]? = some [va])  :
    callL cfg 27 [.agg (iC 1 a b c nn site), .agg [.int .i64 pc, .ref rid 0 1 0 regs.length, .ref tid ver 1 0 tcs.length, .int .i64 ev]] ⟨n, l⟩ = some (.tup [.agg [.int .i64 (IntKind.i64.wrap (pc + 1)), .ref rid 0 1 0 regs.length, .ref tid ver 1 0 tcs.length, .int .i64 ev], .bool true], St.killVars ⟨n + 3, aset (aset (aset (aset (aset (aset (aset l n (B2 1 a b c nn site)) (n + 1) (Sbox pc (.ref rid 0 1 0 regs.length) (.ref tid ver 1 0 tcs.length) ev)) (n + 2) ⟨4, 0, true, [[.int .i64 0, .nils, .nils, .int .i64 0]]⟩) rid ⟨1, 0, false, (regs.set a.toNat nn).map intRow⟩) tid ⟨1, ver, false, (tcs.set a.toNat .nils).map row1⟩) (n + 1) (Sbox (IntKind.i64.wrap (pc + 1)) (.ref rid 0 1 0 regs.length) (.ref tid ver 1 0 tcs.length) ev)) (n + 2) (Sbox (IntKind.i64.wrap (pc + 1)) (.ref rid 0 1 0 regs.length) (.ref tid ver 1 0 tcs.length) ev)⟩ n) := by
  have hs : code27 = Code.seq _ _ := rfl
  have hrr : fi27.fn.results.toList = [_, _] := rfl
  have ha0' : ¬ a < 0 := by omega
  have ha1' : ¬ (regs.length : Int) ≤ a := by omega
  have hat : a < (tcs.length : Int) := by omega
  have e1 : ∀ v : Int, (regs.map intRow).set a.toNat [.int .i64 v] = (regs.set a.toNat v).map intRow := fun v => by rw [List.map_set]; rfl
  have e2 : (tcs.map row1).set a.toNat [.nils] = (tcs.set a.toNat .nils).map row1 := by rw [List.map_set]; rfl
  have hfz : ∀ s id, appendOp cfg true s id 3 .nils .nils = some (.nils, .none) := fun _ _ => rfl
  have ht38 : ∀ s, callV (callL cfg) true 38 [.agg [.int .i64 1, .int .i64 a, .int .i64 b, .int .i64 c, .int .i64 nn, .int .i64 site]] s = some (.lit [.int .i64 a], s) := fun s => told38 (op := 1) ⟨by decide, by decide⟩ a b c nn site s
  have q1 : (n = n + 1) = False := eq_false (by omega)
  have q2 : (n = n + 2) = False := eq_false (by omega)
  have q3 : (n + 1 = n + 2) = False := eq_false (by omega)
  have q4 : (n + 2 = n + 1) = False := eq_false (by omega)
  have q5 : (n + 1 = n) = False := eq_false (by omega)
  have q6 : (n + 2 = n) = False := eq_false (by omega)
  have r0 : (rid = n) = False := eq_false (by omega)
  have r1 : (rid = n + 1) = False := eq_false (by omega)
  have r2 : (rid = n + 2) = False := eq_false (by omega)
  have r3 : (tid = n) = False := eq_false (by omega)
  have r4 : (tid = n + 1) = False := eq_false (by omega)
  have r5 : (tid = n + 2) = False := eq_false (by omega)
  have r6 : (n = rid) = False := eq_false (by omega)
  have r7 : (n + 1 = rid) = False := eq_false (by omega)
  have r8 : (n + 2 = rid) = False := eq_false (by omega)
  have r9 : (n = tid) = False := eq_false (by omega)
  have r10 : (n + 1 = tid) = False := eq_false (by omega)
  have r11 : (n + 2 = tid) = False := eq_false (by omega)
  have r12 : (rid = tid) = False := eq_false (by omega)
  have r13 : (tid = rid) = False := eq_false (by omega)
  have r14 : (rid = n + 3) = False := eq_false (by omega)
  have r15 : (tid = n + 3) = False := eq_false (by omega)
  have r16 : (n + 1 = n + 3) = False := eq_false (by omega)
  have r17 : (n + 2 = n + 3) = False := eq_false (by omega)
  have b1 : (n + 1 == rid) = false := beq_eq_false_iff_ne.2 (by omega)
  have b2 : (rid == n + 1) = false := beq_eq_false_iff_ne.2 (by omega)
  have b3 : (n == rid) = false := beq_eq_false_iff_ne.2 (by omega)
  have b4 : (rid == n) = false := beq_eq_false_iff_ne.2 (by omega)
  rw [call27, hs]
  simp (config := { maxSteps := 3000000 }) only [↓x_seq, ↓x_reg, ↓x_drawK, drawK_f, bumps, makes, goCall, writes, frzOf, List.any_cons, List.any_nil, List.size_toArray, ↓x_cond, ↓x_block, execL_skip, execL_exit, execL_ret, thn_normal, thn_exit, regK_mk, condK_tt, condK_ff, outB_normal, outB_exit, inss, ins, List.map_cons, List.map_nil, Option.map_none, Option.map_some, Option.bind_some, List.getElem?_toArray, List.getElem?_cons_zero, List.getElem?_cons_succ,
      runI_nil, i_move, i_assign, i_alloc, i_box, i_load, i_store, i_binOp, i_fieldAddr, i_builtin, runI_call, stepK_none, stepK_set, callK_mk,
      runDI_nil, d_move, d_pick, d_load, d_binOp, d_fieldAddr, d_indexAddr, d_builtin, runDI_guard, guardD_ff, stepD_none, putE_some, putE_none, frzD_some, frzD_none, bnd_some, yes_eq, keepE_nil, keepE_cons, cons1_some, List.contains_cons, List.contains_nil, Bool.or_false, Bool.or_true, prim_move, prim_assign, prim_alloc, prim_box, prim_load, prim_store, prim_binOp, prim_fieldAddr, prim_indexAddr, prim_len, prim_append, prim_pick, prim_buildSlice0, true_and, and_true,
      opnd_tmp, opnd_int, opnd_bool, opnd_nils, opnds_nil, opnds_cons, nilS_tmp, nilS_int, bin_eql, bin_lss, bin_geq, bin_add, aget, aset, aget_aset, cond_true, cond_false, decide_true, decide_false, ↓reduceIte, eq_self,
      reduceCtorEq, Nat.reduceEqDiff, Nat.reduceLT, Nat.reduceLeDiff, Nat.reduceBEq, Nat.reduceAdd, Nat.add_assoc, Nat.one_ne_zero, indexAddr, fieldAddr, rd, List.length_cons, List.length_nil, List.take_succ_cons, List.take_zero, List.drop_succ_cons, List.drop_zero, List.drop_nil, List.take_nil, List.set_cons_zero, List.nil_append, List.cons_append, List.append_nil, Nat.zero_add, Nat.add_zero, Nat.le_refl, ofCells, K.agg, put1, splice, sto_int, sto_agg, sto_nils, cel_int, cel_agg, cel_nils, Bool.true_and, Bool.and_true, Bool.and_false, Bool.not_true, Bool.not_false, beq_self_eq_true, St_get, List.all_cons, List.all_nil, elemTy, enumE, callI_func, finK_ret, Ilv.results, resV, all_nil, all_cons, Bool.or_false, x_loop, frz27, lv27_0, lv27_1, lv27_2, lv27_3, lv27_5, cf27_5, lv27_4, lv27_7, lv27_8, lv27_9, lv27_12, lv27_15, lv27_16, lv27_22, cf27_22, lv27_23, lv27_24, ty2, ty3, ty26, ty36, ty37, ty39, ty60, lenl26, lenr36, Int.cast_ofNat_Int, Int.reduceEq, Int.reduceLT, Int.reduceLE, Int.reduceAdd, Int.reduceToNat, ge_iff_le, drawK_some, runDF_nil, f_move, f_buildSlice, f_load, f_store, f_fieldAddr, f_indexAddr, f_builtin, stepF_none, stepF_set, footK_mk, footP_load, footP_store, footP_append, footP_move, footP_buildSlice, footP_fieldAddr, footP_indexAddr, footW_none, footW_set, footR_some, footA_some, idOf, footAt_eq, Option.getD_some, indep_cells, apartL_nil, apartL_cons, List.flatMap_cons, List.flatMap_nil, hrr, keep27, iC, fn38, pure38, ht38, wl1, q1, q2, q3, q4, r0, r1, r2, r3, r4, r5, r7, r8, r10, r11, r13, r16, r17, b2, b4, hR, hT, ha0, ha1, ha0', ha1', hat, ga, gta, e1, e2, B2, Sbox, hfz]
theorem y2 {l : List (Nat × Ilv.Obj)} {n rid tid ver : Nat} {pc ev a b c nn site : Int} {regs : List Int} {tcs : List V} (hn : 2 ≤ n) (hrid : rid < n) (htid : tid < n) (d3 : rid ≠ tid) (hR : aget l rid = some ⟨1, 0, false, regs.map intRow⟩) (hT : aget l tid = some ⟨1, ver, false, tcs.map row1⟩) (ht : tcs.length = regs.length) (ha0 : 0 ≤ a) (ha1 : a < (regs.length : Int)) {xa : Int} {va : V} (ga : (regs.map intRow)[a.toNat]? = some [.int .i64 xa]) (gta : (tcs.map row1)[a.toNat]? = some [va]) (hb0 : 0 ≤ b) (hb1 : b < (regs.length : Int)) {xb : Int} {vb w : V} (gb : (regs.map intRow)[b.toNat]? = some [.int .i64 xb]) (gtb : (tcs.map row1)[b.toNat]? = some [vb]) (hw : w.storable = true ∧ w.cells = [w]) (hfz : ∀ s id, appendOp cfg true s id 3 .nils vb = some (w, .none)) :
    callL cfg 27 [.agg (iC 2 a b c nn site), .agg [.int .i64 pc, .ref rid 0 1 0 regs.length, .ref tid ver 1 0 tcs.length, .int .i64 ev]] ⟨n, l⟩ = some (.tup [.agg [.int .i64 (IntKind.i64.wrap (pc + 1)), .ref rid 0 1 0 regs.length, .ref tid ver 1 0 tcs.length, .int .i64 ev], .bool true], St.killVars ⟨n + 3, aset (aset (aset (aset (aset (aset (aset l n (B2 2 a b c nn site)) (n + 1) (Sbox pc (.ref rid 0 1 0 regs.length) (.ref tid ver 1 0 tcs.length) ev)) (n + 2) ⟨4, 0, true, [[.int .i64 0, .nils, .nils, .int .i64 0]]⟩) rid ⟨1, 0, false, (regs.set a.toNat xb).map intRow⟩) tid ⟨1, ver, false, (tcs.set a.toNat w).map row1⟩) (n + 1) (Sbox (IntKind.i64.wrap (pc + 1)) (.ref rid 0 1 0 regs.length) (.ref tid ver 1 0 tcs.length) ev)) (n + 2) (Sbox (IntKind.i64.wrap (pc + 1)) (.ref rid 0 1 0 regs.length) (.ref tid ver 1 0 tcs.length) ev)⟩ n) := by
  have hs : code27 = Code.seq _ _ := rfl
  have hrr : fi27.fn.results.toList = [_, _] := rfl
  have ha0' : ¬ a < 0 := by omega
  have ha1' : ¬ (regs.length : Int) ≤ a := by omega
  have hat : a < (tcs.length : Int) := by omega
  have e1 : ∀ v : Int, (regs.map intRow).set a.toNat [.int .i64 v] = (regs.set a.toNat v).map intRow := fun v => by rw [List.map_set]; rfl
  have e2 : (tcs.map row1).set a.toNat [w] = (tcs.set a.toNat w).map row1 := by rw [List.map_set]; rfl
  have hb0' : ¬ b < 0 := by omega
  have hb1' : ¬ (regs.length : Int) ≤ b := by omega
  have hbt : b < (tcs.length : Int) := by omega
  have ht38 : ∀ s, callV (callL cfg) true 38 [.agg [.int .i64 2, .int .i64 a, .int .i64 b, .int .i64 c, .int .i64 nn, .int .i64 site]] s = some (.lit [.int .i64 a, .int .i64 b], s) := fun s => told38 (op := 2) ⟨by decide, by decide⟩ a b c nn site s
  have q1 : (n = n + 1) = False := eq_false (by omega)
  have q2 : (n = n + 2) = False := eq_false (by omega)
  have q3 : (n + 1 = n + 2) = False := eq_false (by omega)
  have q4 : (n + 2 = n + 1) = False := eq_false (by omega)
  have q5 : (n + 1 = n) = False := eq_false (by omega)
  have q6 : (n + 2 = n) = False := eq_false (by omega)
  have r0 : (rid = n) = False := eq_false (by omega)
  have r1 : (rid = n + 1) = False := eq_false (by omega)
  have r2 : (rid = n + 2) = False := eq_false (by omega)
  have r3 : (tid = n) = False := eq_false (by omega)
  have r4 : (tid = n + 1) = False := eq_false (by omega)
  have r5 : (tid = n + 2) = False := eq_false (by omega)
  have r6 : (n = rid) = False := eq_false (by omega)
  have r7 : (n + 1 = rid) = False := eq_false (by omega)
  have r8 : (n + 2 = rid) = False := eq_false (by omega)
  have r9 : (n = tid) = False := eq_false (by omega)
  have r10 : (n + 1 = tid) = False := eq_false (by omega)
  have r11 : (n + 2 = tid) = False := eq_false (by omega)
  have r12 : (rid = tid) = False := eq_false (by omega)
  have r13 : (tid = rid) = False := eq_false (by omega)
  have r14 : (rid = n + 3) = False := eq_false (by omega)
  have r15 : (tid = n + 3) = False := eq_false (by omega)
  have r16 : (n + 1 = n + 3) = False := eq_false (by omega)
  have r17 : (n + 2 = n + 3) = False := eq_false (by omega)
  have b1 : (n + 1 == rid) = false := beq_eq_false_iff_ne.2 (by omega)
  have b2 : (rid == n + 1) = false := beq_eq_false_iff_ne.2 (by omega)
  have b3 : (n == rid) = false := beq_eq_false_iff_ne.2 (by omega)
  have b4 : (rid == n) = false := beq_eq_false_iff_ne.2 (by omega)
  rw [call27, hs]
  simp (config := { maxSteps := 3000000 }) only [↓x_seq, ↓x_reg, ↓x_drawK, drawK_f, bumps, makes, goCall, writes, frzOf, List.any_cons, List.any_nil, List.size_toArray, ↓x_cond, ↓x_block, execL_skip, execL_exit, execL_ret, thn_normal, thn_exit, regK_mk, condK_tt, condK_ff, outB_normal, outB_exit, inss, ins, List.map_cons, List.map_nil, Option.map_none, Option.map_some, Option.bind_some, List.getElem?_toArray, List.getElem?_cons_zero, List.getElem?_cons_succ,
      runI_nil, i_move, i_assign, i_alloc, i_box, i_load, i_store, i_binOp, i_fieldAddr, i_builtin, runI_call, stepK_none, stepK_set, callK_mk,
      runDI_nil, d_move, d_assign, d_pick, d_load, d_binOp, d_fieldAddr, d_indexAddr, d_builtin, runDI_guard, guardD_ff, stepD_none, putE_some, putE_none, frzD_some, frzD_none, bnd_some, yes_eq, keepE_nil, keepE_cons, cons1_some, List.contains_cons, List.contains_nil, Bool.or_false, Bool.or_true, prim_move, prim_assign, prim_alloc, prim_box, prim_load, prim_store, prim_binOp, prim_fieldAddr, prim_indexAddr, prim_len, prim_append, prim_pick, prim_buildSlice0, true_and, and_true,
      opnd_tmp, opnd_int, opnd_bool, opnd_nils, opnds_nil, opnds_cons, nilS_tmp, nilS_int, bin_eql, bin_lss, bin_geq, bin_add, aget, aset, aget_aset, cond_true, cond_false, decide_true, decide_false, ↓reduceIte, eq_self,
      reduceCtorEq, Nat.reduceEqDiff, Nat.reduceLT, Nat.reduceLeDiff, Nat.reduceBEq, Nat.reduceAdd, Nat.add_assoc, Nat.one_ne_zero, indexAddr, fieldAddr, rd, List.length_cons, List.length_nil, List.take_succ_cons, List.take_zero, List.drop_succ_cons, List.drop_zero, List.drop_nil, List.take_nil, List.set_cons_zero, List.nil_append, List.cons_append, List.append_nil, Nat.zero_add, Nat.add_zero, Nat.le_refl, ofCells, K.agg, put1, splice, sto_int, sto_agg, cel_int, cel_agg, Bool.true_and, Bool.and_true, Bool.and_false, Bool.not_true, Bool.not_false, beq_self_eq_true, St_get, List.all_cons, List.all_nil, elemTy, enumE, callI_func, finK_ret, Ilv.results, resV, all_nil, all_cons, Bool.or_false, x_loop, frz27, lv27_0, lv27_1, lv27_2, lv27_3, lv27_5, cf27_5, lv27_4, lv27_7, lv27_8, lv27_9, lv27_12, lv27_15, lv27_17, lv27_18, cf27_18, lv27_22, cf27_22, lv27_23, lv27_24, ty2, ty3, ty26, ty36, ty37, ty39, ty60, lenl26, lenr36, Int.cast_ofNat_Int, Int.reduceEq, Int.reduceLT, Int.reduceLE, Int.reduceAdd, Int.reduceToNat, ge_iff_le, drawK_some, runDF_nil, f_move, f_buildSlice, f_load, f_store, f_fieldAddr, f_indexAddr, f_builtin, stepF_none, stepF_set, footK_mk, footP_load, footP_store, footP_append, footP_move, footP_buildSlice, footP_fieldAddr, footP_indexAddr, footW_none, footW_set, footR_some, footA_some, idOf, footAt_eq, Option.getD_some, indep_cells, apartL_nil, apartL_cons, List.flatMap_cons, List.flatMap_nil, hrr, keep27, iC, fn38, pure38, ht38, wl1, wl2, q1, q2, q3, q4, r0, r1, r2, r3, r4, r5, r7, r8, r10, r11, r13, r16, r17, b2, b4, hR, hT, ha0, ha1, ha0', ha1', hat, ga, gta, e1, e2, B2, Sbox, hb0, hb1, hb0', hb1', hbt, gb, gtb, hw, hfz]
theorem y3 {l : List (Nat × Ilv.Obj)} {n rid tid ver : Nat} {pc ev a b c nn site : Int} {regs : List Int} {tcs : List V} (hn : 2 ≤ n) (hrid : rid < n) (htid : tid < n) (d3 : rid ≠ tid) (hR : aget l rid = some ⟨1, 0, false, regs.map intRow⟩) (hT : aget l tid = some ⟨1, ver, false, tcs.map row1⟩) (ht : tcs.length = regs.length) (ha0 : 0 ≤ a) (ha1 : a < (regs.length : Int)) {xa : Int} {va : V} (ga : (regs.map intRow)[a.toNat]? = some [.int .i64 xa]) (gta : (tcs.map row1)[a.toNat]? = some [va]) (hb0 : 0 ≤ b) (hb1 : b < (regs.length : Int)) {xb : Int} {vb w : V} (gb : (regs.map intRow)[b.toNat]? = some [.int .i64 xb]) (gtb : (tcs.map row1)[b.toNat]? = some [vb]) (hw : w.storable = true ∧ w.cells = [w]) (hfz : ∀ s id, appendOp cfg true s id 3 .nils vb = some (w, .none)) :
    callL cfg 27 [.agg (iC 3 a b c nn site), .agg [.int .i64 pc, .ref rid 0 1 0 regs.length, .ref tid ver 1 0 tcs.length, .int .i64 ev]] ⟨n, l⟩ = some (.tup [.agg [.int .i64 (IntKind.i64.wrap (pc + 1)), .ref rid 0 1 0 regs.length, .ref tid ver 1 0 tcs.length, .int .i64 ev], .bool (evU nn xb).2], St.killVars ⟨n + 3, aset (aset (aset (aset (aset (aset (aset l n (B2 3 a b c nn site)) (n + 1) (Sbox pc (.ref rid 0 1 0 regs.length) (.ref tid ver 1 0 tcs.length) ev)) (n + 2) ⟨4, 0, true, [[.int .i64 0, .nils, .nils, .int .i64 0]]⟩) rid ⟨1, 0, false, (regs.set a.toNat (evU nn xb).1).map intRow⟩) tid ⟨1, ver, false, (tcs.set a.toNat w).map row1⟩) (n + 1) (Sbox (IntKind.i64.wrap (pc + 1)) (.ref rid 0 1 0 regs.length) (.ref tid ver 1 0 tcs.length) ev)) (n + 2) (Sbox (IntKind.i64.wrap (pc + 1)) (.ref rid 0 1 0 regs.length) (.ref tid ver 1 0 tcs.length) ev)⟩ n) := by
  have hs : code27 = Code.seq _ _ := rfl
  have hrr : fi27.fn.results.toList = [_, _] := rfl
  have ha0' : ¬ a < 0 := by omega
  have ha1' : ¬ (regs.length : Int) ≤ a := by omega
  have hat : a < (tcs.length : Int) := by omega
  have e1 : ∀ v : Int, (regs.map intRow).set a.toNat [.int .i64 v] = (regs.set a.toNat v).map intRow := fun v => by rw [List.map_set]; rfl
  have e2 : (tcs.map row1).set a.toNat [w] = (tcs.set a.toNat w).map row1 := by rw [List.map_set]; rfl
  have hb0' : ¬ b < 0 := by omega
  have hb1' : ¬ (regs.length : Int) ≤ b := by omega
  have hbt : b < (tcs.length : Int) := by omega
  have ht38 : ∀ s, callV (callL cfg) true 38 [.agg [.int .i64 3, .int .i64 a, .int .i64 b, .int .i64 c, .int .i64 nn, .int .i64 site]] s = some (.lit [.int .i64 a, .int .i64 b], s) := fun s => told38 (op := 3) ⟨by decide, by decide⟩ a b c nn site s
  have q1 : (n = n + 1) = False := eq_false (by omega)
  have q2 : (n = n + 2) = False := eq_false (by omega)
  have q3 : (n + 1 = n + 2) = False := eq_false (by omega)
  have q4 : (n + 2 = n + 1) = False := eq_false (by omega)
  have q5 : (n + 1 = n) = False := eq_false (by omega)
  have q6 : (n + 2 = n) = False := eq_false (by omega)
  have r0 : (rid = n) = False := eq_false (by omega)
  have r1 : (rid = n + 1) = False := eq_false (by omega)
  have r2 : (rid = n + 2) = False := eq_false (by omega)
  have r3 : (tid = n) = False := eq_false (by omega)
  have r4 : (tid = n + 1) = False := eq_false (by omega)
  have r5 : (tid = n + 2) = False := eq_false (by omega)
  have r6 : (n = rid) = False := eq_false (by omega)
  have r7 : (n + 1 = rid) = False := eq_false (by omega)
  have r8 : (n + 2 = rid) = False := eq_false (by omega)
  have r9 : (n = tid) = False := eq_false (by omega)
  have r10 : (n + 1 = tid) = False := eq_false (by omega)
  have r11 : (n + 2 = tid) = False := eq_false (by omega)
  have r12 : (rid = tid) = False := eq_false (by omega)
  have r13 : (tid = rid) = False := eq_false (by omega)
  have r14 : (rid = n + 3) = False := eq_false (by omega)
  have r15 : (tid = n + 3) = False := eq_false (by omega)
  have r16 : (n + 1 = n + 3) = False := eq_false (by omega)
  have r17 : (n + 2 = n + 3) = False := eq_false (by omega)
  have b1 : (n + 1 == rid) = false := beq_eq_false_iff_ne.2 (by omega)
  have b2 : (rid == n + 1) = false := beq_eq_false_iff_ne.2 (by omega)
  have b3 : (n == rid) = false := beq_eq_false_iff_ne.2 (by omega)
  have b4 : (rid == n) = false := beq_eq_false_iff_ne.2 (by omega)
  rw [call27, hs]
  simp (config := { maxSteps := 3000000 }) only [↓x_seq, ↓x_reg, ↓x_drawK, drawK_f, bumps, makes, goCall, writes, frzOf, List.any_cons, List.any_nil, List.size_toArray, ↓x_cond, ↓x_block, execL_skip, execL_exit, execL_ret, thn_normal, thn_exit, regK_mk, condK_tt, condK_ff, outB_normal, outB_exit, inss, ins, List.map_cons, List.map_nil, Option.map_none, Option.map_some, Option.bind_some, List.getElem?_toArray, List.getElem?_cons_zero, List.getElem?_cons_succ,
      runI_nil, i_move, i_assign, i_alloc, i_box, i_load, i_store, i_binOp, i_fieldAddr, i_indexAddr, i_builtin, runI_call, stepK_none, stepK_set, callK_mk,
      runDI_nil, d_move, d_assign, d_pick, d_load, d_binOp, d_fieldAddr, d_indexAddr, d_extract, d_builtin, runDI_call, runDI_guard, guardD_ff, stepD_none, callD_mk,
      putE_some, putE_none, frzD_some, frzD_none, bnd_some, yes_eq, keepE_nil, keepE_cons, cons1_some, List.contains_cons, List.contains_nil, Bool.or_false, Bool.or_true, prim_move, prim_assign, prim_alloc, prim_box, prim_load, prim_store, prim_binOp, prim_fieldAddr, prim_indexAddr, prim_extract, prim_len, prim_append, prim_pick, prim_buildSlice0, true_and, and_true,
      opnd_tmp, opnd_int, opnd_bool, opnd_nils, opnds_nil, opnds_cons, nilS_tmp, nilS_int, bin_eql, bin_lss, bin_geq, bin_add, aget, aset, aget_aset, cond_true, cond_false, decide_true, decide_false, ↓reduceIte, eq_self,
      reduceCtorEq, Nat.reduceEqDiff, Nat.reduceLT, Nat.reduceLeDiff, Nat.reduceBEq, Nat.reduceAdd, Nat.add_assoc, Nat.one_ne_zero, indexAddr, fieldAddr, rd, List.length_cons, List.length_nil, List.take_succ_cons, List.take_zero, List.drop_succ_cons, List.drop_zero, List.drop_nil, List.take_nil, List.set_cons_zero, List.nil_append, List.cons_append, List.append_nil, Nat.zero_add, Nat.add_zero, Nat.le_refl, ofCells, K.agg, put1, splice, sto_int, sto_agg, cel_int, cel_agg, Bool.true_and, Bool.and_true, Bool.and_false, Bool.not_true, Bool.not_false, beq_self_eq_true, St_get, List.all_cons, List.all_nil, elemTy, enumE, callI_func, finK_ret, Ilv.results, resV, all_nil, all_cons, Bool.or_false, x_loop, frz27, lv27_0, lv27_1, lv27_2, lv27_3, lv27_5, cf27_5, lv27_4, lv27_7, lv27_8, lv27_9, lv27_12, lv27_15, lv27_17, lv27_19, lv27_20, cf27_20, lv27_21, lv27_22, cf27_22, lv27_23, lv27_24, ty2, ty3, ty26, ty36, ty37, ty39, ty60, lenl26, lenr36, Int.cast_ofNat_Int, Int.reduceEq, Int.reduceLT, Int.reduceLE, Int.reduceAdd, Int.reduceToNat, ge_iff_le, drawK_some, runDF_nil, f_move, f_buildSlice, f_load, f_store, f_fieldAddr, f_indexAddr, f_builtin, stepF_none, stepF_set, footK_mk, footP_load, footP_store, footP_append, footP_move, footP_buildSlice, footP_fieldAddr, footP_indexAddr, footW_none, footW_set, footR_some, footA_some, idOf, footAt_eq, Option.getD_some, indep_cells, apartL_nil, apartL_cons, List.flatMap_cons, List.flatMap_nil, hrr, keep27, iC, fn38, pure38, ht38, fn40, pure40, told40, fn39, pure39, told39, evU_opr, wl1, wl2, q1, q2, q3, q4, r0, r1, r2, r3, r4, r5, r7, r8, r10, r11, r13, r16, r17, b2, b4, hR, hT, ha0, ha1, ha0', ha1', hat, ga, gta, e1, e2, B2, Sbox, hb0, hb1, hb0', hb1', hbt, gb, gtb, hw, hfz]
end Go.Proofs.YtdCfgT

/- The reference's step, case by case. -/
set_option maxRecDepth 100000
set_option linter.unusedSimpArgs false
set_option linter.unusedVariables false
namespace Go.Proofs.YtdCfgT
open Go Go.Ilv
theorem y4 {l : List (Nat × Ilv.Obj)} {n rid tid ver : Nat} {pc ev a b c nn site : Int} {regs : List Int} {tcs : List V} (hn : 2 ≤ n) (hrid : rid < n) (htid : tid < n) (d3 : rid ≠ tid) (hR : aget l rid = some ⟨1, 0, false, regs.map intRow⟩) (hT : aget l tid = some ⟨1, ver, false, tcs.map row1⟩) (ht : tcs.length = regs.length) (ha0 : 0 ≤ a) (ha1 : a < (regs.length : Int)) {xa : Int} {va : V} (ga : (regs.map intRow)[a.toNat]? = some [.int .i64 xa]) (gta : (tcs.map row1)[a.toNat]? = some [va]) (hb0 : 0 ≤ b) (hb1 : b < (regs.length : Int)) (hc0 : 0 ≤ c) (hc1 : c < (regs.length : Int)) {xb xc : Int} {vb vc u w : V} (gb : (regs.map intRow)[b.toNat]? = some [.int .i64 xb]) (gtb : (tcs.map row1)[b.toNat]? = some [vb]) (gc : (regs.map intRow)[c.toNat]? = some [.int .i64 xc]) (gtc : (tcs.map row1)[c.toNat]? = some [vc]) (hu42 : ∀ s, callV (callL cfg) true 42 [vb, vc] s = some (u, s)) (hw : w.storable = true ∧ w.cells = [w]) (hfz : ∀ s id, appendOp cfg true s id 3 .nils u = some (w, .none)) :
    callL cfg 27 [.agg (iC 4 a b c nn site), .agg [.int .i64 pc, .ref rid 0 1 0 regs.length, .ref tid ver 1 0 tcs.length, .int .i64 ev]] ⟨n, l⟩ = some (.tup [.agg [.int .i64 (IntKind.i64.wrap (pc + 1)), .ref rid 0 1 0 regs.length, .ref tid ver 1 0 tcs.length, .int .i64 ev], .bool (evB nn xb xc).2], St.killVars ⟨n + 3, aset (aset (aset (aset (aset (aset (aset l n (B2 4 a b c nn site)) (n + 1) (Sbox pc (.ref rid 0 1 0 regs.length) (.ref tid ver 1 0 tcs.length) ev)) (n + 2) ⟨4, 0, true, [[.int .i64 0, .nils, .nils, .int .i64 0]]⟩) rid ⟨1, 0, false, (regs.set a.toNat (evB nn xb xc).1).map intRow⟩) tid ⟨1, ver, false, (tcs.set a.toNat w).map row1⟩) (n + 1) (Sbox (IntKind.i64.wrap (pc + 1)) (.ref rid 0 1 0 regs.length) (.ref tid ver 1 0 tcs.length) ev)) (n + 2) (Sbox (IntKind.i64.wrap (pc + 1)) (.ref rid 0 1 0 regs.length) (.ref tid ver 1 0 tcs.length) ev)⟩ n) := by
  have hs : code27 = Code.seq _ _ := rfl
  have hrr : fi27.fn.results.toList = [_, _] := rfl
  have ha0' : ¬ a < 0 := by omega
  have ha1' : ¬ (regs.length : Int) ≤ a := by omega
  have hat : a < (tcs.length : Int) := by omega
  have e1 : ∀ v : Int, (regs.map intRow).set a.toNat [.int .i64 v] = (regs.set a.toNat v).map intRow := fun v => by rw [List.map_set]; rfl
  have e2 : (tcs.map row1).set a.toNat [w] = (tcs.set a.toNat w).map row1 := by rw [List.map_set]; rfl
  have hb0' : ¬ b < 0 := by omega
  have hb1' : ¬ (regs.length : Int) ≤ b := by omega
  have hbt : b < (tcs.length : Int) := by omega
  have hc0' : ¬ c < 0 := by omega
  have hc1' : ¬ (regs.length : Int) ≤ c := by omega
  have hct : c < (tcs.length : Int) := by omega
  have ht38 : ∀ s, callV (callL cfg) true 38 [.agg [.int .i64 4, .int .i64 a, .int .i64 b, .int .i64 c, .int .i64 nn, .int .i64 site]] s = some (.lit [.int .i64 a, .int .i64 b, .int .i64 c], s) := fun s => told38 (op := 4) ⟨by decide, by decide⟩ a b c nn site s
  have q1 : (n = n + 1) = False := eq_false (by omega)
  have q2 : (n = n + 2) = False := eq_false (by omega)
  have q3 : (n + 1 = n + 2) = False := eq_false (by omega)
  have q4 : (n + 2 = n + 1) = False := eq_false (by omega)
  have q5 : (n + 1 = n) = False := eq_false (by omega)
  have q6 : (n + 2 = n) = False := eq_false (by omega)
  have r0 : (rid = n) = False := eq_false (by omega)
  have r1 : (rid = n + 1) = False := eq_false (by omega)
  have r2 : (rid = n + 2) = False := eq_false (by omega)
  have r3 : (tid = n) = False := eq_false (by omega)
  have r4 : (tid = n + 1) = False := eq_false (by omega)
  have r5 : (tid = n + 2) = False := eq_false (by omega)
  have r6 : (n = rid) = False := eq_false (by omega)
  have r7 : (n + 1 = rid) = False := eq_false (by omega)
  have r8 : (n + 2 = rid) = False := eq_false (by omega)
  have r9 : (n = tid) = False := eq_false (by omega)
  have r10 : (n + 1 = tid) = False := eq_false (by omega)
  have r11 : (n + 2 = tid) = False := eq_false (by omega)
  have r12 : (rid = tid) = False := eq_false (by omega)
  have r13 : (tid = rid) = False := eq_false (by omega)
  have r14 : (rid = n + 3) = False := eq_false (by omega)
  have r15 : (tid = n + 3) = False := eq_false (by omega)
  have r16 : (n + 1 = n + 3) = False := eq_false (by omega)
  have r17 : (n + 2 = n + 3) = False := eq_false (by omega)
  have b1 : (n + 1 == rid) = false := beq_eq_false_iff_ne.2 (by omega)
  have b2 : (rid == n + 1) = false := beq_eq_false_iff_ne.2 (by omega)
  have b3 : (n == rid) = false := beq_eq_false_iff_ne.2 (by omega)
  have b4 : (rid == n) = false := beq_eq_false_iff_ne.2 (by omega)
  rw [call27, hs]
  simp (config := { maxSteps := 3000000 }) only [↓x_seq, ↓x_reg, ↓x_drawK, drawK_f, bumps, makes, goCall, writes, frzOf, List.any_cons, List.any_nil, List.size_toArray, ↓x_cond, ↓x_block, execL_skip, execL_exit, execL_ret, thn_normal, thn_exit, regK_mk, condK_tt, condK_ff, outB_normal, outB_exit, inss, ins, List.map_cons, List.map_nil, Option.map_none, Option.map_some, Option.bind_some, List.getElem?_toArray, List.getElem?_cons_zero, List.getElem?_cons_succ,
      runI_nil, i_move, i_assign, i_alloc, i_box, i_load, i_store, i_binOp, i_fieldAddr, i_builtin, runI_call, stepK_none, stepK_set, callK_mk,
      runDI_nil, d_move, d_assign, d_pick, d_load, d_binOp, d_fieldAddr, d_indexAddr, d_extract, d_builtin, runDI_call, runDI_guard, guardD_ff, stepD_none, callD_mk,
      putE_some, putE_none, frzD_some, frzD_none, bnd_some, yes_eq, keepE_nil, keepE_cons, cons1_some, List.contains_cons, List.contains_nil, Bool.or_false, Bool.or_true, prim_move, prim_assign, prim_alloc, prim_box, prim_load, prim_store, prim_binOp, prim_fieldAddr, prim_indexAddr, prim_extract, prim_len, prim_append, prim_pick, prim_buildSlice0, true_and, and_true,
      opnd_tmp, opnd_int, opnd_bool, opnd_nils, opnds_nil, opnds_cons, nilS_tmp, nilS_int, bin_eql, bin_lss, bin_geq, bin_add, aget, aset, aget_aset, cond_true, cond_false, decide_true, decide_false, ↓reduceIte, eq_self,
      reduceCtorEq, Nat.reduceEqDiff, Nat.reduceLT, Nat.reduceLeDiff, Nat.reduceBEq, Nat.reduceAdd, Nat.add_assoc, Nat.one_ne_zero, indexAddr, fieldAddr, rd, List.length_cons, List.length_nil, List.take_succ_cons, List.take_zero, List.drop_succ_cons, List.drop_zero, List.drop_nil, List.take_nil, List.set_cons_zero, List.nil_append, List.cons_append, List.append_nil, Nat.zero_add, Nat.add_zero, Nat.le_refl, ofCells, K.agg, put1, splice, sto_int, sto_agg, cel_int, cel_agg, Bool.true_and, Bool.and_true, Bool.and_false, Bool.not_true, Bool.not_false, beq_self_eq_true, St_get, List.all_cons, List.all_nil, elemTy, enumE, callI_func, finK_ret, Ilv.results, resV, all_nil, all_cons, Bool.or_false, x_loop, frz27, lv27_0, lv27_1, lv27_2, lv27_3, lv27_5, cf27_5, lv27_4, lv27_7, lv27_8, lv27_9, lv27_12, lv27_15, lv27_17, lv27_19, lv27_10, cf27_10, lv27_11, cf27_11, lv27_22, cf27_22, lv27_23, lv27_24, ty2, ty3, ty26, ty36, ty37, ty39, ty60, lenl26, lenr36, Int.cast_ofNat_Int, Int.reduceEq, Int.reduceLT, Int.reduceLE, Int.reduceAdd, Int.reduceToNat, ge_iff_le, drawK_some, runDF_nil, f_move, f_buildSlice, f_load, f_store, f_fieldAddr, f_indexAddr, f_builtin, stepF_none, stepF_set, footK_mk, footP_load, footP_store, footP_append, footP_move, footP_buildSlice, footP_fieldAddr, footP_indexAddr, footW_none, footW_set, footR_some, footA_some, idOf, footAt_eq, Option.getD_some, indep_cells, apartL_nil, apartL_cons, List.flatMap_cons, List.flatMap_nil, hrr, keep27, iC, fn38, pure38, ht38, fn40, pure40, told40, fn41, pure41, told41, evB_opr, fn42, pure42, wl1, wl2, wl3, q1, q2, q3, q4, r0, r1, r2, r3, r4, r5, r7, r8, r10, r11, r13, r16, r17, b2, b4, hR, hT, ha0, ha1, ha0', ha1', hat, ga, gta, e1, e2, B2, Sbox, hb0, hb1, hb0', hb1', hbt, gb, gtb, hw, hfz, hc0, hc1, hc0', hc1', hct, gc, gtc, hu42]
theorem y5 {l : List (Nat × Ilv.Obj)} {n : Nat} {pc ev a b c nn site : Int} {rv tv : V} (hn : 2 ≤ n) :
    callL cfg 27 [.agg (iC 5 a b c nn site), .agg [.int .i64 pc, rv, tv, .int .i64 ev]] ⟨n, l⟩ = some (.tup [.agg [.int .i64 a, rv, tv, .int .i64 ev], .bool true], St.killVars ⟨n + 3, aset (aset (aset (aset (aset l n (B2 5 a b c nn site)) (n + 1) (Sbox pc rv tv ev)) (n + 2) ⟨4, 0, true, [[.int .i64 0, .nils, .nils, .int .i64 0]]⟩) (n + 1) (Sbox a rv tv ev)) (n + 2) (Sbox a rv tv ev)⟩ n) := by
  have hs : code27 = Code.seq _ _ := rfl
  have hrr : fi27.fn.results.toList = [_, _] := rfl
  have ht38 : ∀ s, callV (callL cfg) true 38 [.agg [.int .i64 5, .int .i64 a, .int .i64 b, .int .i64 c, .int .i64 nn, .int .i64 site]] s = some (.lit [], s) := fun s => told38 (op := 5) ⟨by decide, by decide⟩ a b c nn site s
  have q1 : (n = n + 1) = False := eq_false (by omega)
  have q2 : (n = n + 2) = False := eq_false (by omega)
  have q3 : (n + 1 = n + 2) = False := eq_false (by omega)
  have q4 : (n + 2 = n + 1) = False := eq_false (by omega)
  have q5 : (n + 1 = n) = False := eq_false (by omega)
  have q6 : (n + 2 = n) = False := eq_false (by omega)
  rw [call27, hs]
  simp (config := { maxSteps := 3000000 }) only [↓x_seq, ↓x_reg, ↓x_cond, ↓x_block, execL_exit, execL_ret, thn_normal, thn_exit, thn_ret, regK_mk, condK_tt, condK_ff, outB_ret, outB_exit, inss, ins, List.map_cons, List.map_nil, Option.map_none, List.getElem?_toArray, List.getElem?_cons_zero, List.getElem?_cons_succ,
      runI_nil, i_move, i_assign, i_alloc, i_box, i_load, i_store, i_binOp, i_fieldAddr, i_builtin, runI_call, stepK_none, stepK_set, callK_mk,
      putE_some, putE_none, frzD_some, frzD_none, bnd_some, yes_eq, keepE_nil, keepE_cons, cons1_some, List.contains_cons, List.contains_nil, Bool.or_false, prim_move, prim_assign, prim_alloc, prim_box, prim_load, prim_store, prim_binOp, prim_fieldAddr, prim_len, opnd_tmp, opnd_int, opnd_bool, opnd_nils, opnds_nil, opnds_cons, nilS_tmp, nilS_int, bin_eql, bin_lss, aget, aset, aget_aset, cond_true, cond_false, decide_true, decide_false, ↓reduceIte, eq_self,
      reduceCtorEq, Nat.reduceEqDiff, Nat.reduceLT, Nat.reduceLeDiff, Nat.reduceBEq, Nat.reduceAdd, Nat.add_assoc, Nat.add_left_cancel_iff, Nat.one_ne_zero, fieldAddr, rd, List.length_cons, List.length_nil, List.take_succ_cons, List.take_zero, List.drop_succ_cons, List.drop_zero, List.drop_nil, List.take_nil, List.set_cons_zero, List.nil_append, List.cons_append, Nat.zero_add, Nat.add_zero, Nat.le_refl, ofCells, K.agg, put1, splice, sto_int, sto_agg, cel_int, cel_agg, Bool.true_and, beq_self_eq_true, St_get, enumE, callI_func, finK_ret, Ilv.results, resV, all_nil, all_cons, Bool.or_false, x_loop, frz27, lv27_0, lv27_1, lv27_2, lv27_3, lv27_7, lv27_8, lv27_9, lv27_12, lv27_13, lv27_14, ty3, ty39, ty60, lenl26, Int.cast_ofNat_Int, Int.reduceLT, hrr, keep27, iC, fn38, pure38, ht38, q1, q2, q3, q4, B2, Sbox]
end Go.Proofs.YtdCfgT

/- The reference's step makes the plain step. -/
set_option maxRecDepth 100000
set_option linter.unusedSimpArgs false
set_option linter.unusedVariables false
namespace Go.Proofs.YtdCfgT
open Go Go.Ilv
/-- Values that stand for lists of numbers. -/
def AllT (tcs : List V) (taint : List (List Int)) : Prop := tcs.length = taint.length ∧ ∀ i, i < taint.length → IsT (tcs.getD i .nils) (taint.getD i [])
theorem AllT.set {tcs : List V} {taint : List (List Int)} (h : AllT tcs taint) {i : Nat} {w : V} {t : List Int} (hw : IsT w t) : AllT (tcs.set i w) (taint.set i t) := by
  refine ⟨by simp only [List.length_set]; exact h.1, fun j hj => ?_⟩
  simp only [List.length_set] at hj
  have hl := h.1
  by_cases e : i = j
  · subst e
    rw [List.getD_eq_getElem?_getD, List.getD_eq_getElem?_getD, List.getElem?_set_self (by omega), List.getElem?_set_self hj]
    exact hw
  · rw [List.getD_eq_getElem?_getD, List.getD_eq_getElem?_getD, List.getElem?_set_ne e, List.getElem?_set_ne e, ← List.getD_eq_getElem?_getD, ← List.getD_eq_getElem?_getD]
    exact h.2 j hj
/-- The taints, in the store. -/
def Tnts (l : List (Nat × Ilv.Obj)) (tid : Nat) (tv : V) (tcs : List V) : Prop := (∃ ver, tv = .ref tid ver 1 0 tcs.length ∧ aget l tid = some ⟨1, ver, false, tcs.map row1⟩) ∨ (tv = .nils ∧ tcs = [])
structure Inv2 (U : List Int) (M : Nat) (l : List (Nat × Ilv.Obj)) (n rid tid : Nat) (rv tv : V) (tcs : List V) (s : SS) : Prop where
  hn : 2 ≤ n
  hf : Fresh n l
  hr : Regs l rid rv s.regs
  hT : Tnts l tid tv tcs
  hA : AllT tcs s.taint
  hl : s.taint.length = s.regs.length
  hrid : rid < n
  htid : tid < n
  d3 : rid ≠ tid
  hs : Short U M s.taint
theorem get_row1 {tcs : List V} {i : Nat} (h : i < tcs.length) : (tcs.map row1)[i]? = some [tcs.getD i .nils] := by
  rw [List.getElem?_map, List.getD_eq_getElem?_getD, List.getElem?_eq_getElem h]; rfl
theorem nin {regs : List Int} {r : Int} (h : inR regs r = false) : r < 0 ∨ (¬ r < 0 ∧ (regs.length : Int) ≤ r) := by
  simp only [inR, Bool.and_eq_false_iff, decide_eq_false_iff_not] at h
  omega
def ValX (X rv tv : V) : Prop := ∃ (pc ev : Int) (x y : V), X = .agg [.int .i64 pc, x, y, .int .i64 ev] ∧ ((x = rv ∧ y = tv) ∨ (x = .nils ∧ y = .nils))
theorem step27 {U : List Int} {M : Nat} (hU : U.length ≤ M) (hM : M ≤ 20000000) {l : List (Nat × Ilv.Obj)} {n rid tid : Nat} {rv tv : V} {tcs : List V} {s : SS} (h : Inv2 U M l n rid tid rv tv tcs s) {op a b c nn site : Int} (hop : 1 ≤ op ∧ op ≤ 5) :
    ∃ n' l' X, callL cfg 27 [.agg (iC op a b c nn site), .agg [.int .i64 s.pc, rv, tv, .int .i64 s.ev]] ⟨n, l⟩ = some (.tup [X, .bool (stepS op a b c nn s).isSome], ⟨n', l'⟩) ∧ n ≤ n' ∧ Fresh n' l' ∧ (∀ j, j < n → j ≠ rid → j ≠ tid → aget l' j = aget l j) ∧
      ValX X rv tv ∧ (∀ s', stepS op a b c nn s = some s' → X = .agg [.int .i64 s'.pc, rv, tv, .int .i64 s'.ev] ∧ ∃ tcs', Inv2 U M l' n' rid tid rv tv tcs' s') := by
  obtain ⟨hn, hf, hr, hT, hA, hl, hrid, htid, d3, hsh⟩ := h
  have zval : ValX (.agg zC) rv tv := ⟨0, 0, .nils, .nils, rfl, .inr ⟨rfl, rfl⟩⟩
  have fr3 : ∀ o1 o2 o3, Fresh (n + 3) (aset (aset (aset l n o1) (n + 1) o2) (n + 2) o3) := fun o1 o2 o3 => ((hf.set (Nat.le_add_right n 3) (by omega)).set (Nat.le_refl _) (by omega)).set (Nat.le_refl _) (by omega)
  -- what fails
  have bad : ∀ (hb : callL cfg 27 [.agg (iC op a b c nn site), .agg [.int .i64 s.pc, rv, tv, .int .i64 s.ev]] ⟨n, l⟩ = some (.tup [.agg zC, .bool false], St.killVars ⟨n + 3, aset (aset (aset l n (B2 op a b c nn site)) (n + 1) (Sbox s.pc rv tv s.ev)) (n + 2) ⟨4, 0, true, [[.int .i64 0, .nils, .nils, .int .i64 0]]⟩⟩ n)) (hst : stepS op a b c nn s = none),
      ∃ n' l' X, callL cfg 27 [.agg (iC op a b c nn site), .agg [.int .i64 s.pc, rv, tv, .int .i64 s.ev]] ⟨n, l⟩ = some (.tup [X, .bool (stepS op a b c nn s).isSome], ⟨n', l'⟩) ∧ n ≤ n' ∧ Fresh n' l' ∧ (∀ j, j < n → j ≠ rid → j ≠ tid → aget l' j = aget l j) ∧
      ValX X rv tv ∧ (∀ s', stepS op a b c nn s = some s' → X = .agg [.int .i64 s'.pc, rv, tv, .int .i64 s'.ev] ∧ ∃ tcs', Inv2 U M l' n' rid tid rv tv tcs' s') := by
    intro hb hst
    rw [hst]
    refine ⟨n + 3, (St.killVars ⟨n + 3, _⟩ n).objs, _, hb, by omega, (fr3 _ _ _).kill, fun j hj _ _ => ?_, zval, fun s' hs' => by cases hs'⟩
    rw [aget_kill hj, aget_ne (by omega), aget_ne (by omega), aget_ne (by omega)]
  -- what goes through
  have good : ∀ (ver : Nat) (v : Int) (t : List Int) (w : V) (okb : Bool), inR s.regs a = true → (t.length ≤ M ∧ ∀ x ∈ t, x ∈ U) → IsT w t → stepS op a b c nn s = (bif okb then some ⟨IntKind.i64.wrap (s.pc + 1), s.regs.set a.toNat v, s.taint.set a.toNat t, s.ev⟩ else none) → rv = .ref rid 0 1 0 s.regs.length → tv = .ref tid ver 1 0 tcs.length →
      callL cfg 27 [.agg (iC op a b c nn site), .agg [.int .i64 s.pc, .ref rid 0 1 0 s.regs.length, .ref tid ver 1 0 tcs.length, .int .i64 s.ev]] ⟨n, l⟩ = some (.tup [.agg [.int .i64 (IntKind.i64.wrap (s.pc + 1)), .ref rid 0 1 0 s.regs.length, .ref tid ver 1 0 tcs.length, .int .i64 s.ev], .bool okb], St.killVars ⟨n + 3, aset (aset (aset (aset (aset (aset (aset l n (B2 op a b c nn site)) (n + 1) (Sbox s.pc (.ref rid 0 1 0 s.regs.length) (.ref tid ver 1 0 tcs.length) s.ev)) (n + 2) ⟨4, 0, true, [[.int .i64 0, .nils, .nils, .int .i64 0]]⟩) rid ⟨1, 0, false, (s.regs.set a.toNat v).map intRow⟩) tid ⟨1, ver, false, (tcs.set a.toNat w).map row1⟩) (n + 1) (Sbox (IntKind.i64.wrap (s.pc + 1)) (.ref rid 0 1 0 s.regs.length) (.ref tid ver 1 0 tcs.length) s.ev)) (n + 2) (Sbox (IntKind.i64.wrap (s.pc + 1)) (.ref rid 0 1 0 s.regs.length) (.ref tid ver 1 0 tcs.length) s.ev)⟩ n) →
      ∃ n' l' X, callL cfg 27 [.agg (iC op a b c nn site), .agg [.int .i64 s.pc, rv, tv, .int .i64 s.ev]] ⟨n, l⟩ = some (.tup [X, .bool (stepS op a b c nn s).isSome], ⟨n', l'⟩) ∧ n ≤ n' ∧ Fresh n' l' ∧ (∀ j, j < n → j ≠ rid → j ≠ tid → aget l' j = aget l j) ∧
      ValX X rv tv ∧ (∀ s', stepS op a b c nn s = some s' → X = .agg [.int .i64 s'.pc, rv, tv, .int .i64 s'.ev] ∧ ∃ tcs', Inv2 U M l' n' rid tid rv tv tcs' s') := by
    intro ver v t w okb ha ht hw hst hrv htv hcall
    rw [hrv, htv]
    have hok : (stepS op a b c nn s).isSome = okb := by rw [hst]; cases okb <;> rfl
    rw [hok]
    have hfr := ((((fr3 (B2 op a b c nn site) (Sbox s.pc (.ref rid 0 1 0 s.regs.length) (.ref tid ver 1 0 tcs.length) s.ev) ⟨4, 0, true, [[.int .i64 0, .nils, .nils, .int .i64 0]]⟩).set (i := rid) (o := ⟨1, 0, false, (s.regs.set a.toNat v).map intRow⟩) (Nat.le_refl _) (by omega)).set (i := tid) (o := ⟨1, ver, false, (tcs.set a.toNat w).map row1⟩) (Nat.le_refl _) (by omega)).set (i := n + 1) (o := Sbox (IntKind.i64.wrap (s.pc + 1)) (.ref rid 0 1 0 s.regs.length) (.ref tid ver 1 0 tcs.length) s.ev) (Nat.le_refl _) (by omega)).set (i := n + 2) (o := Sbox (IntKind.i64.wrap (s.pc + 1)) (.ref rid 0 1 0 s.regs.length) (.ref tid ver 1 0 tcs.length) s.ev) (Nat.le_refl _) (by omega)
    refine ⟨n + 3, (St.killVars ⟨n + 3, _⟩ n).objs, _, hcall, by omega, hfr.kill, fun j hj j2 j3 => ?_, ⟨_, _, _, _, rfl, .inl ⟨rfl, rfl⟩⟩, fun s' hs' => ?_⟩
    · rw [aget_kill hj, aget_ne (by omega), aget_ne (by omega), aget_ne j3, aget_ne j2, aget_ne (by omega), aget_ne (by omega), aget_ne (by omega)]
    · rw [hst] at hs'
      cases okb with
      | false => cases hs'
      | true =>
        simp only [cond_true, Option.some.injEq] at hs'
        subst hs'
        refine ⟨rfl, tcs.set a.toNat w, by omega, hfr.kill, .inl ⟨?_, ?_⟩, .inl ⟨ver, ?_, ?_⟩, hA.set hw, ?_, by omega, by omega, d3, hsh.set ht⟩
        · simp only [List.length_set]
        · rw [aget_kill hrid, aget_ne (by omega), aget_ne (by omega), aget_ne d3, aget_self]
        · simp only [List.length_set]
        · rw [aget_kill htid, aget_ne (by omega), aget_ne (by omega), aget_self]
        · simp only [List.length_set]; exact hl
  -- registers that are there
  have there : ∀ r, inR s.regs r = true → (rv = .ref rid 0 1 0 s.regs.length ∧ aget l rid = some (RObj s.regs)) ∧ ∃ ver, tv = .ref tid ver 1 0 tcs.length ∧ aget l tid = some ⟨1, ver, false, tcs.map row1⟩ := by
    intro r hr0
    have h3 := (inR_spec hr0).2.2
    have hAl := hA.1
    constructor
    · rcases hr with ⟨g1, g2⟩ | ⟨_, g2⟩
      · exact ⟨g1, g2⟩
      · rw [g2] at h3; simp at h3
    · rcases hT with h | ⟨_, g2⟩
      · exact h
      · rw [g2] at hAl; simp at hAl; omega
  have hAl := hA.1
  by_cases o5 : op = 5
  · subst o5
    have hfr := ((fr3 (B2 5 a b c nn site) (Sbox s.pc rv tv s.ev) ⟨4, 0, true, [[.int .i64 0, .nils, .nils, .int .i64 0]]⟩).set (i := n + 1) (o := Sbox a rv tv s.ev) (Nat.le_refl _) (by omega)).set (i := n + 2) (o := Sbox a rv tv s.ev) (Nat.le_refl _) (by omega)
    have hk : ∀ j, j < n → aget (St.killVars ⟨n + 3, aset (aset (aset (aset (aset l n (B2 5 a b c nn site)) (n + 1) (Sbox s.pc rv tv s.ev)) (n + 2) ⟨4, 0, true, [[.int .i64 0, .nils, .nils, .int .i64 0]]⟩) (n + 1) (Sbox a rv tv s.ev)) (n + 2) (Sbox a rv tv s.ev)⟩ n).objs j = aget l j := fun j hj => by
      rw [aget_kill hj, aget_ne (by omega), aget_ne (by omega), aget_ne (by omega), aget_ne (by omega), aget_ne (by omega)]
    refine ⟨n + 3, (St.killVars ⟨n + 3, _⟩ n).objs, _, y5 hn, by omega, hfr.kill, fun j hj _ _ => hk j hj, ⟨_, _, _, _, rfl, .inl ⟨rfl, rfl⟩⟩, fun s' hs' => ?_⟩
    simp only [stepS, if_true, Option.some.injEq] at hs'
    subst hs'
    refine ⟨rfl, tcs, by omega, hfr.kill, ?_, ?_, hA, hl, by omega, by omega, d3, hsh⟩
    · rcases hr with ⟨g1, g2⟩ | g
      · exact .inl ⟨g1, by rw [hk rid hrid]; exact g2⟩
      · exact .inr g
    · rcases hT with ⟨ver, g1, g2⟩ | g
      · exact .inl ⟨ver, g1, by rw [hk tid htid]; exact g2⟩
      · exact .inr g
  have st : stepS op a b c nn s = match valS op b c nn s with
    | none => none
    | some (v, t) => if inR s.regs a = true then some ⟨IntKind.i64.wrap (s.pc + 1), s.regs.set a.toNat v, s.taint.set a.toNat t, s.ev⟩ else none := by
    simp only [stepS, if_neg o5]
    cases valS op b c nn s <;> rfl
  have ops : op = 1 ∨ op = 2 ∨ op = 3 ∨ op = 4 := by omega
  cases ha : inR s.regs a with
  | false =>
    have hst : stepS op a b c nn s = none := by
      rw [st]
      cases valS op b c nn s with
      | none => rfl
      | some x => exact if_neg (by rw [ha]; decide)
    rcases nin ha with h1 | ⟨h1, h2⟩
    · rcases ops with rfl | rfl | rfl | rfl
      · exact bad (y1al hn hr h1) hst
      · exact bad (y2al hn hr h1) hst
      · exact bad (y3al hn hr h1) hst
      · exact bad (y4al hn hr h1) hst
    · rcases ops with rfl | rfl | rfl | rfl
      · exact bad (y1ag hn hr h1 h2) hst
      · exact bad (y2ag hn hr h1 h2) hst
      · exact bad (y3ag hn hr h1 h2) hst
      · exact bad (y4ag hn hr h1 h2) hst
  | true =>
    obtain ⟨⟨e1, e2⟩, ver, e3, e4⟩ := there a ha
    obtain ⟨a0, a1, a2⟩ := inR_spec ha
    have ga := get_regs ha
    have gta := get_row1 (tcs := tcs) (i := a.toNat) (by omega)
    by_cases o1 : op = 1
    · subst o1
      have hv : valS 1 b c nn s = some (nn, []) := by simp only [valS, if_true]
      rw [hv] at st
      exact good ver nn [] .nils true ha ⟨by simp, by simp⟩ IsT.nils (by rw [st]; exact if_pos ha) e1 e3 (y1 hn hrid htid d3 e2 e4 (by omega) a0 a1 ga gta)
    have ops' : op = 2 ∨ op = 3 ∨ op = 4 := by omega
    have an1 : ¬ a < 0 := by omega
    have an2 : ¬ (s.regs.length : Int) ≤ a := by omega
    cases hb : inR s.regs b with
    | false =>
      have hv : valS op b c nn s = none := by simp only [valS, if_neg o1, hb, if_true]
      rw [hv] at st
      rcases nin hb with h1 | ⟨h1, h2⟩
      · rcases ops' with rfl | rfl | rfl
        · exact bad (y2bl hn hr an1 an2 h1) st
        · exact bad (y3bl hn hr an1 an2 h1) st
        · exact bad (y4bl hn hr an1 an2 h1) st
      · rcases ops' with rfl | rfl | rfl
        · exact bad (y2bg hn hr an1 an2 h1 h2) st
        · exact bad (y3bg hn hr an1 an2 h1 h2) st
        · exact bad (y4bg hn hr an1 an2 h1 h2) st
    | true =>
      obtain ⟨b0, b1, b2⟩ := inR_spec hb
      have gb := get_regs hb
      have gtb := get_row1 (tcs := tcs) (i := b.toNat) (by omega)
      have hsb := hsh.get (i := b.toNat) (by omega)
      have hTb := hA.2 b.toNat (by omega)
      by_cases o2 : op = 2
      · subst o2
        obtain ⟨w, w1, w2, w3⟩ := frz_T hTb (by omega)
        have hv : valS 2 b c nn s = some (s.regs.getD b.toNat 0, s.taint.getD b.toNat []) := by simp only [valS, hb, Int.reduceEq, if_true, if_false, Bool.true_eq_false]
        rw [hv] at st
        exact good ver _ _ w true ha hsb w1 (by rw [st]; exact if_pos ha) e1 e3 (y2 hn hrid htid d3 e2 e4 (by omega) a0 a1 ga gta b0 b1 gb gtb w2 w3)
      by_cases o3 : op = 3
      · subst o3
        obtain ⟨w, w1, w2, w3⟩ := frz_T hTb (by omega)
        have hc := y3 (nn := nn) (c := c) (site := site) (ev := s.ev) (pc := s.pc) hn hrid htid d3 e2 e4 (by omega) a0 a1 ga gta b0 b1 gb gtb w2 w3
        refine good ver _ _ w _ ha hsb w1 ?_ e1 e3 hc
        cases hu : (evU nn (s.regs.getD b.toNat 0)).2 with
        | false =>
          have hv : valS 3 b c nn s = none := by simp only [valS, hb, hu, Int.reduceEq, if_true, if_false, Bool.true_eq_false, cond_false]
          rw [hv] at st; rw [st]; rfl
        | true =>
          have hv : valS 3 b c nn s = some ((evU nn (s.regs.getD b.toNat 0)).1, s.taint.getD b.toNat []) := by simp only [valS, hb, hu, Int.reduceEq, if_true, if_false, Bool.true_eq_false, cond_true]
          rw [hv] at st; rw [st]; exact if_pos ha
      obtain rfl : op = 4 := by omega
      have bn1 : ¬ b < 0 := by omega
      have bn2 : ¬ (s.regs.length : Int) ≤ b := by omega
      cases hc : inR s.regs c with
      | false =>
        have hv : valS 4 b c nn s = none := by simp only [valS, hb, hc, Int.reduceEq, if_true, if_false, Bool.true_eq_false]
        rw [hv] at st
        rcases nin hc with h1 | ⟨h1, h2⟩
        · exact bad (y4cl hn hr an1 an2 bn1 bn2 h1) st
        · exact bad (y4cg hn hr an1 an2 bn1 bn2 h1 h2) st
      | true =>
        obtain ⟨c0, c1, c2⟩ := inR_spec hc
        have gc := get_regs hc
        have gtc := get_row1 (tcs := tcs) (i := c.toNat) (by omega)
        have hsc := hsh.get (i := c.toNat) (by omega)
        have hTc := hA.2 c.toNat (by omega)
        have hun := uni_short hU hsb.2 hsc.2
        have h42 := fun s => told42 hTb hTc (by omega) (by omega) s
        obtain ⟨w, w1, w2, w3⟩ := frz_T (IsT.lits (uni (s.taint.getD b.toNat []) (s.taint.getD c.toNat []))) (by omega)
        have hcl := y4 (nn := nn) (site := site) (ev := s.ev) (pc := s.pc) hn hrid htid d3 e2 e4 (by omega) a0 a1 ga gta b0 b1 c0 c1 gb gtb gc gtc h42 w2 w3
        refine good ver _ _ w _ ha hun w1 ?_ e1 e3 hcl
        cases hu : (evB nn (s.regs.getD b.toNat 0) (s.regs.getD c.toNat 0)).2 with
        | false =>
          have hv : valS 4 b c nn s = none := by simp only [valS, hb, hc, hu, Int.reduceEq, if_false, Bool.true_eq_false, cond_false]
          rw [hv] at st; rw [st]; rfl
        | true =>
          have hv : valS 4 b c nn s = some ((evB nn (s.regs.getD b.toNat 0) (s.regs.getD c.toNat 0)).1, uni (s.taint.getD b.toNat []) (s.taint.getD c.toNat [])) := by simp only [valS, hb, hc, hu, Int.reduceEq, if_false, Bool.true_eq_false, cond_true]
          rw [hv] at st; rw [st]; exact if_pos ha
end Go.Proofs.YtdCfgT
