import Derived.Test.YtdofkchhdckomaaLw1
import Derived.Test.YtdofkchhdckomaaFw7
import Derived.Test.YtdofkchhdckomaaFw6
/- The operators: what eval and the reference's tell. -/
set_option maxRecDepth 100000
set_option linter.unusedSimpArgs false
set_option linter.unusedVariables false
namespace Go.Proofs.YtdCfgT
open Go Go.Ilv
def tr (b : Bool) : Int := bif b then 1 else 0
def evU (op a : Int) : Int × Bool := if op = 4 then (IntKind.i64.wrap (0 - a), true) else if op = 5 then (tr (decide (a = 0)), true) else (0, false)
def evB (op a b : Int) : Int × Bool :=
  if op = 6 then (IntKind.i64.wrap (a + b), true) else if op = 7 then (IntKind.i64.wrap (a - b), true) else if op = 8 then (IntKind.i64.wrap (a * b), true)
  else if op = 9 then (if b = 0 then 0 else IntKind.i64.wrap (a.tdiv b), true) else if op = 10 then (if b = 0 then 0 else a.tmod b, true)
  else if op = 11 then (tr (decide (a = b)), true) else if op = 12 then (tr (!decide (a = b)), true) else if op = 13 then (tr (decide (a < b)), true) else if op = 14 then (tr (decide (a ≤ b)), true)
  else if op = 15 then (tr (decide (a > b)), true) else if op = 16 then (tr (decide (a ≥ b)), true)
  else if op = 17 then (tr (bif decide (a = 0) then false else !decide (b = 0)), true) else if op = 18 then (tr (bif decide (a = 0) then !decide (b = 0) else true), true) else (0, false)
theorem ls_int (s : St) (a : Int) : allSome (reify s 40) [.int .i64 a] = some [.int .i64 a] := rfl

theorem told63 (b : Bool) (s : St) : callV (callL cfg) true 63 [.bool b] s = some (.int .i64 (tr b), s) := by
  have hs : code63 = Code.seq _ _ := rfl
  have hr : fi63.fn.results.toList = [_] := rfl
  have key : callL cfg 63 [.bool b] St.empty = some (.int .i64 (tr b), St.empty) := by
    rw [call63, hs]
    cases b
    · simp only [↓x_seq, ↓x_reg, ↓x_cond, execL_skip, execL_ret, thn_normal, regK_mk, condK_ff, inss, ins, List.map_cons, List.map_nil, Option.map_none, Option.map_some, List.getElem?_toArray, runI_nil, i_move, i_assign, stepK_none, putE_some, frzD_some, bnd_some, yes_eq, liveE, keepE, List.filterMap_cons, List.filterMap_nil, List.contains_nil, prim_move, prim_assign, Nat.zero_le, opnd_tmp, opnd_int, aget, aset, cond_false, decide_true, ↓reduceIte, eq_self,
      reduceCtorEq, Nat.reduceEqDiff, Nat.reduceLT, Nat.one_ne_zero, Bool.and_false, Bool.not_false, enumE, finK_ret, Ilv.results, resV, all_nil, all_cons, frz63, live63, St.killVars, St.kills, List.filter_nil, St.empty, hr, keep63, tr, cond_false]
    · simp only [↓x_seq, ↓x_reg, ↓x_cond, execL_ret, thn_normal, thn_ret, regK_mk, condK_tt, inss, ins, List.map_cons, List.map_nil, Option.map_none, Option.map_some, List.getElem?_toArray, runI_nil, i_move, i_assign, stepK_none, putE_some, frzD_some, bnd_some, yes_eq, liveE, keepE, List.filterMap_cons, List.filterMap_nil, List.contains_nil, prim_move, prim_assign, Nat.zero_le, opnd_tmp, opnd_int, aget, aset, cond_true, cond_false, decide_true, ↓reduceIte, eq_self,
      reduceCtorEq, Nat.reduceEqDiff, Nat.reduceLT, Nat.one_ne_zero, Bool.and_false, Bool.not_false, enumE, finK_ret, Ilv.results, resV, all_nil, all_cons, frz63, live63, St.killVars, St.kills, List.filter_nil, St.empty, hr, keep63, tr, cond_false, cond_true]
  exact callV_told (show allSome (reify s 40) [.bool b] = some [.bool b] from rfl) key rfl rfl
theorem told65 (b : Bool) (s : St) : callV (callL cfg) true 65 [.bool b] s = some (.int .i64 (tr b), s) := by
  have hs : code65 = Code.seq _ _ := rfl
  have hr : fi65.fn.results.toList = [_] := rfl
  have key : callL cfg 65 [.bool b] St.empty = some (.int .i64 (tr b), St.empty) := by
    rw [call65, hs]
    cases b
    · simp only [↓x_seq, ↓x_reg, ↓x_cond, execL_skip, execL_ret, thn_normal, regK_mk, condK_ff, inss, ins, List.map_cons, List.map_nil, Option.map_none, Option.map_some, List.getElem?_toArray, runI_nil, i_move, i_assign, stepK_none, putE_some, frzD_some, bnd_some, yes_eq, liveE, keepE, List.filterMap_cons, List.filterMap_nil, List.contains_nil, prim_move, prim_assign, Nat.zero_le, opnd_tmp, opnd_int, aget, aset, cond_false, decide_true, ↓reduceIte, eq_self,
      reduceCtorEq, Nat.reduceEqDiff, Nat.reduceLT, Nat.one_ne_zero, Bool.and_false, Bool.not_false, enumE, finK_ret, Ilv.results, resV, all_nil, all_cons, frz65, live65, St.killVars, St.kills, List.filter_nil, St.empty, hr, keep65, tr, cond_false]
    · simp only [↓x_seq, ↓x_reg, ↓x_cond, execL_ret, thn_normal, thn_ret, regK_mk, condK_tt, inss, ins, List.map_cons, List.map_nil, Option.map_none, Option.map_some, List.getElem?_toArray, runI_nil, i_move, i_assign, stepK_none, putE_some, frzD_some, bnd_some, yes_eq, liveE, keepE, List.filterMap_cons, List.filterMap_nil, List.contains_nil, prim_move, prim_assign, Nat.zero_le, opnd_tmp, opnd_int, aget, aset, cond_true, cond_false, decide_true, ↓reduceIte, eq_self,
      reduceCtorEq, Nat.reduceEqDiff, Nat.reduceLT, Nat.one_ne_zero, Bool.and_false, Bool.not_false, enumE, finK_ret, Ilv.results, resV, all_nil, all_cons, frz65, live65, St.killVars, St.kills, List.filter_nil, St.empty, hr, keep65, tr, cond_false, cond_true]
  exact callV_told (show allSome (reify s 40) [.bool b] = some [.bool b] from rfl) key rfl rfl
theorem told64 (op a b : Int) (h : op = 9 ∨ op = 10) (s : St) : callV (callL cfg) true 64 [.int .i64 op, .int .i64 a, .int .i64 b] s = some (.int .i64 (evB op a b).1, s) := by
  have hs : code64 = Code.seq _ _ := rfl
  have hr : fi64.fn.results.toList = [_] := rfl
  have key : callL cfg 64 [.int .i64 op, .int .i64 a, .int .i64 b] St.empty = some (.int .i64 (evB op a b).1, St.empty) := by
    rw [call64, hs]
    rcases h with rfl | rfl <;> by_cases hb : b = 0
    · simp only [↓x_seq, ↓x_reg, ↓x_cond, ↓x_block, execL_ret, thn_normal, thn_ret, regK_mk, condK_tt, outB_ret, inss, ins, List.map_cons, List.map_nil, Option.map_none, Option.map_some, List.getElem?_toArray, runI_nil, i_move, i_assign, i_binOp, stepK_none, putE_some, frzD_some, bnd_some, yes_eq, liveE, keepE, List.filterMap_cons, List.filterMap_nil, List.contains_nil, prim_move, prim_assign, prim_binOp, Nat.zero_le, opnd_tmp, opnd_int, nilS_int, bin_eql, aget, aset, cond_false, decide_true, ↓reduceIte, eq_self,
      reduceCtorEq, Nat.reduceEqDiff, Nat.reduceLT, Nat.reduceAdd, Nat.one_ne_zero, Nat.zero_add, Bool.and_false, Bool.not_false, enumE, finK_ret, Ilv.results, resV, all_nil, all_cons, frz64, live64, St.killVars, St.kills, List.filter_nil, Int.reduceEq, St.empty, hr, keep64, hb, evB]
    · have hb' : (b == 0) = false := by simpa using hb
      simp only [↓x_seq, ↓x_reg, ↓x_cond, ↓x_block, execL_ret, thn_normal, thn_ret, regK_mk, condK_tt, condK_ff, outB_ret, inss, ins, List.map_cons, List.map_nil, Option.map_none, Option.map_some, List.getElem?_toArray, runI_nil, i_move, i_assign, i_binOp, stepK_none, putE_some, frzD_some, bnd_some, yes_eq, liveE, keepE, List.filterMap_cons, List.filterMap_nil, List.contains_nil, prim_move, prim_assign, prim_binOp, Nat.zero_le, opnd_tmp, opnd_int, nilS_tmp, nilS_int, bin_eql, bin_quo, aget, aset, cond_false, decide_true, decide_false, ↓reduceIte, eq_self,
      reduceCtorEq, Nat.reduceEqDiff, Nat.reduceLT, Nat.reduceAdd, Nat.one_ne_zero, Nat.zero_add, Bool.and_false, Bool.not_false, enumE, finK_ret, Ilv.results, resV, all_nil, all_cons, frz64, live64, St.killVars, St.kills, List.filter_nil, Int.reduceEq, St.empty, hr, keep64, hb, hb', cond_false, evB]
    · simp only [↓x_seq, ↓x_reg, ↓x_cond, ↓x_block, execL_ret, thn_normal, thn_ret, regK_mk, condK_tt, outB_ret, inss, ins, List.map_cons, List.map_nil, Option.map_none, Option.map_some, List.getElem?_toArray, runI_nil, i_move, i_assign, i_binOp, stepK_none, putE_some, frzD_some, bnd_some, yes_eq, liveE, keepE, List.filterMap_cons, List.filterMap_nil, List.contains_nil, prim_move, prim_assign, prim_binOp, Nat.zero_le, opnd_tmp, opnd_int, nilS_int, bin_eql, aget, aset, cond_false, decide_true, ↓reduceIte, eq_self,
      reduceCtorEq, Nat.reduceEqDiff, Nat.reduceLT, Nat.reduceAdd, Nat.one_ne_zero, Nat.zero_add, Bool.and_false, Bool.not_false, enumE, finK_ret, Ilv.results, resV, all_nil, all_cons, frz64, live64, St.killVars, St.kills, List.filter_nil, Int.reduceEq, St.empty, hr, keep64, hb, evB]
    · have hb' : (b == 0) = false := by simpa using hb
      simp only [↓x_seq, ↓x_reg, ↓x_cond, ↓x_block, execL_skip, execL_ret, thn_normal, regK_mk, condK_ff, outB_normal, inss, ins, List.map_cons, List.map_nil, Option.map_none, Option.map_some, List.getElem?_toArray, runI_nil, i_move, i_assign, i_binOp, stepK_none, putE_some, frzD_some, bnd_some, yes_eq, liveE, keepE, List.filterMap_cons, List.filterMap_nil, List.contains_nil, prim_move, prim_assign, prim_binOp, Nat.zero_le, opnd_tmp, opnd_int, nilS_tmp, nilS_int, bin_eql, bin_rem, aget, aset, cond_false, decide_true, decide_false, ↓reduceIte, eq_self,
      reduceCtorEq, Nat.reduceEqDiff, Nat.reduceLT, Nat.reduceAdd, Nat.one_ne_zero, Nat.zero_add, Bool.and_false, Bool.not_false, enumE, finK_ret, Ilv.results, resV, all_nil, all_cons, frz64, live64, St.killVars, St.kills, List.filter_nil, Int.reduceEq, St.empty, hr, keep64, hb, hb', cond_false, evB]
  exact callV_told (show allSome (reify s 40) [.int .i64 op, .int .i64 a, .int .i64 b] = some [.int .i64 op, .int .i64 a, .int .i64 b] from rfl) key rfl rfl
theorem told36 (op a : Int) (s : St) : callV (callL cfg) true 36 [.int .i64 op, .int .i64 a] s = some (.tup [.int .i64 (evU op a).1, .bool (evU op a).2], s) := by
  have hs : code36 = Code.seq _ _ := rfl
  have hr : fi36.fn.results.toList = [_, _] := rfl
  have key : callL cfg 36 [.int .i64 op, .int .i64 a] St.empty = some (.tup [.int .i64 (evU op a).1, .bool (evU op a).2], St.empty) := by
    rw [call36, hs]
    by_cases h4 : op = 4
    · subst h4
      simp only [↓x_seq, ↓x_reg, ↓x_cond, ↓x_block, execL_ret, thn_normal, thn_ret, regK_mk, condK_tt, outB_ret, inss, ins, List.map_cons, List.map_nil, Option.map_none, Option.map_some, List.getElem?_toArray, runI_nil, i_move, i_assign, i_binOp, i_unOp, stepK_none, putE_some, frzD_some, bnd_some, yes_eq, liveE, keepE, List.filterMap_cons, List.filterMap_nil, List.contains_nil, prim_move, prim_assign, prim_binOp, prim_unOp, Nat.zero_le, opnd_tmp, opnd_int, opnd_bool, nilS_int, bin_eql, un_neg, aget, aset, cond_false, decide_true, ↓reduceIte, eq_self,
      reduceCtorEq, Nat.reduceEqDiff, Nat.reduceLT, Nat.one_ne_zero, Nat.zero_add, Bool.and_false, Bool.not_false, enumE, finK_ret, Ilv.results, resV, all_nil, all_cons, frz36, live36, St.killVars, St.kills, List.filter_nil, St.empty, hr, keep36, evU]
    · by_cases h5 : op = 5
      · subst h5
        simp only [↓x_seq, ↓x_reg, ↓x_cond, ↓x_block, execL_ret, thn_normal, thn_ret, regK_mk, condK_tt, condK_ff, outB_ret, inss, ins, List.map_cons, List.map_nil, Option.map_none, Option.map_some, List.getElem?_toArray, runI_nil, i_move, i_assign, i_binOp, runI_call, stepK_none, callK_mk,
      putE_some, frzD_some, bnd_some, yes_eq, liveE, keepE, List.filterMap_cons, List.filterMap_nil, List.contains_nil, prim_move, prim_assign, prim_binOp, Nat.zero_le, opnd_tmp, opnd_int, opnd_bool, opnds_nil, opnds_cons, nilS_int, bin_eql, aget, aset, cond_false, decide_true, decide_false, ↓reduceIte, eq_self,
      reduceCtorEq, Nat.reduceEqDiff, Nat.reduceLT, Nat.one_ne_zero, Nat.zero_add, Bool.and_false, Bool.not_false, enumE, callI_func, finK_ret, Ilv.results, resV, all_nil, all_cons, frz36, live36, St.killVars, St.kills, List.filter_nil, Int.reduceEq, St.empty, hr, keep36, fn63, pure63, told63, evU]
      · simp only [↓x_seq, ↓x_reg, ↓x_cond, ↓x_block, execL_skip, execL_ret, thn_normal, regK_mk, condK_ff, outB_normal, inss, ins, List.map_cons, List.map_nil, Option.map_none, Option.map_some, List.getElem?_toArray, runI_nil, i_move, i_assign, i_binOp, stepK_none, putE_some, frzD_some, bnd_some, yes_eq, liveE, keepE, List.filterMap_cons, List.filterMap_nil, List.contains_nil, prim_move, prim_assign, prim_binOp, Nat.zero_le, opnd_tmp, opnd_int, opnd_bool, nilS_int, bin_eql, aget, aset, cond_false, decide_true, decide_false, ↓reduceIte, eq_self,
      reduceCtorEq, Nat.reduceEqDiff, Nat.reduceLT, Nat.one_ne_zero, Nat.zero_add, Bool.and_false, Bool.not_false, enumE, finK_ret, Ilv.results, resV, all_nil, all_cons, frz36, live36, St.killVars, St.kills, List.filter_nil, St.empty, hr, keep36, h4, h5, evU]
  exact callV_told (show allSome (reify s 40) [.int .i64 op, .int .i64 a] = some [.int .i64 op, .int .i64 a] from rfl) key rfl rfl
theorem told39 (op a : Int) (s : St) : callV (callL cfg) true 39 [.int .i64 op, .int .i64 a] s = some (.tup [.int .i64 (evU op a).1, .bool (evU op a).2], s) := by
  have hs : code39 = Code.seq _ _ := rfl
  have hr : fi39.fn.results.toList = [_, _] := rfl
  have key : callL cfg 39 [.int .i64 op, .int .i64 a] St.empty = some (.tup [.int .i64 (evU op a).1, .bool (evU op a).2], St.empty) := by
    rw [call39, hs]
    by_cases h4 : op = 4
    · subst h4
      simp only [↓x_seq, ↓x_reg, ↓x_cond, ↓x_block, execL_ret, thn_normal, thn_ret, regK_mk, condK_tt, outB_ret, inss, ins, List.map_cons, List.map_nil, Option.map_none, Option.map_some, List.getElem?_toArray, runI_nil, i_move, i_assign, i_binOp, i_unOp, stepK_none, putE_some, frzD_some, bnd_some, yes_eq, liveE, keepE, List.filterMap_cons, List.filterMap_nil, List.contains_nil, prim_move, prim_assign, prim_binOp, prim_unOp, Nat.zero_le, opnd_tmp, opnd_int, opnd_bool, nilS_int, bin_eql, un_neg, aget, aset, cond_false, decide_true, ↓reduceIte, eq_self,
      reduceCtorEq, Nat.reduceEqDiff, Nat.reduceLT, Nat.one_ne_zero, Nat.zero_add, Bool.and_false, Bool.not_false, enumE, finK_ret, Ilv.results, resV, all_nil, all_cons, frz39, live39, St.killVars, St.kills, List.filter_nil, St.empty, hr, keep39, evU]
    · by_cases h5 : op = 5
      · subst h5
        simp only [↓x_seq, ↓x_reg, ↓x_cond, ↓x_block, execL_ret, thn_normal, thn_ret, regK_mk, condK_tt, condK_ff, outB_ret, inss, ins, List.map_cons, List.map_nil, Option.map_none, Option.map_some, List.getElem?_toArray, runI_nil, i_move, i_assign, i_binOp, runI_call, stepK_none, callK_mk,
      putE_some, frzD_some, bnd_some, yes_eq, liveE, keepE, List.filterMap_cons, List.filterMap_nil, List.contains_nil, prim_move, prim_assign, prim_binOp, Nat.zero_le, opnd_tmp, opnd_int, opnd_bool, opnds_nil, opnds_cons, nilS_int, bin_eql, aget, aset, cond_false, decide_true, decide_false, ↓reduceIte, eq_self,
      reduceCtorEq, Nat.reduceEqDiff, Nat.reduceLT, Nat.one_ne_zero, Nat.zero_add, Bool.and_false, Bool.not_false, enumE, callI_func, finK_ret, Ilv.results, resV, all_nil, all_cons, frz39, live39, St.killVars, St.kills, List.filter_nil, Int.reduceEq, St.empty, hr, keep39, fn65, pure65, told65, evU]
      · simp only [↓x_seq, ↓x_reg, ↓x_cond, ↓x_block, execL_skip, execL_ret, thn_normal, regK_mk, condK_ff, outB_normal, inss, ins, List.map_cons, List.map_nil, Option.map_none, Option.map_some, List.getElem?_toArray, runI_nil, i_move, i_assign, i_binOp, stepK_none, putE_some, frzD_some, bnd_some, yes_eq, liveE, keepE, List.filterMap_cons, List.filterMap_nil, List.contains_nil, prim_move, prim_assign, prim_binOp, Nat.zero_le, opnd_tmp, opnd_int, opnd_bool, nilS_int, bin_eql, aget, aset, cond_false, decide_true, decide_false, ↓reduceIte, eq_self,
      reduceCtorEq, Nat.reduceEqDiff, Nat.reduceLT, Nat.one_ne_zero, Nat.zero_add, Bool.and_false, Bool.not_false, enumE, finK_ret, Ilv.results, resV, all_nil, all_cons, frz39, live39, St.killVars, St.kills, List.filter_nil, St.empty, hr, keep39, h4, h5, evU]
  exact callV_told (show allSome (reify s 40) [.int .i64 op, .int .i64 a] = some [.int .i64 op, .int .i64 a] from rfl) key rfl rfl
set_option maxHeartbeats 2000000 in
theorem told37 (op a b : Int) (s : St) : callV (callL cfg) true 37 [.int .i64 op, .int .i64 a, .int .i64 b] s = some (.tup [.int .i64 (evB op a b).1, .bool (evB op a b).2], s) := by
  have hs : code37 = Code.seq _ _ := rfl
  have hr : fi37.fn.results.toList = [_, _] := rfl
  have key : callL cfg 37 [.int .i64 op, .int .i64 a, .int .i64 b] St.empty = some (.tup [.int .i64 (evB op a b).1, .bool (evB op a b).2], St.empty) := by
    rw [call37, hs]
    by_cases h6 : op = 6
    · subst h6
      simp only [↓x_seq, ↓x_reg, ↓x_cond, ↓x_block, execL_ret, thn_normal, thn_ret, regK_mk, condK_tt, outB_ret, inss, ins, List.map_cons, List.map_nil, Option.map_none, Option.map_some, List.getElem?_toArray, runI_nil, i_move, i_assign, i_binOp, stepK_none, putE_some, frzD_some, bnd_some, yes_eq, liveE, keepE, List.filterMap_cons, List.filterMap_nil, List.contains_nil, prim_move, prim_assign, prim_binOp, Nat.zero_le, opnd_tmp, opnd_int, opnd_bool, nilS_tmp, nilS_int, bin_eql, bin_add, aget, aset, cond_false, decide_true, ↓reduceIte, eq_self,
      reduceCtorEq, Nat.reduceEqDiff, Nat.reduceLT, Nat.reduceAdd, Nat.one_ne_zero, Nat.zero_add, Bool.and_false, Bool.not_false, enumE, finK_ret, Ilv.results, resV, all_nil, all_cons, frz37, live37, St.killVars, St.kills, List.filter_nil, St.empty, hr, keep37, evB]
    by_cases h7 : op = 7
    · subst h7
      simp only [↓x_seq, ↓x_reg, ↓x_cond, ↓x_block, execL_ret, thn_normal, thn_ret, regK_mk, condK_tt, condK_ff, outB_ret, inss, ins, List.map_cons, List.map_nil, Option.map_none, Option.map_some, List.getElem?_toArray, runI_nil, i_move, i_assign, i_binOp, stepK_none, putE_some, frzD_some, bnd_some, yes_eq, liveE, keepE, List.filterMap_cons, List.filterMap_nil, List.contains_nil, prim_move, prim_assign, prim_binOp, Nat.zero_le, opnd_tmp, opnd_int, opnd_bool, nilS_tmp, nilS_int, bin_eql, bin_sub, aget, aset, cond_false, decide_true, decide_false, ↓reduceIte, eq_self,
      reduceCtorEq, Nat.reduceEqDiff, Nat.reduceLT, Nat.reduceAdd, Nat.one_ne_zero, Nat.zero_add, Bool.and_false, Bool.not_false, enumE, finK_ret, Ilv.results, resV, all_nil, all_cons, frz37, live37, St.killVars, St.kills, List.filter_nil, Int.reduceEq, St.empty, hr, keep37, evB]
    by_cases h8 : op = 8
    · subst h8
      simp only [↓x_seq, ↓x_reg, ↓x_cond, ↓x_block, execL_ret, thn_normal, thn_ret, regK_mk, condK_tt, condK_ff, outB_ret, inss, ins, List.map_cons, List.map_nil, Option.map_none, Option.map_some, List.getElem?_toArray, runI_nil, i_move, i_assign, i_binOp, stepK_none, putE_some, frzD_some, bnd_some, yes_eq, liveE, keepE, List.filterMap_cons, List.filterMap_nil, List.contains_nil, prim_move, prim_assign, prim_binOp, Nat.zero_le, opnd_tmp, opnd_int, opnd_bool, nilS_tmp, nilS_int, bin_eql, bin_mul, aget, aset, cond_false, decide_true, decide_false, ↓reduceIte, eq_self,
      reduceCtorEq, Nat.reduceEqDiff, Nat.reduceLT, Nat.reduceAdd, Nat.one_ne_zero, Nat.zero_add, Bool.and_false, Bool.not_false, enumE, finK_ret, Ilv.results, resV, all_nil, all_cons, frz37, live37, St.killVars, St.kills, List.filter_nil, Int.reduceEq, St.empty, hr, keep37, evB]
    by_cases h9 : op = 9
    · subst h9
      have ht := told64 9 a b (by decide)
      simp only [↓x_seq, ↓x_reg, ↓x_cond, ↓x_block, execL_skip, execL_ret, thn_normal, thn_ret, regK_mk, condK_tt, condK_ff, outB_ret, inss, ins, List.map_cons, List.map_nil, Option.map_none, Option.map_some, List.getElem?_toArray, runI_nil, i_move, i_assign, i_binOp, runI_call, stepK_none, callK_mk,
      putE_some, frzD_some, bnd_some, yes_eq, liveE, keepE, List.filterMap_cons, List.filterMap_nil, List.contains_nil, prim_move, prim_assign, prim_binOp, Nat.zero_le, opnd_tmp, opnd_int, opnd_bool, opnds_nil, opnds_cons, nilS_int, bin_eql, aget, aset, cond_false, decide_true, decide_false, ↓reduceIte, eq_self,
      reduceCtorEq, Nat.reduceEqDiff, Nat.reduceLT, Nat.reduceAdd, Nat.one_ne_zero, Nat.zero_add, Bool.and_false, Bool.not_false, enumE, callI_func, finK_ret, Ilv.results, resV, all_nil, all_cons, frz37, live37, St.killVars, St.kills, List.filter_nil, Int.reduceEq, St.empty, hr, keep37, evB, fn64, pure64, ht]
    by_cases h10 : op = 10
    · subst h10
      have ht := told64 10 a b (by decide)
      simp only [↓x_seq, ↓x_reg, ↓x_cond, ↓x_block, execL_ret, thn_normal, thn_ret, regK_mk, condK_tt, condK_ff, outB_ret, inss, ins, List.map_cons, List.map_nil, Option.map_none, Option.map_some, List.getElem?_toArray, runI_nil, i_move, i_assign, i_binOp, runI_call, stepK_none, callK_mk,
      putE_some, frzD_some, bnd_some, yes_eq, liveE, keepE, List.filterMap_cons, List.filterMap_nil, List.contains_nil, prim_move, prim_assign, prim_binOp, Nat.zero_le, opnd_tmp, opnd_int, opnd_bool, opnds_nil, opnds_cons, nilS_int, bin_eql, aget, aset, cond_false, decide_true, decide_false, ↓reduceIte, eq_self,
      reduceCtorEq, Nat.reduceEqDiff, Nat.reduceLT, Nat.reduceAdd, Nat.one_ne_zero, Nat.zero_add, Bool.and_false, Bool.not_false, enumE, callI_func, finK_ret, Ilv.results, resV, all_nil, all_cons, frz37, live37, St.killVars, St.kills, List.filter_nil, Int.reduceEq, St.empty, hr, keep37, evB, fn64, pure64, ht]
    by_cases h11 : op = 11
    · subst h11
      simp only [↓x_seq, ↓x_reg, ↓x_cond, ↓x_block, execL_ret, thn_normal, thn_ret, regK_mk, condK_tt, condK_ff, outB_ret, inss, ins, List.map_cons, List.map_nil, Option.map_none, Option.map_some, List.getElem?_toArray, runI_nil, i_move, i_assign, i_binOp, runI_call, stepK_none, callK_mk,
      putE_some, frzD_some, bnd_some, yes_eq, liveE, keepE, List.filterMap_cons, List.filterMap_nil, List.contains_nil, prim_move, prim_assign, prim_binOp, Nat.zero_le, opnd_tmp, opnd_int, opnd_bool, opnds_nil, opnds_cons, nilS_tmp, nilS_int, bin_eql, aget, aset, cond_false, decide_true, decide_false, ↓reduceIte, eq_self,
      reduceCtorEq, Nat.reduceEqDiff, Nat.reduceLT, Nat.reduceAdd, Nat.one_ne_zero, Nat.zero_add, Bool.and_false, Bool.not_false, enumE, callI_func, finK_ret, Ilv.results, resV, all_nil, all_cons, frz37, live37, St.killVars, St.kills, List.filter_nil, Int.reduceEq, St.empty, hr, keep37, fn63, pure63, told63, evB]
    by_cases h12 : op = 12
    · subst h12
      simp only [↓x_seq, ↓x_reg, ↓x_cond, ↓x_block, execL_ret, thn_normal, thn_ret, regK_mk, condK_tt, condK_ff, outB_ret, inss, ins, List.map_cons, List.map_nil, Option.map_none, Option.map_some, List.getElem?_toArray, runI_nil, i_move, i_assign, i_binOp, runI_call, stepK_none, callK_mk,
      putE_some, frzD_some, bnd_some, yes_eq, liveE, keepE, List.filterMap_cons, List.filterMap_nil, List.contains_nil, prim_move, prim_assign, prim_binOp, Nat.zero_le, opnd_tmp, opnd_int, opnd_bool, opnds_nil, opnds_cons, nilS_tmp, nilS_int, bin_eql, bin_neq, aget, aset, cond_false, decide_true, decide_false, ↓reduceIte, eq_self,
      reduceCtorEq, Nat.reduceEqDiff, Nat.reduceLT, Nat.reduceAdd, Nat.one_ne_zero, Nat.zero_add, Bool.and_false, Bool.not_false, enumE, callI_func, finK_ret, Ilv.results, resV, all_nil, all_cons, frz37, live37, St.killVars, St.kills, List.filter_nil, Int.reduceEq, St.empty, hr, keep37, fn63, pure63, told63, evB]
    by_cases h13 : op = 13
    · subst h13
      simp only [↓x_seq, ↓x_reg, ↓x_cond, ↓x_block, execL_ret, thn_normal, thn_ret, regK_mk, condK_tt, condK_ff, outB_ret, inss, ins, List.map_cons, List.map_nil, Option.map_none, Option.map_some, List.getElem?_toArray, runI_nil, i_move, i_assign, i_binOp, runI_call, stepK_none, callK_mk,
      putE_some, frzD_some, bnd_some, yes_eq, liveE, keepE, List.filterMap_cons, List.filterMap_nil, List.contains_nil, prim_move, prim_assign, prim_binOp, Nat.zero_le, opnd_tmp, opnd_int, opnd_bool, opnds_nil, opnds_cons, nilS_tmp, nilS_int, bin_eql, bin_lss, aget, aset, cond_false, decide_true, decide_false, ↓reduceIte, eq_self,
      reduceCtorEq, Nat.reduceEqDiff, Nat.reduceLT, Nat.reduceAdd, Nat.one_ne_zero, Nat.zero_add, Bool.and_false, Bool.not_false, enumE, callI_func, finK_ret, Ilv.results, resV, all_nil, all_cons, frz37, live37, St.killVars, St.kills, List.filter_nil, Int.reduceEq, St.empty, hr, keep37, fn63, pure63, told63, evB]
    by_cases h14 : op = 14
    · subst h14
      simp only [↓x_seq, ↓x_reg, ↓x_cond, ↓x_block, execL_ret, thn_normal, thn_ret, regK_mk, condK_tt, condK_ff, outB_ret, inss, ins, List.map_cons, List.map_nil, Option.map_none, Option.map_some, List.getElem?_toArray, runI_nil, i_move, i_assign, i_binOp, runI_call, stepK_none, callK_mk,
      putE_some, frzD_some, bnd_some, yes_eq, liveE, keepE, List.filterMap_cons, List.filterMap_nil, List.contains_nil, prim_move, prim_assign, prim_binOp, Nat.zero_le, opnd_tmp, opnd_int, opnd_bool, opnds_nil, opnds_cons, nilS_tmp, nilS_int, bin_eql, bin_leq, aget, aset, cond_false, decide_true, decide_false, ↓reduceIte, eq_self,
      reduceCtorEq, Nat.reduceEqDiff, Nat.reduceLT, Nat.reduceAdd, Nat.one_ne_zero, Nat.zero_add, Bool.and_false, Bool.not_false, enumE, callI_func, finK_ret, Ilv.results, resV, all_nil, all_cons, frz37, live37, St.killVars, St.kills, List.filter_nil, Int.reduceEq, St.empty, hr, keep37, fn63, pure63, told63, evB]
    by_cases h15 : op = 15
    · subst h15
      simp only [↓x_seq, ↓x_reg, ↓x_cond, ↓x_block, execL_ret, thn_normal, thn_ret, regK_mk, condK_tt, condK_ff, outB_ret, inss, ins, List.map_cons, List.map_nil, Option.map_none, Option.map_some, List.getElem?_toArray, runI_nil, i_move, i_assign, i_binOp, runI_call, stepK_none, callK_mk,
      putE_some, frzD_some, bnd_some, yes_eq, liveE, keepE, List.filterMap_cons, List.filterMap_nil, List.contains_nil, prim_move, prim_assign, prim_binOp, Nat.zero_le, opnd_tmp, opnd_int, opnd_bool, opnds_nil, opnds_cons, nilS_tmp, nilS_int, bin_eql, bin_gtr, aget, aset, cond_false, decide_true, decide_false, ↓reduceIte, eq_self,
      reduceCtorEq, Nat.reduceEqDiff, Nat.reduceLT, Nat.reduceAdd, Nat.one_ne_zero, Nat.zero_add, Bool.and_false, Bool.not_false, enumE, callI_func, finK_ret, Ilv.results, resV, all_nil, all_cons, frz37, live37, St.killVars, St.kills, List.filter_nil, Int.reduceEq, gt_iff_lt, St.empty, hr, keep37, fn63, pure63, told63, evB]
    by_cases h16 : op = 16
    · subst h16
      simp only [↓x_seq, ↓x_reg, ↓x_cond, ↓x_block, execL_ret, thn_normal, thn_ret, regK_mk, condK_tt, condK_ff, outB_ret, inss, ins, List.map_cons, List.map_nil, Option.map_none, Option.map_some, List.getElem?_toArray, runI_nil, i_move, i_assign, i_binOp, runI_call, stepK_none, callK_mk,
      putE_some, frzD_some, bnd_some, yes_eq, liveE, keepE, List.filterMap_cons, List.filterMap_nil, List.contains_nil, prim_move, prim_assign, prim_binOp, Nat.zero_le, opnd_tmp, opnd_int, opnd_bool, opnds_nil, opnds_cons, nilS_tmp, nilS_int, bin_eql, bin_geq, aget, aset, cond_false, decide_true, decide_false, ↓reduceIte, eq_self,
      reduceCtorEq, Nat.reduceEqDiff, Nat.reduceLT, Nat.reduceAdd, Nat.one_ne_zero, Nat.zero_add, Bool.and_false, Bool.not_false, enumE, callI_func, finK_ret, Ilv.results, resV, all_nil, all_cons, frz37, live37, St.killVars, St.kills, List.filter_nil, Int.reduceEq, ge_iff_le, St.empty, hr, keep37, fn63, pure63, told63, evB]
    by_cases h17 : op = 17
    · subst h17
      by_cases ha : a = 0
      · simp only [↓x_seq, ↓x_reg, ↓x_cond, ↓x_block, execL_ret, thn_normal, thn_ret, regK_mk, condK_tt, condK_ff, outB_ret, inss, ins, List.map_cons, List.map_nil, Option.map_none, Option.map_some, Option.bind_some, List.getElem?_toArray, List.getElem?_cons_zero, List.getElem?_cons_succ,
      runI_nil, i_move, i_assign, i_pick, i_binOp, runI_call, runI_guard, guardK_tf, stepK_none, callK_mk,
      putE_some, frzD_some, bnd_some, yes_eq, liveE, keepE, List.filterMap_cons, List.filterMap_nil, List.contains_nil, prim_move, prim_assign, prim_binOp, prim_pick, Nat.zero_le, opnd_tmp, opnd_int, opnd_bool, opnds_nil, opnds_cons, nilS_int, bin_eql, bin_neq, aget, aset, cond_true, cond_false, decide_true, decide_false, ↓reduceIte, eq_self,
      reduceCtorEq, Nat.reduceEqDiff, Nat.reduceLT, Nat.reduceAdd, Nat.one_ne_zero, Nat.zero_add, Bool.and_false, Bool.not_true, Bool.not_false, enumE, callI_func, finK_ret, Ilv.results, resV, all_nil, all_cons, frz37, live37, St.killVars, St.kills, List.filter_nil, Int.reduceEq, St.empty, hr, keep37, fn63, pure63, told63, evB, ha, decide_true, decide_false, cond_true, cond_false]
      · simp only [↓x_seq, ↓x_reg, ↓x_cond, ↓x_block, execL_ret, thn_normal, thn_ret, regK_mk, condK_tt, condK_ff, outB_ret, inss, ins, List.map_cons, List.map_nil, Option.map_none, Option.map_some, Option.bind_some, List.getElem?_toArray, List.getElem?_cons_zero, List.getElem?_cons_succ,
      runI_nil, i_move, i_assign, i_pick, i_binOp, runI_call, runI_guard, guardK_tt, stepK_none, callK_mk,
      putE_some, frzD_some, bnd_some, yes_eq, liveE, keepE, List.filterMap_cons, List.filterMap_nil, List.contains_nil, prim_move, prim_assign, prim_binOp, prim_pick, Nat.zero_le, opnd_tmp, opnd_int, opnd_bool, opnds_nil, opnds_cons, nilS_int, bin_eql, bin_neq, aget, aset, cond_false, decide_true, decide_false, ↓reduceIte, eq_self,
      reduceCtorEq, Nat.reduceEqDiff, Nat.reduceLT, Nat.reduceAdd, Nat.one_ne_zero, Nat.zero_add, Bool.and_false, Bool.not_false, enumE, callI_func, finK_ret, Ilv.results, resV, all_nil, all_cons, frz37, live37, St.killVars, St.kills, List.filter_nil, Int.reduceEq, St.empty, hr, keep37, fn63, pure63, told63, evB, ha, decide_true, decide_false, cond_false]
    by_cases h18 : op = 18
    · subst h18
      by_cases ha : a = 0
      · simp only [↓x_seq, ↓x_reg, ↓x_cond, ↓x_block, execL_ret, thn_normal, thn_ret, regK_mk, condK_tt, condK_ff, outB_ret, inss, ins, List.map_cons, List.map_nil, Option.map_none, Option.map_some, Option.bind_some, List.getElem?_toArray, List.getElem?_cons_zero, List.getElem?_cons_succ,
      runI_nil, i_move, i_assign, i_pick, i_binOp, runI_call, runI_guard, guardK_ff, stepK_none, callK_mk,
      putE_some, frzD_some, bnd_some, yes_eq, liveE, keepE, List.filterMap_cons, List.filterMap_nil, List.contains_nil, prim_move, prim_assign, prim_binOp, prim_pick, Nat.zero_le, opnd_tmp, opnd_int, opnd_bool, opnds_nil, opnds_cons, nilS_int, bin_eql, bin_neq, aget, aset, cond_true, cond_false, decide_true, decide_false, ↓reduceIte, eq_self,
      reduceCtorEq, Nat.reduceEqDiff, Nat.reduceLT, Nat.reduceAdd, Nat.one_ne_zero, Nat.zero_add, Bool.and_false, Bool.not_true, Bool.not_false, enumE, callI_func, finK_ret, Ilv.results, resV, all_nil, all_cons, frz37, live37, St.killVars, St.kills, List.filter_nil, Int.reduceEq, St.empty, hr, keep37, fn63, pure63, told63, evB, ha, decide_true, decide_false, cond_true, cond_false]
      · simp only [↓x_seq, ↓x_reg, ↓x_cond, ↓x_block, execL_ret, thn_normal, thn_ret, regK_mk, condK_tt, condK_ff, outB_ret, inss, ins, List.map_cons, List.map_nil, Option.map_none, Option.map_some, Option.bind_some, List.getElem?_toArray, List.getElem?_cons_zero, List.getElem?_cons_succ,
      runI_nil, i_move, i_assign, i_pick, i_binOp, runI_call, runI_guard, guardK_ft, stepK_none, callK_mk,
      putE_some, frzD_some, bnd_some, yes_eq, liveE, keepE, List.filterMap_cons, List.filterMap_nil, List.contains_nil, prim_move, prim_assign, prim_binOp, prim_pick, Nat.zero_le, opnd_tmp, opnd_int, opnd_bool, opnds_nil, opnds_cons, nilS_int, bin_eql, bin_neq, aget, aset, cond_false, decide_true, decide_false, ↓reduceIte, eq_self,
      reduceCtorEq, Nat.reduceEqDiff, Nat.reduceLT, Nat.reduceAdd, Nat.one_ne_zero, Nat.zero_add, Bool.and_false, Bool.not_false, enumE, callI_func, finK_ret, Ilv.results, resV, all_nil, all_cons, frz37, live37, St.killVars, St.kills, List.filter_nil, Int.reduceEq, St.empty, hr, keep37, fn63, pure63, told63, evB, ha, decide_true, decide_false, cond_false]
    simp only [↓x_seq, ↓x_reg, ↓x_cond, ↓x_block, execL_skip, execL_ret, thn_normal, regK_mk, condK_ff, outB_normal, inss, ins, List.map_cons, List.map_nil, Option.map_none, Option.map_some, List.getElem?_toArray, runI_nil, i_move, i_assign, i_binOp, stepK_none, putE_some, frzD_some, bnd_some, yes_eq, liveE, keepE, List.filterMap_cons, List.filterMap_nil, List.contains_nil, prim_move, prim_assign, prim_binOp, Nat.zero_le, opnd_tmp, opnd_int, opnd_bool, nilS_int, bin_eql, aget, aset, cond_false, decide_true, decide_false, ↓reduceIte, eq_self,
      reduceCtorEq, Nat.reduceEqDiff, Nat.reduceLT, Nat.reduceAdd, Nat.one_ne_zero, Nat.zero_add, Bool.and_false, Bool.not_false, enumE, finK_ret, Ilv.results, resV, all_nil, all_cons, frz37, live37, St.killVars, St.kills, List.filter_nil, St.empty, hr, keep37, evB, h6, h7, h8, h9, h10, h11, h12, h13, h14, h15, h16, h17, h18]
  exact callV_told (show allSome (reify s 40) [.int .i64 op, .int .i64 a, .int .i64 b] = some [.int .i64 op, .int .i64 a, .int .i64 b] from rfl) key rfl rfl
set_option maxHeartbeats 2000000 in
theorem told41 (op a b : Int) (s : St) : callV (callL cfg) true 41 [.int .i64 op, .int .i64 a, .int .i64 b] s = some (.tup [.int .i64 (evB op a b).1, .bool (evB op a b).2], s) := by
  have hs : code41 = Code.seq _ _ := rfl
  have hr : fi41.fn.results.toList = [_, _] := rfl
  have key : callL cfg 41 [.int .i64 op, .int .i64 a, .int .i64 b] St.empty = some (.tup [.int .i64 (evB op a b).1, .bool (evB op a b).2], St.empty) := by
    rw [call41, hs]
    by_cases h6 : op = 6
    · subst h6
      simp only [↓x_seq, ↓x_reg, ↓x_cond, ↓x_block, execL_ret, thn_normal, thn_ret, regK_mk, condK_tt, outB_ret, inss, ins, List.map_cons, List.map_nil, Option.map_none, Option.map_some, List.getElem?_toArray, runI_nil, i_move, i_assign, i_binOp, stepK_none, putE_some, frzD_some, bnd_some, yes_eq, liveE, keepE, List.filterMap_cons, List.filterMap_nil, List.contains_nil, prim_move, prim_assign, prim_binOp, Nat.zero_le, opnd_tmp, opnd_int, opnd_bool, nilS_tmp, nilS_int, bin_eql, bin_add, aget, aset, cond_false, decide_true, ↓reduceIte, eq_self,
      reduceCtorEq, Nat.reduceEqDiff, Nat.reduceLT, Nat.reduceAdd, Nat.one_ne_zero, Nat.zero_add, Bool.and_false, Bool.not_false, enumE, finK_ret, Ilv.results, resV, all_nil, all_cons, frz41, live41, St.killVars, St.kills, List.filter_nil, St.empty, hr, keep41, evB]
    by_cases h7 : op = 7
    · subst h7
      simp only [↓x_seq, ↓x_reg, ↓x_cond, ↓x_block, execL_ret, thn_normal, thn_ret, regK_mk, condK_tt, condK_ff, outB_ret, inss, ins, List.map_cons, List.map_nil, Option.map_none, Option.map_some, List.getElem?_toArray, runI_nil, i_move, i_assign, i_binOp, stepK_none, putE_some, frzD_some, bnd_some, yes_eq, liveE, keepE, List.filterMap_cons, List.filterMap_nil, List.contains_nil, prim_move, prim_assign, prim_binOp, Nat.zero_le, opnd_tmp, opnd_int, opnd_bool, nilS_tmp, nilS_int, bin_eql, bin_sub, aget, aset, cond_false, decide_true, decide_false, ↓reduceIte, eq_self,
      reduceCtorEq, Nat.reduceEqDiff, Nat.reduceLT, Nat.reduceAdd, Nat.one_ne_zero, Nat.zero_add, Bool.and_false, Bool.not_false, enumE, finK_ret, Ilv.results, resV, all_nil, all_cons, frz41, live41, St.killVars, St.kills, List.filter_nil, Int.reduceEq, St.empty, hr, keep41, evB]
    by_cases h8 : op = 8
    · subst h8
      simp only [↓x_seq, ↓x_reg, ↓x_cond, ↓x_block, execL_ret, thn_normal, thn_ret, regK_mk, condK_tt, condK_ff, outB_ret, inss, ins, List.map_cons, List.map_nil, Option.map_none, Option.map_some, List.getElem?_toArray, runI_nil, i_move, i_assign, i_binOp, stepK_none, putE_some, frzD_some, bnd_some, yes_eq, liveE, keepE, List.filterMap_cons, List.filterMap_nil, List.contains_nil, prim_move, prim_assign, prim_binOp, Nat.zero_le, opnd_tmp, opnd_int, opnd_bool, nilS_tmp, nilS_int, bin_eql, bin_mul, aget, aset, cond_false, decide_true, decide_false, ↓reduceIte, eq_self,
      reduceCtorEq, Nat.reduceEqDiff, Nat.reduceLT, Nat.reduceAdd, Nat.one_ne_zero, Nat.zero_add, Bool.and_false, Bool.not_false, enumE, finK_ret, Ilv.results, resV, all_nil, all_cons, frz41, live41, St.killVars, St.kills, List.filter_nil, Int.reduceEq, St.empty, hr, keep41, evB]
    by_cases h9 : op = 9
    · subst h9
      by_cases hb : b = 0
      · simp only [↓x_seq, ↓x_reg, ↓x_cond, ↓x_block, execL_ret, thn_normal, thn_ret, regK_mk, condK_tt, condK_ff, outB_ret, inss, ins, List.map_cons, List.map_nil, Option.map_none, Option.map_some, List.getElem?_toArray, runI_nil, i_move, i_assign, i_binOp, stepK_none, putE_some, frzD_some, bnd_some, yes_eq, liveE, keepE, List.filterMap_cons, List.filterMap_nil, List.contains_nil, prim_move, prim_assign, prim_binOp, Nat.zero_le, opnd_tmp, opnd_int, opnd_bool, nilS_int, bin_eql, aget, aset, cond_false, decide_true, decide_false, ↓reduceIte, eq_self,
      reduceCtorEq, Nat.reduceEqDiff, Nat.reduceLT, Nat.reduceAdd, Nat.one_ne_zero, Nat.zero_add, Bool.and_false, Bool.not_false, enumE, finK_ret, Ilv.results, resV, all_nil, all_cons, frz41, live41, St.killVars, St.kills, List.filter_nil, Int.reduceEq, St.empty, hr, keep41, evB, hb]
      · have hb2 : (b == 0) = false := by simpa using hb
        simp only [↓x_seq, ↓x_reg, ↓x_cond, ↓x_block, execL_skip, execL_ret, thn_normal, thn_ret, regK_mk, condK_tt, condK_ff, outB_ret, inss, ins, List.map_cons, List.map_nil, Option.map_none, Option.map_some, List.getElem?_toArray, runI_nil, i_move, i_assign, i_binOp, stepK_none, putE_some, frzD_some, bnd_some, yes_eq, liveE, keepE, List.filterMap_cons, List.filterMap_nil, List.contains_nil, prim_move, prim_assign, prim_binOp, Nat.zero_le, opnd_tmp, opnd_int, opnd_bool, nilS_tmp, nilS_int, bin_eql, bin_quo, aget, aset, cond_false, decide_true, decide_false, ↓reduceIte, eq_self,
      reduceCtorEq, Nat.reduceEqDiff, Nat.reduceLT, Nat.reduceAdd, Nat.one_ne_zero, Nat.zero_add, Bool.and_false, Bool.not_false, enumE, finK_ret, Ilv.results, resV, all_nil, all_cons, frz41, live41, St.killVars, St.kills, List.filter_nil, Int.reduceEq, St.empty, hr, keep41, evB, hb, hb2, cond_false]
    by_cases h10 : op = 10
    · subst h10
      by_cases hb : b = 0
      · simp only [↓x_seq, ↓x_reg, ↓x_cond, ↓x_block, execL_ret, thn_normal, thn_ret, regK_mk, condK_tt, condK_ff, outB_ret, inss, ins, List.map_cons, List.map_nil, Option.map_none, Option.map_some, List.getElem?_toArray, runI_nil, i_move, i_assign, i_binOp, stepK_none, putE_some, frzD_some, bnd_some, yes_eq, liveE, keepE, List.filterMap_cons, List.filterMap_nil, List.contains_nil, prim_move, prim_assign, prim_binOp, Nat.zero_le, opnd_tmp, opnd_int, opnd_bool, nilS_int, bin_eql, aget, aset, cond_false, decide_true, decide_false, ↓reduceIte, eq_self,
      reduceCtorEq, Nat.reduceEqDiff, Nat.reduceLT, Nat.reduceAdd, Nat.one_ne_zero, Nat.zero_add, Bool.and_false, Bool.not_false, enumE, finK_ret, Ilv.results, resV, all_nil, all_cons, frz41, live41, St.killVars, St.kills, List.filter_nil, Int.reduceEq, St.empty, hr, keep41, evB, hb]
      · have hb2 : (b == 0) = false := by simpa using hb
        simp only [↓x_seq, ↓x_reg, ↓x_cond, ↓x_block, execL_skip, execL_ret, thn_normal, thn_ret, regK_mk, condK_tt, condK_ff, outB_ret, inss, ins, List.map_cons, List.map_nil, Option.map_none, Option.map_some, List.getElem?_toArray, runI_nil, i_move, i_assign, i_binOp, stepK_none, putE_some, frzD_some, bnd_some, yes_eq, liveE, keepE, List.filterMap_cons, List.filterMap_nil, List.contains_nil, prim_move, prim_assign, prim_binOp, Nat.zero_le, opnd_tmp, opnd_int, opnd_bool, nilS_tmp, nilS_int, bin_eql, bin_rem, aget, aset, cond_false, decide_true, decide_false, ↓reduceIte, eq_self,
      reduceCtorEq, Nat.reduceEqDiff, Nat.reduceLT, Nat.reduceAdd, Nat.one_ne_zero, Nat.zero_add, Bool.and_false, Bool.not_false, enumE, finK_ret, Ilv.results, resV, all_nil, all_cons, frz41, live41, St.killVars, St.kills, List.filter_nil, Int.reduceEq, St.empty, hr, keep41, evB, hb, hb2, cond_false]
    by_cases h11 : op = 11
    · subst h11
      simp only [↓x_seq, ↓x_reg, ↓x_cond, ↓x_block, execL_ret, thn_normal, thn_ret, regK_mk, condK_tt, condK_ff, outB_ret, inss, ins, List.map_cons, List.map_nil, Option.map_none, Option.map_some, List.getElem?_toArray, runI_nil, i_move, i_assign, i_binOp, runI_call, stepK_none, callK_mk,
      putE_some, frzD_some, bnd_some, yes_eq, liveE, keepE, List.filterMap_cons, List.filterMap_nil, List.contains_nil, prim_move, prim_assign, prim_binOp, Nat.zero_le, opnd_tmp, opnd_int, opnd_bool, opnds_nil, opnds_cons, nilS_tmp, nilS_int, bin_eql, aget, aset, cond_false, decide_true, decide_false, ↓reduceIte, eq_self,
      reduceCtorEq, Nat.reduceEqDiff, Nat.reduceLT, Nat.reduceAdd, Nat.one_ne_zero, Nat.zero_add, Bool.and_false, Bool.not_false, enumE, callI_func, finK_ret, Ilv.results, resV, all_nil, all_cons, frz41, live41, St.killVars, St.kills, List.filter_nil, Int.reduceEq, St.empty, hr, keep41, fn65, pure65, told65, evB]
    by_cases h12 : op = 12
    · subst h12
      simp only [↓x_seq, ↓x_reg, ↓x_cond, ↓x_block, execL_ret, thn_normal, thn_ret, regK_mk, condK_tt, condK_ff, outB_ret, inss, ins, List.map_cons, List.map_nil, Option.map_none, Option.map_some, List.getElem?_toArray, runI_nil, i_move, i_assign, i_binOp, runI_call, stepK_none, callK_mk,
      putE_some, frzD_some, bnd_some, yes_eq, liveE, keepE, List.filterMap_cons, List.filterMap_nil, List.contains_nil, prim_move, prim_assign, prim_binOp, Nat.zero_le, opnd_tmp, opnd_int, opnd_bool, opnds_nil, opnds_cons, nilS_tmp, nilS_int, bin_eql, bin_neq, aget, aset, cond_false, decide_true, decide_false, ↓reduceIte, eq_self,
      reduceCtorEq, Nat.reduceEqDiff, Nat.reduceLT, Nat.reduceAdd, Nat.one_ne_zero, Nat.zero_add, Bool.and_false, Bool.not_false, enumE, callI_func, finK_ret, Ilv.results, resV, all_nil, all_cons, frz41, live41, St.killVars, St.kills, List.filter_nil, Int.reduceEq, St.empty, hr, keep41, fn65, pure65, told65, evB]
    by_cases h13 : op = 13
    · subst h13
      simp only [↓x_seq, ↓x_reg, ↓x_cond, ↓x_block, execL_ret, thn_normal, thn_ret, regK_mk, condK_tt, condK_ff, outB_ret, inss, ins, List.map_cons, List.map_nil, Option.map_none, Option.map_some, List.getElem?_toArray, runI_nil, i_move, i_assign, i_binOp, runI_call, stepK_none, callK_mk,
      putE_some, frzD_some, bnd_some, yes_eq, liveE, keepE, List.filterMap_cons, List.filterMap_nil, List.contains_nil, prim_move, prim_assign, prim_binOp, Nat.zero_le, opnd_tmp, opnd_int, opnd_bool, opnds_nil, opnds_cons, nilS_tmp, nilS_int, bin_eql, bin_lss, aget, aset, cond_false, decide_true, decide_false, ↓reduceIte, eq_self,
      reduceCtorEq, Nat.reduceEqDiff, Nat.reduceLT, Nat.reduceAdd, Nat.one_ne_zero, Nat.zero_add, Bool.and_false, Bool.not_false, enumE, callI_func, finK_ret, Ilv.results, resV, all_nil, all_cons, frz41, live41, St.killVars, St.kills, List.filter_nil, Int.reduceEq, St.empty, hr, keep41, fn65, pure65, told65, evB]
    by_cases h14 : op = 14
    · subst h14
      simp only [↓x_seq, ↓x_reg, ↓x_cond, ↓x_block, execL_ret, thn_normal, thn_ret, regK_mk, condK_tt, condK_ff, outB_ret, inss, ins, List.map_cons, List.map_nil, Option.map_none, Option.map_some, List.getElem?_toArray, runI_nil, i_move, i_assign, i_binOp, runI_call, stepK_none, callK_mk,
      putE_some, frzD_some, bnd_some, yes_eq, liveE, keepE, List.filterMap_cons, List.filterMap_nil, List.contains_nil, prim_move, prim_assign, prim_binOp, Nat.zero_le, opnd_tmp, opnd_int, opnd_bool, opnds_nil, opnds_cons, nilS_tmp, nilS_int, bin_eql, bin_leq, aget, aset, cond_false, decide_true, decide_false, ↓reduceIte, eq_self,
      reduceCtorEq, Nat.reduceEqDiff, Nat.reduceLT, Nat.reduceAdd, Nat.one_ne_zero, Nat.zero_add, Bool.and_false, Bool.not_false, enumE, callI_func, finK_ret, Ilv.results, resV, all_nil, all_cons, frz41, live41, St.killVars, St.kills, List.filter_nil, Int.reduceEq, St.empty, hr, keep41, fn65, pure65, told65, evB]
    by_cases h15 : op = 15
    · subst h15
      simp only [↓x_seq, ↓x_reg, ↓x_cond, ↓x_block, execL_ret, thn_normal, thn_ret, regK_mk, condK_tt, condK_ff, outB_ret, inss, ins, List.map_cons, List.map_nil, Option.map_none, Option.map_some, List.getElem?_toArray, runI_nil, i_move, i_assign, i_binOp, runI_call, stepK_none, callK_mk,
      putE_some, frzD_some, bnd_some, yes_eq, liveE, keepE, List.filterMap_cons, List.filterMap_nil, List.contains_nil, prim_move, prim_assign, prim_binOp, Nat.zero_le, opnd_tmp, opnd_int, opnd_bool, opnds_nil, opnds_cons, nilS_tmp, nilS_int, bin_eql, bin_gtr, aget, aset, cond_false, decide_true, decide_false, ↓reduceIte, eq_self,
      reduceCtorEq, Nat.reduceEqDiff, Nat.reduceLT, Nat.reduceAdd, Nat.one_ne_zero, Nat.zero_add, Bool.and_false, Bool.not_false, enumE, callI_func, finK_ret, Ilv.results, resV, all_nil, all_cons, frz41, live41, St.killVars, St.kills, List.filter_nil, Int.reduceEq, gt_iff_lt, St.empty, hr, keep41, fn65, pure65, told65, evB]
    by_cases h16 : op = 16
    · subst h16
      simp only [↓x_seq, ↓x_reg, ↓x_cond, ↓x_block, execL_ret, thn_normal, thn_ret, regK_mk, condK_tt, condK_ff, outB_ret, inss, ins, List.map_cons, List.map_nil, Option.map_none, Option.map_some, List.getElem?_toArray, runI_nil, i_move, i_assign, i_binOp, runI_call, stepK_none, callK_mk,
      putE_some, frzD_some, bnd_some, yes_eq, liveE, keepE, List.filterMap_cons, List.filterMap_nil, List.contains_nil, prim_move, prim_assign, prim_binOp, Nat.zero_le, opnd_tmp, opnd_int, opnd_bool, opnds_nil, opnds_cons, nilS_tmp, nilS_int, bin_eql, bin_geq, aget, aset, cond_false, decide_true, decide_false, ↓reduceIte, eq_self,
      reduceCtorEq, Nat.reduceEqDiff, Nat.reduceLT, Nat.reduceAdd, Nat.one_ne_zero, Nat.zero_add, Bool.and_false, Bool.not_false, enumE, callI_func, finK_ret, Ilv.results, resV, all_nil, all_cons, frz41, live41, St.killVars, St.kills, List.filter_nil, Int.reduceEq, ge_iff_le, St.empty, hr, keep41, fn65, pure65, told65, evB]
    by_cases h17 : op = 17
    · subst h17
      by_cases ha : a = 0
      · simp only [↓x_seq, ↓x_reg, ↓x_cond, ↓x_block, execL_ret, thn_normal, thn_ret, regK_mk, condK_tt, condK_ff, outB_ret, inss, ins, List.map_cons, List.map_nil, Option.map_none, Option.map_some, Option.bind_some, List.getElem?_toArray, List.getElem?_cons_zero, List.getElem?_cons_succ,
      runI_nil, i_move, i_assign, i_pick, i_binOp, runI_call, runI_guard, guardK_tf, stepK_none, callK_mk,
      putE_some, frzD_some, bnd_some, yes_eq, liveE, keepE, List.filterMap_cons, List.filterMap_nil, List.contains_nil, prim_move, prim_assign, prim_binOp, prim_pick, Nat.zero_le, opnd_tmp, opnd_int, opnd_bool, opnds_nil, opnds_cons, nilS_int, bin_eql, bin_neq, aget, aset, cond_true, cond_false, decide_true, decide_false, ↓reduceIte, eq_self,
      reduceCtorEq, Nat.reduceEqDiff, Nat.reduceLT, Nat.reduceAdd, Nat.one_ne_zero, Nat.zero_add, Bool.and_false, Bool.not_true, Bool.not_false, enumE, callI_func, finK_ret, Ilv.results, resV, all_nil, all_cons, frz41, live41, St.killVars, St.kills, List.filter_nil, Int.reduceEq, St.empty, hr, keep41, fn65, pure65, told65, evB, ha, decide_true, decide_false, cond_true, cond_false]
      · simp only [↓x_seq, ↓x_reg, ↓x_cond, ↓x_block, execL_ret, thn_normal, thn_ret, regK_mk, condK_tt, condK_ff, outB_ret, inss, ins, List.map_cons, List.map_nil, Option.map_none, Option.map_some, Option.bind_some, List.getElem?_toArray, List.getElem?_cons_zero, List.getElem?_cons_succ,
      runI_nil, i_move, i_assign, i_pick, i_binOp, runI_call, runI_guard, guardK_tt, stepK_none, callK_mk,
      putE_some, frzD_some, bnd_some, yes_eq, liveE, keepE, List.filterMap_cons, List.filterMap_nil, List.contains_nil, prim_move, prim_assign, prim_binOp, prim_pick, Nat.zero_le, opnd_tmp, opnd_int, opnd_bool, opnds_nil, opnds_cons, nilS_int, bin_eql, bin_neq, aget, aset, cond_false, decide_true, decide_false, ↓reduceIte, eq_self,
      reduceCtorEq, Nat.reduceEqDiff, Nat.reduceLT, Nat.reduceAdd, Nat.one_ne_zero, Nat.zero_add, Bool.and_false, Bool.not_false, enumE, callI_func, finK_ret, Ilv.results, resV, all_nil, all_cons, frz41, live41, St.killVars, St.kills, List.filter_nil, Int.reduceEq, St.empty, hr, keep41, fn65, pure65, told65, evB, ha, decide_true, decide_false, cond_false]
    by_cases h18 : op = 18
    · subst h18
      by_cases ha : a = 0
      · simp only [↓x_seq, ↓x_reg, ↓x_cond, ↓x_block, execL_ret, thn_normal, thn_ret, regK_mk, condK_tt, condK_ff, outB_ret, inss, ins, List.map_cons, List.map_nil, Option.map_none, Option.map_some, Option.bind_some, List.getElem?_toArray, List.getElem?_cons_zero, List.getElem?_cons_succ,
      runI_nil, i_move, i_assign, i_pick, i_binOp, runI_call, runI_guard, guardK_ff, stepK_none, callK_mk,
      putE_some, frzD_some, bnd_some, yes_eq, liveE, keepE, List.filterMap_cons, List.filterMap_nil, List.contains_nil, prim_move, prim_assign, prim_binOp, prim_pick, Nat.zero_le, opnd_tmp, opnd_int, opnd_bool, opnds_nil, opnds_cons, nilS_int, bin_eql, bin_neq, aget, aset, cond_true, cond_false, decide_true, decide_false, ↓reduceIte, eq_self,
      reduceCtorEq, Nat.reduceEqDiff, Nat.reduceLT, Nat.reduceAdd, Nat.one_ne_zero, Nat.zero_add, Bool.and_false, Bool.not_true, Bool.not_false, enumE, callI_func, finK_ret, Ilv.results, resV, all_nil, all_cons, frz41, live41, St.killVars, St.kills, List.filter_nil, Int.reduceEq, St.empty, hr, keep41, fn65, pure65, told65, evB, ha, decide_true, decide_false, cond_true, cond_false]
      · simp only [↓x_seq, ↓x_reg, ↓x_cond, ↓x_block, execL_ret, thn_normal, thn_ret, regK_mk, condK_tt, condK_ff, outB_ret, inss, ins, List.map_cons, List.map_nil, Option.map_none, Option.map_some, Option.bind_some, List.getElem?_toArray, List.getElem?_cons_zero, List.getElem?_cons_succ,
      runI_nil, i_move, i_assign, i_pick, i_binOp, runI_call, runI_guard, guardK_ft, stepK_none, callK_mk,
      putE_some, frzD_some, bnd_some, yes_eq, liveE, keepE, List.filterMap_cons, List.filterMap_nil, List.contains_nil, prim_move, prim_assign, prim_binOp, prim_pick, Nat.zero_le, opnd_tmp, opnd_int, opnd_bool, opnds_nil, opnds_cons, nilS_int, bin_eql, bin_neq, aget, aset, cond_false, decide_true, decide_false, ↓reduceIte, eq_self,
      reduceCtorEq, Nat.reduceEqDiff, Nat.reduceLT, Nat.reduceAdd, Nat.one_ne_zero, Nat.zero_add, Bool.and_false, Bool.not_false, enumE, callI_func, finK_ret, Ilv.results, resV, all_nil, all_cons, frz41, live41, St.killVars, St.kills, List.filter_nil, Int.reduceEq, St.empty, hr, keep41, fn65, pure65, told65, evB, ha, decide_true, decide_false, cond_false]
    simp only [↓x_seq, ↓x_reg, ↓x_cond, ↓x_block, execL_skip, execL_ret, thn_normal, regK_mk, condK_ff, outB_normal, inss, ins, List.map_cons, List.map_nil, Option.map_none, Option.map_some, List.getElem?_toArray, runI_nil, i_move, i_assign, i_binOp, stepK_none, putE_some, frzD_some, bnd_some, yes_eq, liveE, keepE, List.filterMap_cons, List.filterMap_nil, List.contains_nil, prim_move, prim_assign, prim_binOp, Nat.zero_le, opnd_tmp, opnd_int, opnd_bool, nilS_int, bin_eql, aget, aset, cond_false, decide_true, decide_false, ↓reduceIte, eq_self,
      reduceCtorEq, Nat.reduceEqDiff, Nat.reduceLT, Nat.reduceAdd, Nat.one_ne_zero, Nat.zero_add, Bool.and_false, Bool.not_false, enumE, finK_ret, Ilv.results, resV, all_nil, all_cons, frz41, live41, St.killVars, St.kills, List.filter_nil, St.empty, hr, keep41, evB, h6, h7, h8, h9, h10, h11, h12, h13, h14, h15, h16, h17, h18]
  exact callV_told (show allSome (reify s 40) [.int .i64 op, .int .i64 a, .int .i64 b] = some [.int .i64 op, .int .i64 a, .int .i64 b] from rfl) key rfl rfl
end Go.Proofs.YtdCfgT

/- silent.Union in the table of SilentTells. -/
set_option maxRecDepth 100000
set_option linter.unusedSimpArgs false
set_option linter.unusedVariables false
namespace Go.Proofs.YtdCfgT
open Go Go.Ilv
def iV (n : Int) : V := .int .i64 n
def lits (zs : List Int) : V := .lit (zs.map iV)
theorem lits_len (zs : List Int) : (zs.map iV).length = zs.length := List.length_map ..
theorem app1 {zs : List Int} {rows : List (List V)} {ver id n k : Nat} (hk : k = rows.length) (hr : roomOk (rows.length + zs.length) 8 = true) :
    appendOp cfg false ⟨n, [(0, ⟨1, ver, false, rows⟩)]⟩ id 3 (.ref 0 ver 1 0 k) (.lit (zs.map iV)) = some (.ref 0 (ver + 1) 1 0 (rows.length + zs.length), .set 0 ⟨1, ver + 1, false, rows ++ zs.map intRow⟩) := by
  subst hk
  have h1 : (zs.map iV).all (fun v => v.storable && decide (v.cells.length = 1)) = true := by simp [iV, V.storable, V.cells]
  have h2 : (zs.map iV).map V.cells = zs.map intRow := by simp [iV, V.cells, intRow]
  simp only [appendOp, ty3, elems, St.get, aget, if_true, Nat.one_ne_zero, if_false, Bool.false_eq_true, List.length_map, hr, h1, h2, Nat.zero_add, Nat.le_refl, and_self, List.drop_zero, List.take_length]
theorem app0 {zs : List Int} {id : Nat} {s : St} (hz : zs = []) : appendOp cfg false s id 3 .nils (.lit (zs.map iV)) = some (.nils, .none) := by
  subst hz
  simp only [appendOp, ty3, elems, List.map_nil, List.isEmpty_nil, if_true, Nat.one_ne_zero, if_false]
theorem grow1 {n : Nat} (h : 0 < n) (h2 : n ≤ 100000000) (m : Nat) (l : List (Nat × Ilv.Obj)) : intrGrow 1 8 [.nils, .int .i64 n] ⟨m, l⟩ = some (.ref m 0 1 0 0, ⟨m + 1, aset l m ⟨1, 0, false, []⟩⟩) := by
  have h3 : ¬ ((n : Int) = 0) := by omega
  have h4 : (0 < (n : Int) ∧ (n : Int).toNat * 8 ≤ 140737488355328 ∧ (n : Int).toNat ≤ 4611686018427387904 ∧ 0 < 1) := by refine ⟨by omega, ?_, ?_, by decide⟩ <;> simp <;> omega
  simp only [intrGrow, h3, h4, if_false, if_true, and_self]
theorem wrapN {k : Nat} (h : k ≤ 100000000) : IntKind.i64.wrap (k : Int) = (k : Int) := wrap_pos .i64 k (by simp only [mxK]; omega)
theorem wl0 : IntKind.i64.wrap 0 = 0 := by decide
theorem wl1 : IntKind.i64.wrap 1 = 1 := by decide
theorem wl2 : IntKind.i64.wrap 2 = 2 := by decide
theorem wl3 : IntKind.i64.wrap 3 = 3 := by decide
theorem concat_eq (xs ys : List Int) (h0 : 0 < xs.length + ys.length) (h : xs.length + ys.length ≤ 100000000) :
    callL cfg 20 [.lit [lits xs, lits ys]] St.empty = some (.ref 0 2 1 0 (xs.length + ys.length), ⟨1, [(0, ⟨1, 2, false, (xs ++ ys).map intRow⟩)]⟩) := by
  have hs : code20 = Code.seq _ _ := rfl
  have hr : fi20.fn.results.toList = [_] := rfl
  have w1 := wrapN (k := xs.length) (by omega)
  have w2 := wrapN (k := xs.length + ys.length) (by omega)
  have n1 : ¬ ((xs.length : Int) < 0) := by omega
  have n2 : ¬ (((xs.length + ys.length : Nat) : Int) < 0) := by omega
  have e1 : (xs.length : Int) + (ys.length : Int) = ((xs.length + ys.length : Nat) : Int) := by omega
  have g := grow1 h0 h
  have room : ∀ n : Nat, n ≤ 100000000 → roomOk n 8 = true := fun n hn => by simp only [roomOk, Bool.and_eq_true, decide_eq_true_eq]; omega
  have a1 := app1 (zs := xs) (rows := []) (ver := 0) (id := 1) (n := 1) (k := 0) rfl (by simp only [List.length_nil, Nat.zero_add]; exact room _ (by omega))
  have a2 := app1 (zs := ys) (rows := xs.map intRow) (ver := 1) (id := 1) (n := 1) (k := xs.length) (by simp) (by rw [List.length_map]; exact room _ h)
  simp only [List.length_nil, Nat.zero_add, List.nil_append, List.length_map, ← List.map_append] at a1 a2
  rw [call20, hs]
  simp only [↓x_seq, ↓x_reg, ↓x_cond, ↓x_block, execL_skip, execL_exit, execL_ret, thn_normal, thn_exit, regK_mk, condK_tt, condK_ff, outB_normal, outB_exit, inss, ins, List.map_cons, List.map_nil, Option.map_none, Option.map_some, List.getElem?_toArray, List.getElem?_cons_zero, List.getElem?_cons_succ,
      runI_nil, i_move, i_assign, i_load, i_binOp, i_indexAddr, i_builtin, runI_call, stepK_none, stepK_set, callK_mk,
      putE_some, frzD_some, bnd_some, yes_eq, liveE, keepE, List.filterMap_cons, List.filterMap_nil, List.contains_nil, prim_move, prim_assign, prim_load, prim_binOp, prim_indexAddr, prim_len, prim_append, Nat.zero_le, true_and, opnd_tmp, opnd_int, opnd_nils, opnds_nil, opnds_cons, nilS_tmp, nilS_int, bin_lss, bin_add, aget, aset, cond_true, cond_false, decide_true, decide_false, ↓reduceIte, eq_self,
      reduceCtorEq, Nat.reduceEqDiff, Nat.reduceLT, Nat.reduceAdd, Nat.one_ne_zero, indexAddr, rd, V.cells, List.length_cons, List.length_nil, List.take_succ_cons, List.take_nil, Nat.zero_add, Nat.add_zero, Nat.le_refl, ofCells, K.agg, Bool.true_and, Bool.not_false, beq_self_eq_true, St_get, elemTy, lenOp, enumE, callI_func, finK_ret, Ilv.results, resV, all_nil, all_cons, x_loop, frz20, live20, ty26, ty37, St.killVars, St.kills, List.filter_cons, List.filter_nil, Int.cast_ofNat_Int, Int.reduceLT, Int.reduceLE, Int.reduceAdd, Int.reduceToNat, wl1, wl2, lits, St.empty, fn30, pure30, call30, callV_f, lits_len, w1, w2, n1, n2, e1, g, hr, keep20, a1, a2, Int.zero_add]
theorem concat_nil : callL cfg 20 [.lit [lits [], lits []]] St.empty = some (.nils, St.empty) := by
  have hs : code20 = Code.seq _ _ := rfl
  have hr : fi20.fn.results.toList = [_] := rfl
  have a0 : ∀ (s : St) (id : Nat), appendOp cfg false s id 3 .nils (.lit []) = some (.nils, .none) := fun s id => app0 (zs := []) rfl
  have g0 : ∀ (s : St), intrGrow 1 8 [.nils, .int .i64 0] s = some (.nils, s) := fun s => rfl
  rw [call20, hs]
  simp only [↓x_seq, ↓x_reg, ↓x_cond, ↓x_block, execL_skip, execL_exit, execL_ret, thn_normal, thn_exit, regK_mk, condK_tt, condK_ff, outB_normal, outB_exit, inss, ins, List.map_cons, List.map_nil, Option.map_none, Option.map_some, List.getElem?_toArray, List.getElem?_cons_zero, List.getElem?_cons_succ,
      runI_nil, i_move, i_assign, i_load, i_binOp, i_indexAddr, i_builtin, runI_call, stepK_none, callK_mk,
      putE_some, frzD_some, bnd_some, yes_eq, liveE, keepE, List.filterMap_cons, List.filterMap_nil, List.contains_nil, prim_move, prim_assign, prim_load, prim_binOp, prim_indexAddr, prim_len, prim_append, Nat.zero_le, true_and, opnd_tmp, opnd_int, opnd_nils, opnds_nil, opnds_cons, nilS_tmp, nilS_int, bin_lss, bin_add, aget, aset, cond_true, cond_false, decide_true, decide_false, ↓reduceIte, eq_self,
      reduceCtorEq, Nat.reduceEqDiff, Nat.reduceLT, Nat.reduceAdd, Nat.one_ne_zero, indexAddr, rd, V.cells, List.length_cons, List.length_nil, List.take_succ_cons, List.take_nil, Nat.zero_add, Nat.add_zero, Nat.le_refl, ofCells, K.agg, Bool.and_false, Bool.not_false, beq_self_eq_true, St_get, elemTy, lenOp, enumE, callI_func, finK_ret, Ilv.results, resV, all_nil, all_cons, x_loop, frz20, live20, ty26, ty37, St.killVars, St.kills, List.filter_nil, Int.cast_ofNat_Int, Int.reduceLT, Int.reduceLE, Int.reduceAdd, Int.reduceToNat, wl0, wl1, wl2, lits, St.empty, fn30, pure30, call30, callV_f, g0, hr, keep20, a0, Int.zero_add]

theorem compact_le (zs : List Int) : (Go.Lib.compact zs).length ≤ zs.length := by
  unfold Go.Lib.compact Go.Lib.compactUpTo
  rw [List.length_map]
  exact Nat.le_trans (List.length_filter_le _ _) (by simp)
theorem sort1 {zs : List Int} (h0 : 0 < zs.length) (h : zs.length ≤ 100000000) : intrSort [.ref 0 2 1 0 zs.length] ⟨1, [(0, ⟨1, 2, false, zs.map intRow⟩)]⟩ = some (.tup [], ⟨1, [(0, ⟨1, 2, false, (sortZ zs).map intRow⟩)]⟩) := by
  have h1 : (0 + zs.length ≤ zs.length ∧ zs.length < 4611686018427387904) := ⟨by omega, by omega⟩
  have h2 : ¬ zs.length = 0 := by omega
  have h3 : List.take zs.length (zs.map intRow) = zs.map intRow := by rw [← List.length_map (f := intRow), List.take_length]
  have h4 : List.drop (0 + zs.length) (zs.map intRow) = [] := by rw [Nat.zero_add, ← List.length_map (f := intRow), List.drop_length]
  simp only [intrSort, St.get, aget, if_true, List.length_map, h1, and_self, List.drop_zero, h3, intsOf_of, h2, if_false, St.set, aset, List.take_zero, List.nil_append, h4, List.append_nil]
theorem compact1 {zs : List Int} (h0 : 0 < zs.length) (h : zs.length ≤ 100000000) : intrCompact Go.Lib.compact [.ref 0 2 1 0 zs.length] ⟨1, [(0, ⟨1, 2, false, zs.map intRow⟩)]⟩ =
    some (.ref 0 2 1 0 (Go.Lib.compact zs).length, ⟨1, [(0, ⟨1, 2, false, (Go.Lib.compact zs ++ List.replicate (zs.length - (Go.Lib.compact zs).length) 0).map intRow⟩)]⟩) := by
  have h1 : (0 + zs.length ≤ zs.length ∧ zs.length ≤ 9223372036854775807) := ⟨by omega, by omega⟩
  have h2 : ¬ zs.length = 0 := by omega
  have h3 : List.take zs.length (zs.map intRow) = zs.map intRow := by rw [← List.length_map (f := intRow), List.take_length]
  have h4 : List.drop (0 + zs.length) (zs.map intRow) = [] := by rw [Nat.zero_add, ← List.length_map (f := intRow), List.drop_length]
  simp only [intrCompact, St.get, aget, if_true, List.length_map, h1, and_self, List.drop_zero, h3, intsOf_of, h2, if_false, St.set, aset, List.take_zero, List.nil_append, h4, List.append_nil, compact_le]
theorem reify1 (cs ds : List Int) (n ver : Nat) : reify ⟨n, [(0, ⟨1, ver, false, (cs ++ ds).map intRow⟩)]⟩ 40 (.ref 0 ver 1 0 cs.length) = some (lits cs) := by
  have h1 : 0 + cs.length ≤ cs.length + ds.length := by omega
  have h2 : (List.take cs.length ((cs ++ ds).map intRow)).map rowV = cs.map iV := by
    rw [List.map_append, List.take_left' (by simp), List.map_map]
    exact List.map_congr_left fun z _ => rfl
  have h3 : allSome (reify ⟨n, [(0, ⟨1, ver, false, (cs ++ ds).map intRow⟩)]⟩ 39) (cs.map iV) = some (cs.map iV) := allSome_id fun x hx => by
    obtain ⟨z, _, rfl⟩ := List.mem_map.1 hx
    rfl
  rw [rf_ref]
  simp only [elems, St.get, aget, if_true, List.length_map, List.length_append, h1, List.drop_zero, h2, bnd_some, h3, lits]
theorem union_eq (xs ys : List Int) (h : xs.length + ys.length ≤ 100000000) : ∃ r s', callL cfg 11 [lits xs, lits ys] St.empty = some (r, s') ∧ reify s' 40 r = some (lits (uni xs ys)) := by
  have hs : code11 = Code.seq _ _ := rfl
  have hr : fi11.fn.results.toList = [_] := rfl
  rcases Nat.eq_zero_or_pos (xs.length + ys.length) with h0 | h0
  · obtain rfl : xs = [] := List.length_eq_zero_iff.1 (by omega)
    obtain rfl : ys = [] := List.length_eq_zero_iff.1 (by omega)
    have u0 : uni [] [] = [] := by simp [uni, sortZ, Go.Lib.compact, Go.Lib.compactUpTo]
    refine ⟨.nils, St.empty, ?_, by rw [u0]; rfl⟩
    have c := concat_nil
    have i1 : intrSort [.nils] St.empty = some (.tup [], St.empty) := rfl
    have i2 : intrCompact Go.Lib.compact [.nils] St.empty = some (.nils, St.empty) := rfl
    simp only [lits, List.map_nil, St.empty] at c i1 i2 ⊢
    rw [call11, hs]
    simp only [↓x_seq, ↓x_reg, execL_ret, thn_normal, regK_mk, inss, ins, List.map_cons, List.map_nil, Option.map_none, Option.map_some, List.getElem?_toArray, runI_nil, i_move, i_assign, i_buildSlice, runI_call, stepK_none, callK_mk,
      putE_some, frzD_some, bnd_some, yes_eq, liveE, keepE, List.filterMap_cons, List.filterMap_nil, List.contains_cons, List.contains_nil, Bool.or_false, prim_move, prim_assign, prim_buildSlice, Nat.zero_le, opnd_tmp, opnd_nils, opnds_nil, opnds_cons, popnds_nil, popnds_cons, aget, aset, cond_true, cond_false, decide_true, ↓reduceIte, eq_self,
      reduceCtorEq, Nat.reduceEqDiff, Nat.reduceLT, Nat.reduceLeDiff, Nat.reduceBEq, Nat.reduceAdd, Nat.reduceMul, Nat.one_ne_zero, V.cells, List.length_cons, List.length_nil, Nat.zero_add, V.storable, Bool.true_and, Bool.and_true, Bool.and_false, Bool.not_false, beq_self_eq_true, partsIn, sliceOfRows, List.all_cons, List.all_nil, V.flat, V.norm, V.norm1, elemTy, enumE, callI_func, finK_ret, Ilv.results, resV, all_nil, all_cons, Bool.or_false, frz11, live11, ty26, ty37, St.killVars, St.kills, List.filter_nil, fn20, pure20, fn21, pure21, call21, fn22, pure22, call22, callV_f, c, hr, keep11, i1, i2]
  · have c := concat_eq xs ys h0 h
    have hl : (xs ++ ys).length = xs.length + ys.length := List.length_append
    have hl2 : (sortZ (xs ++ ys)).length = xs.length + ys.length := by simp [sortZ]
    have i1 := sort1 (zs := xs ++ ys) (by omega) (by omega)
    have i2 := compact1 (zs := sortZ (xs ++ ys)) (by omega) (by omega)
    rw [hl] at i1
    rw [hl2] at i2
    refine ⟨_, _, ?_, reify1 (uni xs ys) (List.replicate (xs.length + ys.length - (uni xs ys).length) 0) 1 2⟩
    simp only [lits, St.empty] at c ⊢
    rw [call11, hs]
    simp only [↓x_seq, ↓x_reg, execL_ret, thn_normal, regK_mk, inss, ins, List.map_cons, List.map_nil, Option.map_none, Option.map_some, List.getElem?_toArray, runI_nil, i_move, i_assign, i_buildSlice, runI_call, stepK_none, callK_mk,
      putE_some, frzD_some, bnd_some, yes_eq, liveE, keepE, List.filterMap_cons, List.filterMap_nil, List.contains_cons, List.contains_nil, Bool.or_false, prim_move, prim_assign, prim_buildSlice, Nat.zero_le, opnd_tmp, opnd_nils, opnds_nil, opnds_cons, popnds_nil, popnds_cons, aget, aset, cond_true, cond_false, decide_true, ↓reduceIte, eq_self,
      reduceCtorEq, Nat.reduceEqDiff, Nat.reduceLT, Nat.reduceLeDiff, Nat.reduceBEq, Nat.reduceAdd, Nat.reduceMul, Nat.one_ne_zero, V.cells, List.length_cons, List.length_nil, Nat.zero_add, V.storable, Bool.true_and, Bool.and_true, Bool.not_false, beq_self_eq_true, partsIn, sliceOfRows, List.all_cons, List.all_nil, V.flat, V.norm, V.norm1, elemTy, enumE, callI_func, finK_ret, Ilv.results, resV, all_nil, all_cons, Bool.or_false, frz11, live11, ty26, ty37, St.killVars, St.kills, List.filter_cons, List.filter_nil, fn20, pure20, fn21, pure21, call21, fn22, pure22, call22, callV_f, c, hr, keep11, i1, i2, uni]
theorem told11 (xs ys : List Int) (h : xs.length + ys.length ≤ 100000000) (s : St) : callV (callL cfg) true 11 [lits xs, lits ys] s = some (lits (uni xs ys), s) := by
  obtain ⟨r, s', h1, h2⟩ := union_eq xs ys h
  exact callV_told (show allSome (reify s 40) [lits xs, lits ys] = some [lits xs, lits ys] from rfl) h1 h2 rfl
/-- A list of numbers, as a value: an empty one in one of two ways. -/
def IsT (v : V) (t : List Int) : Prop := v = lits t ∨ (t = [] ∧ v = .nils)
theorem IsT.lits (t : List Int) : IsT (lits t) t := .inl rfl
theorem IsT.nils : IsT .nils [] := .inr ⟨rfl, rfl⟩
theorem IsT.reify {v : V} {t : List Int} (h : IsT v t) (s : St) (n : Nat) : reify s (n + 1) v = some (YtdCfgT.lits t) := by
  rcases h with rfl | ⟨rfl, rfl⟩ <;> rfl
theorem IsT.flat {v : V} {t : List Int} (h : IsT v t) : v.flat = true := by
  rcases h with rfl | ⟨rfl, rfl⟩ <;> rfl
theorem told11' {x y : V} {xs ys : List Int} (hx : IsT x xs) (hy : IsT y ys) (h : xs.length + ys.length ≤ 100000000) (s : St) : callV (callL cfg) true 11 [x, y] s = some (lits (uni xs ys), s) := by
  obtain ⟨r, s', h1, h2⟩ := union_eq xs ys h
  exact callV_told (show allSome (reify s 40) [x, y] = some [lits xs, lits ys] by simp only [allSome, hx.reify, hy.reify]) h1 h2 (by simp only [List.all_cons, List.all_nil, hx.flat, hy.flat]; rfl)
theorem told34 {x : V} {xs : List Int} (hx : IsT x xs) (h : xs.length ≤ 100000000) (s : St) : callV (callL cfg) true 34 [x] s = some (lits xs, s) := by
  have h0 : allSome (reify s 40) [x] = some [lits xs] := by simp only [allSome, hx.reify]
  have hf : ([x].all V.flat || (lits xs).scalar) = true := by simp only [List.all_cons, List.all_nil, hx.flat]; rfl
  cases xs with
  | nil => exact callV_told h0 (show callL cfg 34 [lits []] St.empty = some (.nils, St.empty) by rw [call34]; rfl) rfl hf
  | cons z zs =>
    have hc : callL cfg 34 [lits (z :: zs)] St.empty = some (.ref 0 0 1 0 (z :: zs).length, ⟨1, [(0, ⟨1, 0, false, ((z :: zs) ++ []).map intRow⟩)]⟩) := by
      rw [call34]
      have e1 : ((z :: zs).map iV).all (fun v => v.storable && decide (v.cells.length = 1)) = true := by simp [iV, V.storable, V.cells]
      have e2 : ((z :: zs).map iV).length ≤ 100000000 := by rw [List.length_map]; exact h
      have e3 : ((z :: zs).map iV).map V.cells = (z :: zs).map intRow := by simp [iV, V.cells, intRow]
      have e4 : ((z :: zs).map iV).length = (z :: zs).length := List.length_map ..
      have key : ∀ ws : List V, ws = (z :: zs).map iV → intrClone 1 [.lit ws] St.empty = some (.ref 0 0 1 0 (z :: zs).length, ⟨1, [(0, ⟨1, 0, false, ((z :: zs) ++ []).map intRow⟩)]⟩) := by
        intro ws hw
        match ws, hw with
        | [], hw => cases hw
        | w :: ws, hw =>
          rw [List.append_nil, ← e3, ← e4, ← hw]
          rw [← hw] at e1 e2
          simp only [intrClone, elems, e1, e2, decide_true, Bool.and_self, if_true, St.empty, aset]
      exact key _ rfl
    exact callV_told h0 hc (reify1 (z :: zs) [] 1 0) hf
end Go.Proofs.YtdCfgT

/- silent.execute. -/
set_option maxRecDepth 100000
set_option linter.unusedSimpArgs false
set_option linter.unusedVariables false
namespace Go.Proofs.YtdCfgT
open Go Go.Ilv
/-- The box of a thread's state. -/
def Sbox (pc : Int) (rv tv : V) (ev : Int) : Ilv.Obj := ⟨4, 0, true, [[.int .i64 pc, rv, tv, .int .i64 ev]]⟩
/-- The registers, in the store. -/
def Regs (l : List (Nat × Ilv.Obj)) (rid : Nat) (rv : V) (regs : List Int) : Prop := (rv = .ref rid 0 1 0 regs.length ∧ aget l rid = some ⟨1, 0, false, regs.map intRow⟩) ∨ (rv = .nils ∧ regs = [])
theorem Regs.len {l : List (Nat × Ilv.Obj)} {rid : Nat} {rv : V} {regs : List Int} (h : Regs l rid rv regs) : lenOp cfg 36 rv = some (.int .i64 regs.length) := by
  rcases h with ⟨rfl, _⟩ | ⟨rfl, rfl⟩ <;> rfl
def inR (regs : List Int) (r : Int) : Bool := decide (0 ≤ r) && decide (r < regs.length)
theorem call35' {l : List (Nat × Ilv.Obj)} {n p rid : Nat} {pc ev r : Int} {rv tv : V} {regs : List Int} (hf : Fresh n l) (hp : aget l p = some ⟨1, 0, true, [[.ptr 1 0 0 0]]⟩) (h1 : aget l 1 = some (Sbox pc rv tv ev)) (hr : Regs l rid rv regs) (hs1 : rv.storable = true) :
    callL cfg 35 [.int .i64 r, .ptr p 0 0 0] ⟨n, l⟩ = some (.bool (inR regs r), ⟨n, l⟩) := by
  have hs : code35 = Code.seq _ _ := rfl
  have hrr : fi35.fn.results.toList = [_] := rfl
  have hk := kill_fresh (m := n) hf
  have hl := hr.len
  rw [call35, hs]
  by_cases h0 : 0 ≤ r
  · simp (config := { maxSteps := 2000000 }) only [↓x_seq, ↓x_reg, execL_ret, thn_normal, regK_mk, inss, ins, List.map_cons, List.map_nil, Option.map_none, Option.map_some, Option.bind_some, List.getElem?_toArray, List.getElem?_cons_zero, List.getElem?_cons_succ,
      runI_nil, i_move, i_assign, i_pick, i_load, i_nilCheck, i_binOp, i_fieldAddr, i_builtin, runI_guard, guardK_tt, stepK_none, putE_some, frzD_some, bnd_some, yes_eq, keepE_nil, keepE_cons, cons1_some, List.contains_nil, prim_move, prim_assign, prim_load, prim_nilCheck, prim_binOp, prim_fieldAddr, prim_len, prim_pick, opnd_tmp, opnd_int, opnd_bool, nilS_tmp, nilS_int, bin_lss, bin_geq, aget, aset, cond_false, decide_true, ↓reduceIte, eq_self,
      reduceCtorEq, Nat.reduceEqDiff, Nat.reduceLT, Nat.reduceLeDiff, Nat.reduceAdd, Nat.one_ne_zero, fieldAddr, rd, List.length_cons, List.length_nil, List.take_succ_cons, List.take_zero, List.drop_succ_cons, List.drop_zero, List.take_nil, Nat.zero_add, Nat.le_refl, ofCells, K.agg, Bool.true_and, St_get, enumE, finK_ret, Ilv.results, resV, all_nil, all_cons, frz35, lv35_0, lv35_1, ty36, ty39, ty68, Sbox, hrr, keep35, hp, h1, h0, hl, hk, inR]
  · simp (config := { maxSteps := 2000000 }) only [↓x_seq, ↓x_reg, execL_ret, thn_normal, regK_mk, inss, ins, List.map_cons, List.map_nil, Option.map_none, Option.map_some, Option.bind_some, List.getElem?_toArray, List.getElem?_cons_zero, List.getElem?_cons_succ,
      runI_nil, i_move, i_assign, i_pick, i_binOp, runI_guard, guardK_tf, stepK_none, putE_some, frzD_some, bnd_some, yes_eq, keepE_nil, keepE_cons, cons1_some, List.contains_nil, prim_move, prim_assign, prim_binOp, prim_pick, opnd_tmp, opnd_int, opnd_bool, nilS_int, bin_geq, aget, aset, cond_false, decide_false, ↓reduceIte, eq_self,
      reduceCtorEq, Nat.reduceEqDiff, Nat.reduceLT, Nat.one_ne_zero, Nat.zero_add, Bool.false_and, enumE, finK_ret, Ilv.results, resV, all_nil, all_cons, frz35, lv35_0, lv35_1, hrr, keep35, h0, hk, inR]
/-- An instruction, as cells. -/
def iC (op a b c nn site : Int) : List V := [.int .i64 op, .int .i64 a, .int .i64 b, .int .i64 c, .int .i64 nn, .int .i64 site]
def B1 : Ilv.Obj := ⟨1, 0, true, [[.ptr 1 0 0 0]]⟩
def B2 (op a b c nn site : Int) : Ilv.Obj := ⟨6, 0, true, [iC op a b c nn site]⟩
def tRow (t : List Int) : List V := [.lit (t.map iV)]
def TObj (taint : List (List Int)) : Ilv.Obj := ⟨1, 0, false, taint.map tRow⟩
def RObj (regs : List Int) : Ilv.Obj := ⟨1, 0, false, regs.map intRow⟩
theorem call24_jump {l : List (Nat × Ilv.Obj)} {n rid tid : Nat} {pc ev a b c nn site : Int} {rv tv : V} (hn : 2 ≤ n) (h1 : aget l 1 = some (Sbox pc rv tv ev)) :
    callL cfg 24 [.ptr 1 0 0 0, .agg (iC 5 a b c nn site)] ⟨n, l⟩ = some (.bool true, St.killVars ⟨n + 2, aset (aset (aset l n B1) (n + 1) (B2 5 a b c nn site)) 1 (Sbox a rv tv ev)⟩ n) := by
  have hs : code24 = Code.seq _ _ := rfl
  have q1 : (1 = n) = False := eq_false (by omega)
  have q2 : (1 = n + 1) = False := eq_false (by omega)
  have hrr : fi24.fn.results.toList = [_] := rfl
  rw [call24, hs]
  simp (config := { maxSteps := 2000000 }) only [↓x_seq, ↓x_reg, ↓x_cond, ↓x_block, execL_ret, thn_normal, thn_ret, regK_mk, condK_tt, outB_ret, inss, ins, List.map_cons, List.map_nil, Option.map_none, List.getElem?_toArray, List.getElem?_cons_zero, List.getElem?_cons_succ,
      runI_nil, i_assign, i_box, i_load, i_store, i_nilCheck, i_binOp, i_makeFunc, i_fieldAddr, stepK_none, stepK_set, putE_some, putE_none, frzD_some, frzD_none, bnd_some, yes_eq, keepE_nil, keepE_cons, cons1_some, List.contains_nil, prim_assign, prim_box, prim_load, prim_store, prim_nilCheck, prim_binOp, prim_fieldAddr, opnd_tmp, opnd_int, opnd_bool, opnd_nils, opnds_nil, opnds_cons, nilS_int, bin_eql, aget, aset, aget_aset, cond_true, cond_false, decide_true, ↓reduceIte, eq_self,
      reduceCtorEq, Nat.reduceEqDiff, Nat.reduceLT, Nat.reduceLeDiff, Nat.reduceBEq, Nat.reduceAdd, Nat.left_eq_add, Nat.add_assoc, Nat.one_ne_zero, fieldAddr, rd, V.cells, List.length_cons, List.length_nil, List.take_succ_cons, List.take_zero, List.drop_succ_cons, List.drop_zero, List.take_nil, List.set_cons_zero, List.nil_append, List.cons_append, Nat.zero_add, Nat.add_zero, Nat.le_refl, ofCells, K.agg, put1, splice, V.storable, Bool.true_and, beq_self_eq_true, St_get, enumE, prim_makeFunc, finK_ret, Ilv.results, resV, all_nil, all_cons, frz24, lv24_0, lv24_1, lv24_2, lv24_3, lv24_4, lv24_5, lv24_6, lv24_7, lv24_8, ty3, ty39, ty60, ty68, St.killVars, St.kills, Sbox, hrr, keep24, q1, q2, h1, iC, B1, B2]
end Go.Proofs.YtdCfgT

/- silent.execute, case by case. -/
set_option maxRecDepth 100000
set_option linter.unusedSimpArgs false
set_option linter.unusedVariables false
namespace Go.Proofs.YtdCfgT
open Go Go.Ilv
theorem rv_st {l : List (Nat × Ilv.Obj)} {rid : Nat} {rv : V} {regs : List Int} (h : Regs l rid rv regs) : rv.storable = true ∧ rv.cells = [rv] := by
  rcases h with ⟨rfl, _⟩ | ⟨rfl, _⟩ <;> exact ⟨rfl, rfl⟩
theorem Regs.set {l : List (Nat × Ilv.Obj)} {rid i : Nat} {rv : V} {regs : List Int} {o : Ilv.Obj} (h : Regs l rid rv regs) (hi : rid ≠ i) : Regs (aset l i o) rid rv regs := by
  rcases h with ⟨h1, h2⟩ | h
  · exact .inl ⟨h1, by rw [aget_ne hi]; exact h2⟩
  · exact .inr h
/-- reg, called in execute. -/
theorem c35 {l : List (Nat × Ilv.Obj)} {n rid : Nat} {pc ev op a b c nn site : Int} {rv tv : V} {regs : List Int} (hn : 2 ≤ n) (hf : Fresh n l) (h1 : aget l 1 = some (Sbox pc rv tv ev)) (hr : Regs l rid rv regs) (hrid : rid < n) (r : Int) :
    callL cfg 35 [.int .i64 r, .ptr n 0 0 0] ⟨n + 2, aset (aset l n ⟨1, 0, true, [[.ptr 1 0 0 0]]⟩) (n + 1) ⟨6, 0, true, [[.int .i64 op, .int .i64 a, .int .i64 b, .int .i64 c, .int .i64 nn, .int .i64 site]]⟩⟩ =
      some (.bool (inR regs r), ⟨n + 2, aset (aset l n ⟨1, 0, true, [[.ptr 1 0 0 0]]⟩) (n + 1) ⟨6, 0, true, [[.int .i64 op, .int .i64 a, .int .i64 b, .int .i64 c, .int .i64 nn, .int .i64 site]]⟩⟩) :=
  call35' ((hf.set (Nat.le_succ n) (Nat.lt_succ_self n)).set (Nat.le_succ _) (Nat.lt_succ_self _)) (by rw [aget_ne (by omega), aget_self]) (by rw [aget_ne (by omega), aget_ne (by omega)]; exact h1)
    ((hr.set (by omega)).set (by omega)) (rv_st hr).1

theorem x1f {l : List (Nat × Ilv.Obj)} {n rid tid : Nat} {pc ev a b c nn site : Int} {rv tv : V} {regs : List Int} (hn : 2 ≤ n) (hf : Fresh n l) (hrid : rid < n) (htid : tid < n) (d1 : rid ≠ 1) (d2 : tid ≠ 1) (d3 : rid ≠ tid) (h1 : aget l 1 = some (Sbox pc rv tv ev)) (hr : Regs l rid rv regs) (ha : inR regs a = false) :
    callL cfg 24 [.ptr 1 0 0 0, .agg (iC 1 a b c nn site)] ⟨n, l⟩ = some (.bool false, St.killVars ⟨n + 2, aset (aset l n B1) (n + 1) (B2 1 a b c nn site)⟩ n) := by
  have hs : code24 = Code.seq _ _ := rfl
  have hrr : fi24.fn.results.toList = [_] := rfl
  have q1 : (1 = n) = False := eq_false (by omega)
  have q2 : (1 = n + 1) = False := eq_false (by omega)
  have q3 : (rid = n) = False := eq_false (by omega)
  have q4 : (rid = n + 1) = False := eq_false (by omega)
  have q5 : (tid = n) = False := eq_false (by omega)
  have q6 : (tid = n + 1) = False := eq_false (by omega)
  have q7 : (rid = 1) = False := eq_false (by omega)
  have q8 : (tid = 1) = False := eq_false (by omega)
  have q9 : (tid = rid) = False := eq_false (by omega)
  have q10 : (rid = tid) = False := eq_false (by omega)
  have q11 : (1 = rid) = False := eq_false (by omega)
  have q12 : (1 = tid) = False := eq_false (by omega)
  have q13 : (n = tid) = False := eq_false (by omega)
  have q14 : (n = rid) = False := eq_false (by omega)
  have q15 : (n + 1 = tid) = False := eq_false (by omega)
  have q16 : (n + 1 = rid) = False := eq_false (by omega)
  have c35' := fun r => c35 (op := 1) (a := a) (b := b) (c := c) (nn := nn) (site := site) hn hf h1 hr hrid r
  rw [call24, hs]
  simp (config := { maxSteps := 2000000 }) only [↓x_seq, ↓x_reg, ↓x_cond, ↓x_block, execL_ret, thn_normal, thn_ret, regK_mk, condK_tt, condK_ff, outB_normal, inss, ins, List.map_cons, List.map_nil, Option.map_none, Option.map_some, Option.bind_some, List.getElem?_toArray, List.getElem?_cons_zero, List.getElem?_cons_succ,
      runI_nil, i_move, i_assign, i_pick, i_box, i_load, i_binOp, i_unOp, i_makeFunc, i_fieldAddr, runI_call, runI_guard, guardK_ff, stepK_none, stepK_set, callK_mk,
      putE_some, frzD_some, bnd_some, yes_eq, keepE_nil, keepE_cons, cons1_some, List.contains_nil, prim_move, prim_assign, prim_box, prim_load, prim_binOp, prim_unOp, prim_fieldAddr, prim_pick, opnd_tmp, opnd_int, opnd_bool, opnd_nils, opnds_nil, opnds_cons, nilS_int, bin_eql, un_not, aget, aset, aget_aset, cond_true, cond_false, decide_true, decide_false, ↓reduceIte, eq_self,
      reduceCtorEq, Nat.reduceEqDiff, Nat.reduceLT, Nat.reduceLeDiff, Nat.reduceBEq, Nat.reduceAdd, Nat.add_assoc, Nat.one_ne_zero, fieldAddr, rd, V.cells, List.length_cons, List.length_nil, List.take_succ_cons, List.take_zero, List.drop_succ_cons, List.drop_zero, List.nil_append, List.cons_append, Nat.zero_add, Nat.add_zero, ofCells, K.agg, V.storable, Bool.true_and, Bool.not_true, Bool.not_false, beq_self_eq_true, St_get, enumE, callI_tmp, callF_fn, prim_makeFunc, finK_ret, Ilv.results, resV, all_nil, all_cons, frz24, lv24_0, lv24_1, lv24_2, lv24_3, lv24_4, lv24_5, lv24_6, lv24_9, lv24_10, lv24_25, lv24_26, ty2, ty3, ty60, ty68, Int.reduceEq, hrr, keep24, iC, B1, B2, fn35, pure35, callV_f, c35', ha]
theorem x2f {l : List (Nat × Ilv.Obj)} {n rid tid : Nat} {pc ev a b c nn site : Int} {rv tv : V} {regs : List Int} (hn : 2 ≤ n) (hf : Fresh n l) (hrid : rid < n) (htid : tid < n) (d1 : rid ≠ 1) (d2 : tid ≠ 1) (d3 : rid ≠ tid) (h1 : aget l 1 = some (Sbox pc rv tv ev)) (hr : Regs l rid rv regs) (hb : inR regs b = false) :
    callL cfg 24 [.ptr 1 0 0 0, .agg (iC 2 a b c nn site)] ⟨n, l⟩ = some (.bool false, St.killVars ⟨n + 2, aset (aset l n B1) (n + 1) (B2 2 a b c nn site)⟩ n) := by
  have hs : code24 = Code.seq _ _ := rfl
  have hrr : fi24.fn.results.toList = [_] := rfl
  have q1 : (1 = n) = False := eq_false (by omega)
  have q2 : (1 = n + 1) = False := eq_false (by omega)
  have q3 : (rid = n) = False := eq_false (by omega)
  have q4 : (rid = n + 1) = False := eq_false (by omega)
  have q5 : (tid = n) = False := eq_false (by omega)
  have q6 : (tid = n + 1) = False := eq_false (by omega)
  have q7 : (rid = 1) = False := eq_false (by omega)
  have q8 : (tid = 1) = False := eq_false (by omega)
  have q9 : (tid = rid) = False := eq_false (by omega)
  have q10 : (rid = tid) = False := eq_false (by omega)
  have q11 : (1 = rid) = False := eq_false (by omega)
  have q12 : (1 = tid) = False := eq_false (by omega)
  have q13 : (n = tid) = False := eq_false (by omega)
  have q14 : (n = rid) = False := eq_false (by omega)
  have q15 : (n + 1 = tid) = False := eq_false (by omega)
  have q16 : (n + 1 = rid) = False := eq_false (by omega)
  have c35' := fun r => c35 (op := 2) (a := a) (b := b) (c := c) (nn := nn) (site := site) hn hf h1 hr hrid r
  rw [call24, hs]
  simp (config := { maxSteps := 2000000 }) only [↓x_seq, ↓x_reg, ↓x_cond, ↓x_block, execL_skip, execL_ret, thn_normal, thn_ret, regK_mk, condK_tt, condK_ff, outB_normal, inss, ins, List.map_cons, List.map_nil, Option.map_none, Option.map_some, Option.bind_some, List.getElem?_toArray, List.getElem?_cons_zero, List.getElem?_cons_succ,
      runI_nil, i_move, i_assign, i_pick, i_box, i_load, i_binOp, i_unOp, i_makeFunc, i_fieldAddr, runI_call, runI_guard, guardK_ft, stepK_none, stepK_set, callK_mk,
      putE_some, frzD_some, bnd_some, yes_eq, keepE_nil, keepE_cons, cons1_some, List.contains_nil, prim_move, prim_assign, prim_box, prim_load, prim_binOp, prim_unOp, prim_fieldAddr, prim_pick, opnd_tmp, opnd_int, opnd_bool, opnd_nils, opnds_nil, opnds_cons, nilS_int, bin_eql, un_not, aget, aset, aget_aset, cond_true, cond_false, decide_true, decide_false, ↓reduceIte, eq_self,
      reduceCtorEq, Nat.reduceEqDiff, Nat.reduceLT, Nat.reduceLeDiff, Nat.reduceBEq, Nat.reduceAdd, Nat.add_assoc, Nat.one_ne_zero, fieldAddr, rd, V.cells, List.length_cons, List.length_nil, List.take_succ_cons, List.take_zero, List.drop_succ_cons, List.drop_zero, List.nil_append, List.cons_append, Nat.zero_add, Nat.add_zero, ofCells, K.agg, V.storable, Bool.true_and, Bool.not_false, beq_self_eq_true, St_get, enumE, callI_tmp, callF_fn, prim_makeFunc, finK_ret, Ilv.results, resV, all_nil, all_cons, frz24, lv24_0, lv24_1, lv24_2, lv24_3, lv24_4, lv24_5, lv24_6, lv24_9, lv24_11, lv24_12, lv24_13, lv24_25, lv24_26, ty3, ty60, ty68, Int.reduceEq, hrr, keep24, iC, B1, B2, fn35, pure35, callV_f, c35', hb]
theorem x3f {l : List (Nat × Ilv.Obj)} {n rid tid : Nat} {pc ev a b c nn site : Int} {rv tv : V} {regs : List Int} (hn : 2 ≤ n) (hf : Fresh n l) (hrid : rid < n) (htid : tid < n) (d1 : rid ≠ 1) (d2 : tid ≠ 1) (d3 : rid ≠ tid) (h1 : aget l 1 = some (Sbox pc rv tv ev)) (hr : Regs l rid rv regs) (hb : inR regs b = false) :
    callL cfg 24 [.ptr 1 0 0 0, .agg (iC 3 a b c nn site)] ⟨n, l⟩ = some (.bool false, St.killVars ⟨n + 2, aset (aset l n B1) (n + 1) (B2 3 a b c nn site)⟩ n) := by
  have hs : code24 = Code.seq _ _ := rfl
  have hrr : fi24.fn.results.toList = [_] := rfl
  have q1 : (1 = n) = False := eq_false (by omega)
  have q2 : (1 = n + 1) = False := eq_false (by omega)
  have q3 : (rid = n) = False := eq_false (by omega)
  have q4 : (rid = n + 1) = False := eq_false (by omega)
  have q5 : (tid = n) = False := eq_false (by omega)
  have q6 : (tid = n + 1) = False := eq_false (by omega)
  have q7 : (rid = 1) = False := eq_false (by omega)
  have q8 : (tid = 1) = False := eq_false (by omega)
  have q9 : (tid = rid) = False := eq_false (by omega)
  have q10 : (rid = tid) = False := eq_false (by omega)
  have q11 : (1 = rid) = False := eq_false (by omega)
  have q12 : (1 = tid) = False := eq_false (by omega)
  have q13 : (n = tid) = False := eq_false (by omega)
  have q14 : (n = rid) = False := eq_false (by omega)
  have q15 : (n + 1 = tid) = False := eq_false (by omega)
  have q16 : (n + 1 = rid) = False := eq_false (by omega)
  have c35' := fun r => c35 (op := 3) (a := a) (b := b) (c := c) (nn := nn) (site := site) hn hf h1 hr hrid r
  rw [call24, hs]
  simp (config := { maxSteps := 2000000 }) only [↓x_seq, ↓x_reg, ↓x_cond, ↓x_block, execL_skip, execL_ret, thn_normal, thn_ret, regK_mk, condK_tt, condK_ff, outB_normal, inss, ins, List.map_cons, List.map_nil, Option.map_none, Option.map_some, Option.bind_some, List.getElem?_toArray, List.getElem?_cons_zero, List.getElem?_cons_succ,
      runI_nil, i_move, i_assign, i_pick, i_box, i_load, i_binOp, i_unOp, i_makeFunc, i_fieldAddr, runI_call, runI_guard, guardK_ft, stepK_none, stepK_set, callK_mk,
      putE_some, frzD_some, bnd_some, yes_eq, keepE_nil, keepE_cons, cons1_some, List.contains_nil, prim_move, prim_assign, prim_box, prim_load, prim_binOp, prim_unOp, prim_fieldAddr, prim_pick, opnd_tmp, opnd_int, opnd_bool, opnd_nils, opnds_nil, opnds_cons, nilS_int, bin_eql, un_not, aget, aset, aget_aset, cond_true, cond_false, decide_true, decide_false, ↓reduceIte, eq_self,
      reduceCtorEq, Nat.reduceEqDiff, Nat.reduceLT, Nat.reduceLeDiff, Nat.reduceBEq, Nat.reduceAdd, Nat.add_assoc, Nat.one_ne_zero, fieldAddr, rd, V.cells, List.length_cons, List.length_nil, List.take_succ_cons, List.take_zero, List.drop_succ_cons, List.drop_zero, List.nil_append, List.cons_append, Nat.zero_add, Nat.add_zero, ofCells, K.agg, V.storable, Bool.true_and, Bool.not_false, beq_self_eq_true, St_get, enumE, callI_tmp, callF_fn, prim_makeFunc, finK_ret, Ilv.results, resV, all_nil, all_cons, frz24, lv24_0, lv24_1, lv24_2, lv24_3, lv24_4, lv24_5, lv24_6, lv24_9, lv24_11, lv24_15, lv24_16, lv24_17, lv24_25, lv24_26, ty3, ty60, ty68, Int.reduceEq, hrr, keep24, iC, B1, B2, fn35, pure35, callV_f, c35', hb]
theorem x4f {l : List (Nat × Ilv.Obj)} {n rid tid : Nat} {pc ev a b c nn site : Int} {rv tv : V} {regs : List Int} (hn : 2 ≤ n) (hf : Fresh n l) (hrid : rid < n) (htid : tid < n) (d1 : rid ≠ 1) (d2 : tid ≠ 1) (d3 : rid ≠ tid) (h1 : aget l 1 = some (Sbox pc rv tv ev)) (hr : Regs l rid rv regs) (hb : inR regs b = false) :
    callL cfg 24 [.ptr 1 0 0 0, .agg (iC 4 a b c nn site)] ⟨n, l⟩ = some (.bool false, St.killVars ⟨n + 2, aset (aset l n B1) (n + 1) (B2 4 a b c nn site)⟩ n) := by
  have hs : code24 = Code.seq _ _ := rfl
  have hrr : fi24.fn.results.toList = [_] := rfl
  have q1 : (1 = n) = False := eq_false (by omega)
  have q2 : (1 = n + 1) = False := eq_false (by omega)
  have q3 : (rid = n) = False := eq_false (by omega)
  have q4 : (rid = n + 1) = False := eq_false (by omega)
  have q5 : (tid = n) = False := eq_false (by omega)
  have q6 : (tid = n + 1) = False := eq_false (by omega)
  have q7 : (rid = 1) = False := eq_false (by omega)
  have q8 : (tid = 1) = False := eq_false (by omega)
  have q9 : (tid = rid) = False := eq_false (by omega)
  have q10 : (rid = tid) = False := eq_false (by omega)
  have q11 : (1 = rid) = False := eq_false (by omega)
  have q12 : (1 = tid) = False := eq_false (by omega)
  have q13 : (n = tid) = False := eq_false (by omega)
  have q14 : (n = rid) = False := eq_false (by omega)
  have q15 : (n + 1 = tid) = False := eq_false (by omega)
  have q16 : (n + 1 = rid) = False := eq_false (by omega)
  have c35' := fun r => c35 (op := 4) (a := a) (b := b) (c := c) (nn := nn) (site := site) hn hf h1 hr hrid r
  rw [call24, hs]
  simp (config := { maxSteps := 2000000 }) only [↓x_seq, ↓x_reg, ↓x_cond, ↓x_block, execL_skip, execL_ret, thn_normal, thn_ret, regK_mk, condK_tt, condK_ff, outB_normal, inss, ins, List.map_cons, List.map_nil, Option.map_none, Option.map_some, Option.bind_some, List.getElem?_toArray, List.getElem?_cons_zero, List.getElem?_cons_succ,
      runI_nil, i_move, i_assign, i_pick, i_box, i_load, i_binOp, i_unOp, i_makeFunc, i_fieldAddr, runI_call, runI_guard, guardK_tf, guardK_ft, stepK_none, stepK_set, callK_mk,
      putE_some, frzD_some, bnd_some, yes_eq, keepE_nil, keepE_cons, cons1_some, List.contains_nil, prim_move, prim_assign, prim_box, prim_load, prim_binOp, prim_unOp, prim_fieldAddr, prim_pick, opnd_tmp, opnd_int, opnd_bool, opnd_nils, opnds_nil, opnds_cons, nilS_int, bin_eql, un_not, aget, aset, aget_aset, cond_true, cond_false, decide_true, decide_false, ↓reduceIte, eq_self,
      reduceCtorEq, Nat.reduceEqDiff, Nat.reduceLT, Nat.reduceLeDiff, Nat.reduceBEq, Nat.reduceAdd, Nat.add_assoc, Nat.one_ne_zero, fieldAddr, rd, V.cells, List.length_cons, List.length_nil, List.take_succ_cons, List.take_zero, List.drop_succ_cons, List.drop_zero, List.nil_append, List.cons_append, Nat.zero_add, Nat.add_zero, ofCells, K.agg, V.storable, Bool.true_and, Bool.not_false, beq_self_eq_true, St_get, enumE, callI_tmp, callF_fn, prim_makeFunc, finK_ret, Ilv.results, resV, all_nil, all_cons, frz24, lv24_0, lv24_1, lv24_2, lv24_3, lv24_4, lv24_5, lv24_6, lv24_9, lv24_11, lv24_15, lv24_20, lv24_21, lv24_22, lv24_25, lv24_26, ty3, ty60, ty68, Int.reduceEq, hrr, keep24, iC, B1, B2, fn35, pure35, callV_f, c35', hb]
theorem x1 {l : List (Nat × Ilv.Obj)} {n rid tid : Nat} {pc ev a b c nn site : Int} {regs : List Int} {taint : List (List Int)} (hn : 2 ≤ n) (hf : Fresh n l) (hrid : rid < n) (htid : tid < n) (d1 : rid ≠ 1) (d2 : tid ≠ 1) (d3 : rid ≠ tid) (h1 : aget l 1 = some (Sbox pc (.ref rid 0 1 0 regs.length) (.ref tid 0 1 0 taint.length) ev)) (hR : aget l rid = some (RObj regs)) (hT : aget l tid = some (TObj taint))  {xa : Int} {ta : List Int} (ha : inR regs a = true) (ga : (regs.map intRow)[a.toNat]? = some [.int .i64 xa]) (gta : (taint.map tRow)[a.toNat]? = some [V.lit (ta.map iV)]) (ha0 : 0 ≤ a) (ha1 : a < (regs.length : Int)) (hat : a < (taint.length : Int)) (hbig : (([] : List Int)).length ≤ 100000000) :
    callL cfg 24 [.ptr 1 0 0 0, .agg (iC 1 a b c nn site)] ⟨n, l⟩ = some (.bool true, St.killVars ⟨n + 2, aset (aset (aset (aset (aset l n B1) (n + 1) (B2 1 a b c nn site)) rid (RObj (regs.set a.toNat nn))) tid (TObj (taint.set a.toNat (([] : List Int))))) 1 (Sbox (IntKind.i64.wrap (pc + 1)) (.ref rid 0 1 0 regs.length) (.ref tid 0 1 0 taint.length) ev)⟩ n) := by
  have hr : Regs l rid (.ref rid 0 1 0 regs.length) regs := .inl ⟨rfl, hR⟩
  simp only [RObj] at hR
  simp only [TObj] at hT
  have ht34 := fun s => told34 IsT.nils (by simp) s
  simp only [lits, List.map_nil] at ht34

  have hs : code24 = Code.seq _ _ := rfl
  have hrr : fi24.fn.results.toList = [_] := rfl
  have q1 : (1 = n) = False := eq_false (by omega)
  have q2 : (1 = n + 1) = False := eq_false (by omega)
  have q3 : (rid = n) = False := eq_false (by omega)
  have q4 : (rid = n + 1) = False := eq_false (by omega)
  have q5 : (tid = n) = False := eq_false (by omega)
  have q6 : (tid = n + 1) = False := eq_false (by omega)
  have q7 : (rid = 1) = False := eq_false (by omega)
  have q8 : (tid = 1) = False := eq_false (by omega)
  have q9 : (tid = rid) = False := eq_false (by omega)
  have q10 : (rid = tid) = False := eq_false (by omega)
  have q11 : (1 = rid) = False := eq_false (by omega)
  have q12 : (1 = tid) = False := eq_false (by omega)
  have q13 : (n = tid) = False := eq_false (by omega)
  have q14 : (n = rid) = False := eq_false (by omega)
  have q15 : (n + 1 = tid) = False := eq_false (by omega)
  have q16 : (n + 1 = rid) = False := eq_false (by omega)
  have c35' := fun r => c35 (op := 1) (a := a) (b := b) (c := c) (nn := nn) (site := site) hn hf h1 hr hrid r
  have e1 : ∀ v : Int, (regs.map intRow).set a.toNat [.int .i64 v] = (regs.set a.toNat v).map intRow := fun v => by rw [List.map_set]; rfl
  have e2 : ∀ t : List Int, (taint.map tRow).set a.toNat [V.lit (t.map iV)] = (taint.set a.toNat t).map tRow := fun t => by rw [List.map_set]; rfl
  have e3 : (taint.map tRow).set a.toNat [V.lit []] = (taint.set a.toNat []).map tRow := e2 []
  have b1 : (n + 1 == rid) = false := beq_eq_false_iff_ne.2 (by omega)
  have b2 : (rid == n + 1) = false := beq_eq_false_iff_ne.2 (by omega)
  rw [call24, hs]
  simp (config := { maxSteps := 2000000 }) only [↓x_seq, ↓x_reg, ↓x_drawK, bumps, makes, goCall, writes, List.any_cons, List.any_nil, List.size_toArray, ↓x_cond, ↓x_block, execL_skip, execL_ret, thn_normal, regK_mk, condK_tt, condK_ff, outB_normal, inss, ins, List.map_cons, List.map_nil, Option.map_none, Option.map_some, Option.bind_some, List.getElem?_toArray, List.getElem?_cons_zero, List.getElem?_cons_succ,
      runI_nil, i_move, i_assign, i_pick, i_box, i_load, i_store, i_nilCheck, i_binOp, i_unOp, i_makeFunc, i_fieldAddr, runI_call, runI_guard, guardK_ff, stepK_none, stepK_set, callK_mk,
      putE_some, putE_none, frzD_some, frzD_none, bnd_some, yes_eq, keepE_nil, keepE_cons, cons1_some, List.contains_cons, List.contains_nil, Bool.or_false, prim_move, prim_assign, prim_box, prim_load, prim_store, prim_nilCheck, prim_binOp, prim_unOp, prim_fieldAddr, prim_indexAddr, prim_pick, true_and, and_true,
      opnd_tmp, opnd_int, opnd_bool, opnd_nils, opnds_nil, opnds_cons, nilS_int, bin_eql, bin_add, un_not, aget, aset, aget_aset, cond_true, cond_false, decide_true, decide_false, ↓reduceIte, eq_self,
      reduceCtorEq, Nat.reduceEqDiff, Nat.reduceLT, Nat.reduceLeDiff, Nat.reduceBEq, Nat.reduceAdd, Nat.left_eq_add, Nat.add_assoc, Nat.one_ne_zero, indexAddr, fieldAddr, rd, V.cells, List.length_cons, List.length_nil, List.take_succ_cons, List.take_zero, List.drop_succ_cons, List.drop_zero, List.drop_nil, List.take_nil, List.set_cons_zero, List.nil_append, List.cons_append, List.append_nil, Nat.zero_add, Nat.add_zero, Nat.le_refl, ofCells, K.agg, put1, splice, V.storable, Bool.true_and, Bool.and_true, Bool.and_false, Bool.not_true, Bool.not_false, beq_self_eq_true, St_get, List.all_cons, List.all_nil, V.flat, enumE, callI_tmp, callF_fn, prim_makeFunc, finK_ret, Ilv.results, resV, all_nil, all_cons, Bool.or_false, frz24, lv24_0, lv24_1, lv24_2, lv24_3, lv24_4, lv24_5, lv24_6, lv24_9, lv24_10, lv24_25, lv24_27, cf24_27, lv24_28, lv24_29, ty2, ty3, ty26, ty36, ty37, ty39, ty60, ty68, Int.reduceEq, Sbox, hrr, keep24, q1, q2, q3, q4, q5, q6, q9, q11, q12, q13, q14, h1, iC, B1, B2, fn35, pure35, callV_f, c35', fn34, pure34, RObj, TObj, hR, hT, ha, ga, gta, ha0, ha1, hat, e1, e3, b2, drawK_some, drawK_some, runDF_nil, f_move, f_load, f_store, f_nilCheck, f_fieldAddr, f_indexAddr, runDF_call, callFt_func, stepF_none, stepF_set, callG_mk, footK_mk, footP_load, footP_store, footP_move, footP_nilCheck, footP_fieldAddr, footP_indexAddr, footW_none, footW_set, footR_some, idOf, footAt_eq, Option.getD_some, indep_cells, apartL_nil, apartL_cons, footP_load, ht34]
end Go.Proofs.YtdCfgT
