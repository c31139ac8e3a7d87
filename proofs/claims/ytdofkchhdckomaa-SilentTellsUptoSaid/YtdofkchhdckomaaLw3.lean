import Derived.Test.YtdofkchhdckomaaLw1
import Derived.Test.YtdofkchhdckomaaLw2
/- silent.execute, case by case. -/
set_option maxRecDepth 100000
set_option linter.unusedSimpArgs false
set_option linter.unusedVariables false
namespace Go.Proofs.YtdCfgT
open Go Go.Ilv
theorem x2g {l : List (Nat × Ilv.Obj)} {n rid tid : Nat} {pc ev a b c nn site : Int} {regs : List Int} {taint : List (List Int)} (hn : 2 ≤ n) (hf : Fresh n l) (hrid : rid < n) (htid : tid < n) (d1 : rid ≠ 1) (d2 : tid ≠ 1) (d3 : rid ≠ tid) (h1 : aget l 1 = some (Sbox pc (.ref rid 0 1 0 regs.length) (.ref tid 0 1 0 taint.length) ev)) (hR : aget l rid = some (RObj regs)) (hT : aget l tid = some (TObj taint)) {xb : Int} {tb : List Int} (hb : inR regs b = true) (gb : (regs.map intRow)[b.toNat]? = some [.int .i64 xb]) (gtb : (taint.map tRow)[b.toNat]? = some [V.lit (tb.map iV)]) (hb0 : 0 ≤ b) (hb1 : b < (regs.length : Int)) (hbt : b < (taint.length : Int)) (ha : inR regs a = false) :
    callL cfg 24 [.ptr 1 0 0 0, .agg (iC 2 a b c nn site)] ⟨n, l⟩ = some (.bool false, St.killVars ⟨n + 2, aset (aset l n B1) (n + 1) (B2 2 a b c nn site)⟩ n) := by
  have hr : Regs l rid (.ref rid 0 1 0 regs.length) regs := .inl ⟨rfl, hR⟩
  simp only [RObj] at hR
  simp only [TObj] at hT
  have hs : code24 = Code.seq _ _ := rfl
  have hrr : fi24.fn.results.toList = [_] := rfl
  have q1 : (1 = n) = False := eq_false (by omega)
  have q2 : (1 = n + 1) = False := eq_false (by omega)
  have q3 : (rid = n) = False := eq_false (by omega)
  have q4 : (rid = n + 1) = False := eq_false (by omega)
  have q5 : (tid = n) = False := eq_false (by omega)
  have q6 : (tid = n + 1) = False := eq_false (by omega)
  have q7 : (rid = 1) = False := eq_false (by omega)
  have q8 : (tid = 1) = False := eq_false (by omega)
  have q9 : (tid = rid) = False := eq_false (by omega)
  have q10 : (rid = tid) = False := eq_false (by omega)
  have q11 : (1 = rid) = False := eq_false (by omega)
  have q12 : (1 = tid) = False := eq_false (by omega)
  have q13 : (n = tid) = False := eq_false (by omega)
  have q14 : (n = rid) = False := eq_false (by omega)
  have q15 : (n + 1 = tid) = False := eq_false (by omega)
  have q16 : (n + 1 = rid) = False := eq_false (by omega)
  have c35' := fun r => c35 (op := 2) (a := a) (b := b) (c := c) (nn := nn) (site := site) hn hf h1 hr hrid r
  rw [call24, hs]
  simp (config := { maxSteps := 2000000 }) only [↓x_seq, ↓x_reg, ↓x_drawK, drawK_f, bumps, makes, goCall, writes, List.any_cons, List.any_nil, ↓x_cond, ↓x_block, execL_ret, thn_normal, thn_ret, regK_mk, condK_tt, condK_ff, outB_normal, inss, ins, List.map_cons, List.map_nil, Option.map_none, Option.map_some, Option.bind_some, List.getElem?_toArray, List.getElem?_cons_zero, List.getElem?_cons_succ,
      runI_nil, i_move, i_assign, i_pick, i_box, i_load, i_binOp, i_unOp, i_makeFunc, i_fieldAddr, runI_call, runI_guard, guardK_ff, stepK_none, stepK_set, callK_mk,
      runDI_nil, d_assign, d_load, d_nilCheck, d_fieldAddr, d_indexAddr, stepD_none, putE_some, frzD_some, bnd_some, yes_eq, keepE_nil, keepE_cons, cons1_some, List.contains_nil, Bool.or_false, prim_move, prim_assign, prim_box, prim_load, prim_nilCheck, prim_binOp, prim_unOp, prim_fieldAddr, prim_indexAddr, prim_pick, true_and, and_true,
      opnd_tmp, opnd_int, opnd_bool, opnd_nils, opnds_nil, opnds_cons, nilS_int, bin_eql, un_not, aget, aset, aget_aset, cond_true, cond_false, decide_true, decide_false, ↓reduceIte, eq_self,
      reduceCtorEq, Nat.reduceEqDiff, Nat.reduceLT, Nat.reduceLeDiff, Nat.reduceBEq, Nat.reduceAdd, Nat.left_eq_add, Nat.add_assoc, Nat.one_ne_zero, indexAddr, fieldAddr, rd, V.cells, List.length_cons, List.length_nil, List.take_succ_cons, List.take_zero, List.drop_succ_cons, List.drop_zero, List.take_nil, List.nil_append, List.cons_append, Nat.zero_add, Nat.add_zero, Nat.le_refl, ofCells, K.agg, V.storable, Bool.true_and, Bool.and_false, Bool.not_true, Bool.not_false, beq_self_eq_true, St_get, enumE, callI_tmp, callF_fn, prim_makeFunc, finK_ret, Ilv.results, resV, all_nil, all_cons, Bool.or_false, frz24, lv24_0, lv24_1, lv24_2, lv24_3, lv24_4, lv24_5, lv24_6, lv24_9, lv24_11, lv24_12, lv24_13, lv24_14, cf24_14, lv24_25, lv24_26, ty2, ty3, ty26, ty36, ty37, ty39, ty60, ty68, Int.reduceEq, Sbox, hrr, keep24, q1, q2, q3, q4, q5, q6, h1, iC, B1, B2, fn35, pure35, callV_f, c35', hb, gb, gtb, hb0, hb1, hbt, hR, hT, ha]
theorem x2 {l : List (Nat × Ilv.Obj)} {n rid tid : Nat} {pc ev a b c nn site : Int} {regs : List Int} {taint : List (List Int)} (hn : 2 ≤ n) (hf : Fresh n l) (hrid : rid < n) (htid : tid < n) (d1 : rid ≠ 1) (d2 : tid ≠ 1) (d3 : rid ≠ tid) (h1 : aget l 1 = some (Sbox pc (.ref rid 0 1 0 regs.length) (.ref tid 0 1 0 taint.length) ev)) (hR : aget l rid = some (RObj regs)) (hT : aget l tid = some (TObj taint)) {xb : Int} {tb : List Int} (hb : inR regs b = true) (gb : (regs.map intRow)[b.toNat]? = some [.int .i64 xb]) (gtb : (taint.map tRow)[b.toNat]? = some [V.lit (tb.map iV)]) (hb0 : 0 ≤ b) (hb1 : b < (regs.length : Int)) (hbt : b < (taint.length : Int)) {xa : Int} {ta : List Int} (ha : inR regs a = true) (ga : (regs.map intRow)[a.toNat]? = some [.int .i64 xa]) (gta : (taint.map tRow)[a.toNat]? = some [V.lit (ta.map iV)]) (ha0 : 0 ≤ a) (ha1 : a < (regs.length : Int)) (hat : a < (taint.length : Int)) (hbig : (tb).length ≤ 100000000) :
    callL cfg 24 [.ptr 1 0 0 0, .agg (iC 2 a b c nn site)] ⟨n, l⟩ = some (.bool true, St.killVars ⟨n + 2, aset (aset (aset (aset (aset l n B1) (n + 1) (B2 2 a b c nn site)) rid (RObj (regs.set a.toNat xb))) tid (TObj (taint.set a.toNat (tb)))) 1 (Sbox (IntKind.i64.wrap (pc + 1)) (.ref rid 0 1 0 regs.length) (.ref tid 0 1 0 taint.length) ev)⟩ n) := by
  have hr : Regs l rid (.ref rid 0 1 0 regs.length) regs := .inl ⟨rfl, hR⟩
  simp only [RObj] at hR
  simp only [TObj] at hT
  have ht34 := fun s => told34 (IsT.lits tb) hbig s
  simp only [lits] at ht34

  have hs : code24 = Code.seq _ _ := rfl
  have hrr : fi24.fn.results.toList = [_] := rfl
  have q1 : (1 = n) = False := eq_false (by omega)
  have q2 : (1 = n + 1) = False := eq_false (by omega)
  have q3 : (rid = n) = False := eq_false (by omega)
  have q4 : (rid = n + 1) = False := eq_false (by omega)
  have q5 : (tid = n) = False := eq_false (by omega)
  have q6 : (tid = n + 1) = False := eq_false (by omega)
  have q7 : (rid = 1) = False := eq_false (by omega)
  have q8 : (tid = 1) = False := eq_false (by omega)
  have q9 : (tid = rid) = False := eq_false (by omega)
  have q10 : (rid = tid) = False := eq_false (by omega)
  have q11 : (1 = rid) = False := eq_false (by omega)
  have q12 : (1 = tid) = False := eq_false (by omega)
  have q13 : (n = tid) = False := eq_false (by omega)
  have q14 : (n = rid) = False := eq_false (by omega)
  have q15 : (n + 1 = tid) = False := eq_false (by omega)
  have q16 : (n + 1 = rid) = False := eq_false (by omega)
  have c35' := fun r => c35 (op := 2) (a := a) (b := b) (c := c) (nn := nn) (site := site) hn hf h1 hr hrid r
  have e1 : ∀ v : Int, (regs.map intRow).set a.toNat [.int .i64 v] = (regs.set a.toNat v).map intRow := fun v => by rw [List.map_set]; rfl
  have e2 : ∀ t : List Int, (taint.map tRow).set a.toNat [V.lit (t.map iV)] = (taint.set a.toNat t).map tRow := fun t => by rw [List.map_set]; rfl
  have e3 : (taint.map tRow).set a.toNat [V.lit []] = (taint.set a.toNat []).map tRow := e2 []
  have b1 : (n + 1 == rid) = false := beq_eq_false_iff_ne.2 (by omega)
  have b2 : (rid == n + 1) = false := beq_eq_false_iff_ne.2 (by omega)
  rw [call24, hs]
  simp (config := { maxSteps := 2000000 }) only [↓x_seq, ↓x_reg, ↓x_drawK, drawK_f, bumps, makes, goCall, writes, List.any_cons, List.any_nil, List.size_toArray, ↓x_cond, ↓x_block, execL_skip, execL_ret, thn_normal, regK_mk, condK_tt, condK_ff, outB_normal, inss, ins, List.map_cons, List.map_nil, Option.map_none, Option.map_some, Option.bind_some, List.getElem?_toArray, List.getElem?_cons_zero, List.getElem?_cons_succ,
      runI_nil, i_move, i_assign, i_pick, i_box, i_load, i_store, i_nilCheck, i_binOp, i_unOp, i_makeFunc, i_fieldAddr, runI_call, runI_guard, guardK_ff, stepK_none, stepK_set, callK_mk,
      runDI_nil, d_assign, d_load, d_nilCheck, d_fieldAddr, d_indexAddr, stepD_none, putE_some, putE_none, frzD_some, frzD_none, bnd_some, yes_eq, keepE_nil, keepE_cons, cons1_some, List.contains_cons, List.contains_nil, Bool.or_false, prim_move, prim_assign, prim_box, prim_load, prim_store, prim_nilCheck, prim_binOp, prim_unOp, prim_fieldAddr, prim_indexAddr, prim_pick, true_and, and_true,
      opnd_tmp, opnd_int, opnd_bool, opnd_nils, opnds_nil, opnds_cons, nilS_int, bin_eql, bin_add, un_not, aget, aset, aget_aset, cond_true, cond_false, decide_true, decide_false, ↓reduceIte, eq_self,
      reduceCtorEq, Nat.reduceEqDiff, Nat.reduceLT, Nat.reduceLeDiff, Nat.reduceBEq, Nat.reduceAdd, Nat.left_eq_add, Nat.add_assoc, Nat.one_ne_zero, indexAddr, fieldAddr, rd, V.cells, List.length_cons, List.length_nil, List.take_succ_cons, List.take_zero, List.drop_succ_cons, List.drop_zero, List.drop_nil, List.take_nil, List.set_cons_zero, List.nil_append, List.cons_append, List.append_nil, Nat.zero_add, Nat.add_zero, Nat.le_refl, ofCells, K.agg, put1, splice, V.storable, Bool.true_and, Bool.and_true, Bool.and_false, Bool.not_true, Bool.not_false, beq_self_eq_true, St_get, List.all_cons, List.all_nil, V.flat, enumE, callI_tmp, callF_fn, prim_makeFunc, finK_ret, Ilv.results, resV, all_nil, all_cons, Bool.or_false, frz24, lv24_0, lv24_1, lv24_2, lv24_3, lv24_4, lv24_5, lv24_6, lv24_9, lv24_11, lv24_12, lv24_13, lv24_14, cf24_14, lv24_25, lv24_27, cf24_27, lv24_28, lv24_29, ty2, ty3, ty26, ty36, ty37, ty39, ty60, ty68, Int.reduceEq, Sbox, hrr, keep24, q1, q2, q3, q4, q5, q6, q9, q11, q12, q13, q14, h1, iC, B1, B2, fn35, pure35, callV_f, c35', fn34, pure34, RObj, TObj, ha, ga, gta, ha0, ha1, hat, e1, e2, b2, drawK_some, drawK_some, runDF_nil, f_move, f_load, f_store, f_nilCheck, f_fieldAddr, f_indexAddr, runDF_call, callFt_func, stepF_none, stepF_set, callG_mk, footK_mk, footP_load, footP_store, footP_move, footP_nilCheck, footP_fieldAddr, footP_indexAddr, footW_none, footW_set, footR_some, idOf, footAt_eq, Option.getD_some, indep_cells, apartL_nil, apartL_cons, footP_load, hb, gb, gtb, hb0, hb1, hbt, hR, hT, ht34]
theorem x3e {l : List (Nat × Ilv.Obj)} {n rid tid : Nat} {pc ev a b c nn site : Int} {regs : List Int} {taint : List (List Int)} (hn : 2 ≤ n) (hf : Fresh n l) (hrid : rid < n) (htid : tid < n) (d1 : rid ≠ 1) (d2 : tid ≠ 1) (d3 : rid ≠ tid) (h1 : aget l 1 = some (Sbox pc (.ref rid 0 1 0 regs.length) (.ref tid 0 1 0 taint.length) ev)) (hR : aget l rid = some (RObj regs)) (hT : aget l tid = some (TObj taint)) {xb : Int} {tb : List Int} (hb : inR regs b = true) (gb : (regs.map intRow)[b.toNat]? = some [.int .i64 xb]) (gtb : (taint.map tRow)[b.toNat]? = some [V.lit (tb.map iV)]) (hb0 : 0 ≤ b) (hb1 : b < (regs.length : Int)) (hbt : b < (taint.length : Int)) (hu : (evU nn xb).2 = false) :
    callL cfg 24 [.ptr 1 0 0 0, .agg (iC 3 a b c nn site)] ⟨n, l⟩ = some (.bool false, St.killVars ⟨n + 2, aset (aset l n B1) (n + 1) (B2 3 a b c nn site)⟩ n) := by
  have hr : Regs l rid (.ref rid 0 1 0 regs.length) regs := .inl ⟨rfl, hR⟩
  simp only [RObj] at hR
  simp only [TObj] at hT
  have hs : code24 = Code.seq _ _ := rfl
  have hrr : fi24.fn.results.toList = [_] := rfl
  have q1 : (1 = n) = False := eq_false (by omega)
  have q2 : (1 = n + 1) = False := eq_false (by omega)
  have q3 : (rid = n) = False := eq_false (by omega)
  have q4 : (rid = n + 1) = False := eq_false (by omega)
  have q5 : (tid = n) = False := eq_false (by omega)
  have q6 : (tid = n + 1) = False := eq_false (by omega)
  have q7 : (rid = 1) = False := eq_false (by omega)
  have q8 : (tid = 1) = False := eq_false (by omega)
  have q9 : (tid = rid) = False := eq_false (by omega)
  have q10 : (rid = tid) = False := eq_false (by omega)
  have q11 : (1 = rid) = False := eq_false (by omega)
  have q12 : (1 = tid) = False := eq_false (by omega)
  have q13 : (n = tid) = False := eq_false (by omega)
  have q14 : (n = rid) = False := eq_false (by omega)
  have q15 : (n + 1 = tid) = False := eq_false (by omega)
  have q16 : (n + 1 = rid) = False := eq_false (by omega)
  have c35' := fun r => c35 (op := 3) (a := a) (b := b) (c := c) (nn := nn) (site := site) hn hf h1 hr hrid r
  rw [call24, hs]
  simp (config := { maxSteps := 2000000 }) only [↓x_seq, ↓x_reg, ↓x_drawK, drawK_f, bumps, makes, goCall, writes, List.any_cons, List.any_nil, ↓x_cond, ↓x_block, execL_ret, thn_normal, thn_ret, regK_mk, condK_tt, condK_ff, outB_normal, inss, ins, List.map_cons, List.map_nil, Option.map_none, Option.map_some, Option.bind_some, List.getElem?_toArray, List.getElem?_cons_zero, List.getElem?_cons_succ,
      runI_nil, i_move, i_assign, i_pick, i_box, i_load, i_binOp, i_unOp, i_makeFunc, i_fieldAddr, runI_call, runI_guard, guardK_ft, stepK_none, stepK_set, callK_mk,
      runDI_nil, d_move, d_assign, d_load, d_nilCheck, d_fieldAddr, d_indexAddr, d_extract, runDI_call, stepD_none, callD_mk,
      putE_some, frzD_some, bnd_some, yes_eq, keepE_nil, keepE_cons, cons1_some, List.contains_nil, Bool.or_false, prim_move, prim_assign, prim_box, prim_load, prim_nilCheck, prim_binOp, prim_unOp, prim_fieldAddr, prim_indexAddr, prim_extract, prim_pick, true_and, and_true,
      opnd_tmp, opnd_int, opnd_bool, opnd_nils, opnds_nil, opnds_cons, nilS_int, bin_eql, un_not, aget, aset, aget_aset, cond_true, cond_false, decide_true, decide_false, ↓reduceIte, eq_self,
      reduceCtorEq, Nat.reduceEqDiff, Nat.reduceLT, Nat.reduceLeDiff, Nat.reduceBEq, Nat.reduceAdd, Nat.left_eq_add, Nat.add_assoc, Nat.one_ne_zero, indexAddr, fieldAddr, rd, V.cells, List.length_cons, List.length_nil, List.take_succ_cons, List.take_zero, List.drop_succ_cons, List.drop_zero, List.take_nil, List.nil_append, List.cons_append, Nat.zero_add, Nat.add_zero, Nat.le_refl, ofCells, K.agg, V.storable, Bool.true_and, Bool.and_false, Bool.not_true, Bool.not_false, beq_self_eq_true, St_get, enumE, callI_func, callI_tmp, callF_fn, prim_makeFunc, finK_ret, Ilv.results, resV, all_nil, all_cons, Bool.or_false, frz24, lv24_0, lv24_1, lv24_2, lv24_3, lv24_4, lv24_5, lv24_6, lv24_9, lv24_11, lv24_15, lv24_16, lv24_17, lv24_18, cf24_18, lv24_19, cf24_19, lv24_25, lv24_26, ty2, ty3, ty26, ty36, ty37, ty39, ty60, ty68, Int.reduceEq, Sbox, hrr, keep24, q1, q2, q3, q4, q5, q6, h1, iC, B1, B2, fn35, pure35, callV_f, c35', fn36, pure36, told36, hb, gb, gtb, hb0, hb1, hbt, hR, hT, hu]
theorem x3g {l : List (Nat × Ilv.Obj)} {n rid tid : Nat} {pc ev a b c nn site : Int} {regs : List Int} {taint : List (List Int)} (hn : 2 ≤ n) (hf : Fresh n l) (hrid : rid < n) (htid : tid < n) (d1 : rid ≠ 1) (d2 : tid ≠ 1) (d3 : rid ≠ tid) (h1 : aget l 1 = some (Sbox pc (.ref rid 0 1 0 regs.length) (.ref tid 0 1 0 taint.length) ev)) (hR : aget l rid = some (RObj regs)) (hT : aget l tid = some (TObj taint)) {xb : Int} {tb : List Int} (hb : inR regs b = true) (gb : (regs.map intRow)[b.toNat]? = some [.int .i64 xb]) (gtb : (taint.map tRow)[b.toNat]? = some [V.lit (tb.map iV)]) (hb0 : 0 ≤ b) (hb1 : b < (regs.length : Int)) (hbt : b < (taint.length : Int)) (hu : (evU nn xb).2 = true) (ha : inR regs a = false) :
    callL cfg 24 [.ptr 1 0 0 0, .agg (iC 3 a b c nn site)] ⟨n, l⟩ = some (.bool false, St.killVars ⟨n + 2, aset (aset l n B1) (n + 1) (B2 3 a b c nn site)⟩ n) := by
  have hr : Regs l rid (.ref rid 0 1 0 regs.length) regs := .inl ⟨rfl, hR⟩
  simp only [RObj] at hR
  simp only [TObj] at hT
  have hs : code24 = Code.seq _ _ := rfl
  have hrr : fi24.fn.results.toList = [_] := rfl
  have q1 : (1 = n) = False := eq_false (by omega)
  have q2 : (1 = n + 1) = False := eq_false (by omega)
  have q3 : (rid = n) = False := eq_false (by omega)
  have q4 : (rid = n + 1) = False := eq_false (by omega)
  have q5 : (tid = n) = False := eq_false (by omega)
  have q6 : (tid = n + 1) = False := eq_false (by omega)
  have q7 : (rid = 1) = False := eq_false (by omega)
  have q8 : (tid = 1) = False := eq_false (by omega)
  have q9 : (tid = rid) = False := eq_false (by omega)
  have q10 : (rid = tid) = False := eq_false (by omega)
  have q11 : (1 = rid) = False := eq_false (by omega)
  have q12 : (1 = tid) = False := eq_false (by omega)
  have q13 : (n = tid) = False := eq_false (by omega)
  have q14 : (n = rid) = False := eq_false (by omega)
  have q15 : (n + 1 = tid) = False := eq_false (by omega)
  have q16 : (n + 1 = rid) = False := eq_false (by omega)
  have c35' := fun r => c35 (op := 3) (a := a) (b := b) (c := c) (nn := nn) (site := site) hn hf h1 hr hrid r
  rw [call24, hs]
  simp (config := { maxSteps := 2000000 }) only [↓x_seq, ↓x_reg, ↓x_drawK, drawK_f, bumps, makes, goCall, writes, List.any_cons, List.any_nil, ↓x_cond, ↓x_block, execL_ret, thn_normal, thn_ret, regK_mk, condK_tt, condK_ff, outB_normal, inss, ins, List.map_cons, List.map_nil, Option.map_none, Option.map_some, Option.bind_some, List.getElem?_toArray, List.getElem?_cons_zero, List.getElem?_cons_succ,
      runI_nil, i_move, i_assign, i_pick, i_box, i_load, i_binOp, i_unOp, i_makeFunc, i_fieldAddr, runI_call, runI_guard, guardK_ff, stepK_none, stepK_set, callK_mk,
      runDI_nil, d_move, d_assign, d_load, d_nilCheck, d_fieldAddr, d_indexAddr, d_extract, runDI_call, stepD_none, callD_mk,
      putE_some, frzD_some, bnd_some, yes_eq, keepE_nil, keepE_cons, cons1_some, List.contains_nil, Bool.or_false, prim_move, prim_assign, prim_box, prim_load, prim_nilCheck, prim_binOp, prim_unOp, prim_fieldAddr, prim_indexAddr, prim_extract, prim_pick, true_and, and_true,
      opnd_tmp, opnd_int, opnd_bool, opnd_nils, opnds_nil, opnds_cons, nilS_int, bin_eql, un_not, aget, aset, aget_aset, cond_true, cond_false, decide_true, decide_false, ↓reduceIte, eq_self,
      reduceCtorEq, Nat.reduceEqDiff, Nat.reduceLT, Nat.reduceLeDiff, Nat.reduceBEq, Nat.reduceAdd, Nat.left_eq_add, Nat.add_assoc, Nat.one_ne_zero, indexAddr, fieldAddr, rd, V.cells, List.length_cons, List.length_nil, List.take_succ_cons, List.take_zero, List.drop_succ_cons, List.drop_zero, List.take_nil, List.nil_append, List.cons_append, Nat.zero_add, Nat.add_zero, Nat.le_refl, ofCells, K.agg, V.storable, Bool.true_and, Bool.and_false, Bool.not_true, Bool.not_false, beq_self_eq_true, St_get, enumE, callI_func, callI_tmp, callF_fn, prim_makeFunc, finK_ret, Ilv.results, resV, all_nil, all_cons, Bool.or_false, frz24, lv24_0, lv24_1, lv24_2, lv24_3, lv24_4, lv24_5, lv24_6, lv24_9, lv24_11, lv24_15, lv24_16, lv24_17, lv24_18, cf24_18, lv24_19, cf24_19, lv24_25, lv24_26, ty2, ty3, ty26, ty36, ty37, ty39, ty60, ty68, Int.reduceEq, Sbox, hrr, keep24, q1, q2, q3, q4, q5, q6, h1, iC, B1, B2, fn35, pure35, callV_f, c35', fn36, pure36, told36, hb, gb, gtb, hb0, hb1, hbt, hR, hT, ha, hu]
theorem x3 {l : List (Nat × Ilv.Obj)} {n rid tid : Nat} {pc ev a b c nn site : Int} {regs : List Int} {taint : List (List Int)} (hn : 2 ≤ n) (hf : Fresh n l) (hrid : rid < n) (htid : tid < n) (d1 : rid ≠ 1) (d2 : tid ≠ 1) (d3 : rid ≠ tid) (h1 : aget l 1 = some (Sbox pc (.ref rid 0 1 0 regs.length) (.ref tid 0 1 0 taint.length) ev)) (hR : aget l rid = some (RObj regs)) (hT : aget l tid = some (TObj taint)) {xb : Int} {tb : List Int} (hb : inR regs b = true) (gb : (regs.map intRow)[b.toNat]? = some [.int .i64 xb]) (gtb : (taint.map tRow)[b.toNat]? = some [V.lit (tb.map iV)]) (hb0 : 0 ≤ b) (hb1 : b < (regs.length : Int)) (hbt : b < (taint.length : Int)) (hu : (evU nn xb).2 = true) {xa : Int} {ta : List Int} (ha : inR regs a = true) (ga : (regs.map intRow)[a.toNat]? = some [.int .i64 xa]) (gta : (taint.map tRow)[a.toNat]? = some [V.lit (ta.map iV)]) (ha0 : 0 ≤ a) (ha1 : a < (regs.length : Int)) (hat : a < (taint.length : Int)) (hbig : (tb).length ≤ 100000000) :
    callL cfg 24 [.ptr 1 0 0 0, .agg (iC 3 a b c nn site)] ⟨n, l⟩ = some (.bool true, St.killVars ⟨n + 2, aset (aset (aset (aset (aset l n B1) (n + 1) (B2 3 a b c nn site)) rid (RObj (regs.set a.toNat (evU nn xb).1))) tid (TObj (taint.set a.toNat (tb)))) 1 (Sbox (IntKind.i64.wrap (pc + 1)) (.ref rid 0 1 0 regs.length) (.ref tid 0 1 0 taint.length) ev)⟩ n) := by
  have hr : Regs l rid (.ref rid 0 1 0 regs.length) regs := .inl ⟨rfl, hR⟩
  simp only [RObj] at hR
  simp only [TObj] at hT
  have ht34 := fun s => told34 (IsT.lits tb) hbig s
  simp only [lits] at ht34

  have hs : code24 = Code.seq _ _ := rfl
  have hrr : fi24.fn.results.toList = [_] := rfl
  have q1 : (1 = n) = False := eq_false (by omega)
  have q2 : (1 = n + 1) = False := eq_false (by omega)
  have q3 : (rid = n) = False := eq_false (by omega)
  have q4 : (rid = n + 1) = False := eq_false (by omega)
  have q5 : (tid = n) = False := eq_false (by omega)
  have q6 : (tid = n + 1) = False := eq_false (by omega)
  have q7 : (rid = 1) = False := eq_false (by omega)
  have q8 : (tid = 1) = False := eq_false (by omega)
  have q9 : (tid = rid) = False := eq_false (by omega)
  have q10 : (rid = tid) = False := eq_false (by omega)
  have q11 : (1 = rid) = False := eq_false (by omega)
  have q12 : (1 = tid) = False := eq_false (by omega)
  have q13 : (n = tid) = False := eq_false (by omega)
  have q14 : (n = rid) = False := eq_false (by omega)
  have q15 : (n + 1 = tid) = False := eq_false (by omega)
  have q16 : (n + 1 = rid) = False := eq_false (by omega)
  have c35' := fun r => c35 (op := 3) (a := a) (b := b) (c := c) (nn := nn) (site := site) hn hf h1 hr hrid r
  have e1 : ∀ v : Int, (regs.map intRow).set a.toNat [.int .i64 v] = (regs.set a.toNat v).map intRow := fun v => by rw [List.map_set]; rfl
  have e2 : ∀ t : List Int, (taint.map tRow).set a.toNat [V.lit (t.map iV)] = (taint.set a.toNat t).map tRow := fun t => by rw [List.map_set]; rfl
  have e3 : (taint.map tRow).set a.toNat [V.lit []] = (taint.set a.toNat []).map tRow := e2 []
  have b1 : (n + 1 == rid) = false := beq_eq_false_iff_ne.2 (by omega)
  have b2 : (rid == n + 1) = false := beq_eq_false_iff_ne.2 (by omega)
  rw [call24, hs]
  simp (config := { maxSteps := 2000000 }) only [↓x_seq, ↓x_reg, ↓x_drawK, drawK_f, bumps, makes, goCall, writes, List.any_cons, List.any_nil, List.size_toArray, ↓x_cond, ↓x_block, execL_skip, execL_ret, thn_normal, regK_mk, condK_tt, condK_ff, outB_normal, inss, ins, List.map_cons, List.map_nil, Option.map_none, Option.map_some, Option.bind_some, List.getElem?_toArray, List.getElem?_cons_zero, List.getElem?_cons_succ,
      runI_nil, i_move, i_assign, i_pick, i_box, i_load, i_store, i_nilCheck, i_binOp, i_unOp, i_makeFunc, i_fieldAddr, runI_call, runI_guard, guardK_ff, stepK_none, stepK_set, callK_mk,
      runDI_nil, d_move, d_assign, d_load, d_nilCheck, d_fieldAddr, d_indexAddr, d_extract, runDI_call, stepD_none, callD_mk,
      putE_some, putE_none, frzD_some, frzD_none, bnd_some, yes_eq, keepE_nil, keepE_cons, cons1_some, List.contains_cons, List.contains_nil, Bool.or_false, prim_move, prim_assign, prim_box, prim_load, prim_store, prim_nilCheck, prim_binOp, prim_unOp, prim_fieldAddr, prim_indexAddr, prim_extract, prim_pick, true_and, and_true,
      opnd_tmp, opnd_int, opnd_bool, opnd_nils, opnds_nil, opnds_cons, nilS_int, bin_eql, bin_add, un_not, aget, aset, aget_aset, cond_true, cond_false, decide_true, decide_false, ↓reduceIte, eq_self,
      reduceCtorEq, Nat.reduceEqDiff, Nat.reduceLT, Nat.reduceLeDiff, Nat.reduceBEq, Nat.reduceAdd, Nat.left_eq_add, Nat.add_assoc, Nat.one_ne_zero, indexAddr, fieldAddr, rd, V.cells, List.length_cons, List.length_nil, List.take_succ_cons, List.take_zero, List.drop_succ_cons, List.drop_zero, List.drop_nil, List.take_nil, List.set_cons_zero, List.nil_append, List.cons_append, List.append_nil, Nat.zero_add, Nat.add_zero, Nat.le_refl, ofCells, K.agg, put1, splice, V.storable, Bool.true_and, Bool.and_true, Bool.and_false, Bool.not_true, Bool.not_false, beq_self_eq_true, St_get, List.all_cons, List.all_nil, V.flat, enumE, callI_func, callI_tmp, callF_fn, prim_makeFunc, finK_ret, Ilv.results, resV, all_nil, all_cons, Bool.or_false, frz24, lv24_0, lv24_1, lv24_2, lv24_3, lv24_4, lv24_5, lv24_6, lv24_9, lv24_11, lv24_15, lv24_16, lv24_17, lv24_18, cf24_18, lv24_19, cf24_19, lv24_25, lv24_27, cf24_27, lv24_28, lv24_29, ty2, ty3, ty26, ty36, ty37, ty39, ty60, ty68, Int.reduceEq, Sbox, hrr, keep24, q1, q2, q3, q4, q5, q6, q9, q11, q12, q13, q14, h1, iC, B1, B2, fn35, pure35, callV_f, c35', fn36, pure36, told36, fn34, pure34, RObj, TObj, ha, ga, gta, ha0, ha1, hat, e1, e2, b2, drawK_some, drawK_some, runDF_nil, f_move, f_load, f_store, f_nilCheck, f_fieldAddr, f_indexAddr, runDF_call, callFt_func, stepF_none, stepF_set, callG_mk, footK_mk, footP_load, footP_store, footP_move, footP_nilCheck, footP_fieldAddr, footP_indexAddr, footW_none, footW_set, footR_some, idOf, footAt_eq, Option.getD_some, indep_cells, apartL_nil, apartL_cons, footP_load, hb, gb, gtb, hb0, hb1, hbt, hR, hT, ht34, hu]
end Go.Proofs.YtdCfgT

/- silent.execute, case by case. -/
set_option maxRecDepth 100000
set_option linter.unusedSimpArgs false
set_option linter.unusedVariables false
namespace Go.Proofs.YtdCfgT
open Go Go.Ilv
theorem x4h {l : List (Nat × Ilv.Obj)} {n rid tid : Nat} {pc ev a b c nn site : Int} {regs : List Int} {taint : List (List Int)} (hn : 2 ≤ n) (hf : Fresh n l) (hrid : rid < n) (htid : tid < n) (d1 : rid ≠ 1) (d2 : tid ≠ 1) (d3 : rid ≠ tid) (h1 : aget l 1 = some (Sbox pc (.ref rid 0 1 0 regs.length) (.ref tid 0 1 0 taint.length) ev)) (hR : aget l rid = some (RObj regs)) (hT : aget l tid = some (TObj taint)) {xb : Int} {tb : List Int} (hb : inR regs b = true) (gb : (regs.map intRow)[b.toNat]? = some [.int .i64 xb]) (gtb : (taint.map tRow)[b.toNat]? = some [V.lit (tb.map iV)]) (hb0 : 0 ≤ b) (hb1 : b < (regs.length : Int)) (hbt : b < (taint.length : Int)) (hc : inR regs c = false) :
    callL cfg 24 [.ptr 1 0 0 0, .agg (iC 4 a b c nn site)] ⟨n, l⟩ = some (.bool false, St.killVars ⟨n + 2, aset (aset l n B1) (n + 1) (B2 4 a b c nn site)⟩ n) := by
  have hr : Regs l rid (.ref rid 0 1 0 regs.length) regs := .inl ⟨rfl, hR⟩
  simp only [RObj] at hR
  simp only [TObj] at hT
  have hs : code24 = Code.seq _ _ := rfl
  have hrr : fi24.fn.results.toList = [_] := rfl
  have q1 : (1 = n) = False := eq_false (by omega)
  have q2 : (1 = n + 1) = False := eq_false (by omega)
  have q3 : (rid = n) = False := eq_false (by omega)
  have q4 : (rid = n + 1) = False := eq_false (by omega)
  have q5 : (tid = n) = False := eq_false (by omega)
  have q6 : (tid = n + 1) = False := eq_false (by omega)
  have q7 : (rid = 1) = False := eq_false (by omega)
  have q8 : (tid = 1) = False := eq_false (by omega)
  have q9 : (tid = rid) = False := eq_false (by omega)
  have q10 : (rid = tid) = False := eq_false (by omega)
  have q11 : (1 = rid) = False := eq_false (by omega)
  have q12 : (1 = tid) = False := eq_false (by omega)
  have q13 : (n = tid) = False := eq_false (by omega)
  have q14 : (n = rid) = False := eq_false (by omega)
  have q15 : (n + 1 = tid) = False := eq_false (by omega)
  have q16 : (n + 1 = rid) = False := eq_false (by omega)
  have c35' := fun r => c35 (op := 4) (a := a) (b := b) (c := c) (nn := nn) (site := site) hn hf h1 hr hrid r
  rw [call24, hs]
  simp (config := { maxSteps := 2000000 }) only [↓x_seq, ↓x_reg, ↓x_cond, ↓x_block, execL_skip, execL_ret, thn_normal, thn_ret, regK_mk, condK_tt, condK_ff, outB_normal, inss, ins, List.map_cons, List.map_nil, Option.map_none, Option.map_some, Option.bind_some, List.getElem?_toArray, List.getElem?_cons_zero, List.getElem?_cons_succ,
      runI_nil, i_move, i_assign, i_pick, i_box, i_load, i_binOp, i_unOp, i_makeFunc, i_fieldAddr, runI_call, runI_guard, guardK_tt, guardK_ft, stepK_none, stepK_set, callK_mk,
      putE_some, frzD_some, bnd_some, yes_eq, keepE_nil, keepE_cons, cons1_some, List.contains_nil, prim_move, prim_assign, prim_box, prim_load, prim_binOp, prim_unOp, prim_fieldAddr, prim_pick, opnd_tmp, opnd_int, opnd_bool, opnd_nils, opnds_nil, opnds_cons, nilS_int, bin_eql, un_not, aget, aset, aget_aset, cond_true, cond_false, decide_true, decide_false, ↓reduceIte, eq_self,
      reduceCtorEq, Nat.reduceEqDiff, Nat.reduceLT, Nat.reduceLeDiff, Nat.reduceBEq, Nat.reduceAdd, Nat.add_assoc, Nat.one_ne_zero, fieldAddr, rd, V.cells, List.length_cons, List.length_nil, List.take_succ_cons, List.take_zero, List.drop_succ_cons, List.drop_zero, List.nil_append, List.cons_append, Nat.zero_add, Nat.add_zero, ofCells, K.agg, V.storable, Bool.true_and, Bool.not_false, beq_self_eq_true, St_get, enumE, callI_tmp, callF_fn, prim_makeFunc, finK_ret, Ilv.results, resV, all_nil, all_cons, frz24, lv24_0, lv24_1, lv24_2, lv24_3, lv24_4, lv24_5, lv24_6, lv24_9, lv24_11, lv24_15, lv24_20, lv24_21, lv24_22, lv24_25, lv24_26, ty3, ty60, ty68, Int.reduceEq, hrr, keep24, iC, B1, B2, fn35, pure35, callV_f, c35', hb, hc]

theorem x4e {l : List (Nat × Ilv.Obj)} {n rid tid : Nat} {pc ev a b c nn site : Int} {regs : List Int} {taint : List (List Int)} (hn : 2 ≤ n) (hf : Fresh n l) (hrid : rid < n) (htid : tid < n) (d1 : rid ≠ 1) (d2 : tid ≠ 1) (d3 : rid ≠ tid) (h1 : aget l 1 = some (Sbox pc (.ref rid 0 1 0 regs.length) (.ref tid 0 1 0 taint.length) ev)) (hR : aget l rid = some (RObj regs)) (hT : aget l tid = some (TObj taint)) {xb : Int} {tb : List Int} (hb : inR regs b = true) (gb : (regs.map intRow)[b.toNat]? = some [.int .i64 xb]) (gtb : (taint.map tRow)[b.toNat]? = some [V.lit (tb.map iV)]) (hb0 : 0 ≤ b) (hb1 : b < (regs.length : Int)) (hbt : b < (taint.length : Int)) {xc : Int} {tc : List Int} (hc : inR regs c = true) (gc : (regs.map intRow)[c.toNat]? = some [.int .i64 xc]) (gtc : (taint.map tRow)[c.toNat]? = some [V.lit (tc.map iV)]) (hc0 : 0 ≤ c) (hc1 : c < (regs.length : Int)) (hct : c < (taint.length : Int)) (hcat : tb.length + tc.length ≤ 100000000) (hu : (evB nn xb xc).2 = false) :
    callL cfg 24 [.ptr 1 0 0 0, .agg (iC 4 a b c nn site)] ⟨n, l⟩ = some (.bool false, St.killVars ⟨n + 2, aset (aset l n B1) (n + 1) (B2 4 a b c nn site)⟩ n) := by
  have hr : Regs l rid (.ref rid 0 1 0 regs.length) regs := .inl ⟨rfl, hR⟩
  simp only [RObj] at hR
  simp only [TObj] at hT
  have ht11 := fun s => told11 tb tc hcat s
  simp only [lits] at ht11
  have hs : code24 = Code.seq _ _ := rfl
  have hrr : fi24.fn.results.toList = [_] := rfl
  have q1 : (1 = n) = False := eq_false (by omega)
  have q2 : (1 = n + 1) = False := eq_false (by omega)
  have q3 : (rid = n) = False := eq_false (by omega)
  have q4 : (rid = n + 1) = False := eq_false (by omega)
  have q5 : (tid = n) = False := eq_false (by omega)
  have q6 : (tid = n + 1) = False := eq_false (by omega)
  have q7 : (rid = 1) = False := eq_false (by omega)
  have q8 : (tid = 1) = False := eq_false (by omega)
  have q9 : (tid = rid) = False := eq_false (by omega)
  have q10 : (rid = tid) = False := eq_false (by omega)
  have q11 : (1 = rid) = False := eq_false (by omega)
  have q12 : (1 = tid) = False := eq_false (by omega)
  have q13 : (n = tid) = False := eq_false (by omega)
  have q14 : (n = rid) = False := eq_false (by omega)
  have q15 : (n + 1 = tid) = False := eq_false (by omega)
  have q16 : (n + 1 = rid) = False := eq_false (by omega)
  have c35' := fun r => c35 (op := 4) (a := a) (b := b) (c := c) (nn := nn) (site := site) hn hf h1 hr hrid r
  rw [call24, hs]
  simp (config := { maxSteps := 2000000 }) only [↓x_seq, ↓x_reg, ↓x_drawK, drawK_f, bumps, makes, goCall, writes, List.any_cons, List.any_nil, ↓x_cond, ↓x_block, execL_ret, thn_normal, thn_ret, regK_mk, condK_tt, condK_ff, outB_normal, inss, ins, List.map_cons, List.map_nil, Option.map_none, Option.map_some, Option.bind_some, List.getElem?_toArray, List.getElem?_cons_zero, List.getElem?_cons_succ,
      runI_nil, i_move, i_assign, i_pick, i_box, i_load, i_binOp, i_unOp, i_makeFunc, i_fieldAddr, runI_call, runI_guard, guardK_tt, guardK_ft, stepK_none, stepK_set, callK_mk,
      runDI_nil, d_move, d_assign, d_load, d_nilCheck, d_fieldAddr, d_indexAddr, d_extract, runDI_call, stepD_none, callD_mk,
      putE_some, frzD_some, bnd_some, yes_eq, keepE_nil, keepE_cons, cons1_some, List.contains_nil, Bool.or_false, prim_move, prim_assign, prim_box, prim_load, prim_nilCheck, prim_binOp, prim_unOp, prim_fieldAddr, prim_indexAddr, prim_extract, prim_pick, true_and, and_true,
      opnd_tmp, opnd_int, opnd_bool, opnd_nils, opnds_nil, opnds_cons, nilS_int, bin_eql, un_not, aget, aset, aget_aset, cond_true, cond_false, decide_true, decide_false, ↓reduceIte, eq_self,
      reduceCtorEq, Nat.reduceEqDiff, Nat.reduceLT, Nat.reduceLeDiff, Nat.reduceBEq, Nat.reduceAdd, Nat.left_eq_add, Nat.add_assoc, Nat.one_ne_zero, indexAddr, fieldAddr, rd, V.cells, List.length_cons, List.length_nil, List.take_succ_cons, List.take_zero, List.drop_succ_cons, List.drop_zero, List.take_nil, List.nil_append, List.cons_append, Nat.zero_add, Nat.add_zero, Nat.le_refl, ofCells, K.agg, V.storable, Bool.true_and, Bool.and_false, Bool.not_true, Bool.not_false, beq_self_eq_true, St_get, enumE, callI_func, callI_tmp, callF_fn, prim_makeFunc, finK_ret, Ilv.results, resV, all_nil, all_cons, Bool.or_false, frz24, lv24_0, lv24_1, lv24_2, lv24_3, lv24_4, lv24_5, lv24_6, lv24_9, lv24_11, lv24_15, lv24_20, lv24_21, lv24_22, lv24_23, cf24_23, lv24_24, cf24_24, lv24_25, lv24_26, ty2, ty3, ty26, ty36, ty37, ty39, ty60, ty68, Int.reduceEq, Sbox, hrr, keep24, q1, q2, q3, q4, q5, q6, h1, iC, B1, B2, fn35, pure35, callV_f, c35', fn37, pure37, told37, fn11, pure11, hb, gb, gtb, hb0, hb1, hbt, hR, hT, hc, gc, gtc, hc0, hc1, hct, hu, ht11]
theorem x4g {l : List (Nat × Ilv.Obj)} {n rid tid : Nat} {pc ev a b c nn site : Int} {regs : List Int} {taint : List (List Int)} (hn : 2 ≤ n) (hf : Fresh n l) (hrid : rid < n) (htid : tid < n) (d1 : rid ≠ 1) (d2 : tid ≠ 1) (d3 : rid ≠ tid) (h1 : aget l 1 = some (Sbox pc (.ref rid 0 1 0 regs.length) (.ref tid 0 1 0 taint.length) ev)) (hR : aget l rid = some (RObj regs)) (hT : aget l tid = some (TObj taint)) {xb : Int} {tb : List Int} (hb : inR regs b = true) (gb : (regs.map intRow)[b.toNat]? = some [.int .i64 xb]) (gtb : (taint.map tRow)[b.toNat]? = some [V.lit (tb.map iV)]) (hb0 : 0 ≤ b) (hb1 : b < (regs.length : Int)) (hbt : b < (taint.length : Int)) {xc : Int} {tc : List Int} (hc : inR regs c = true) (gc : (regs.map intRow)[c.toNat]? = some [.int .i64 xc]) (gtc : (taint.map tRow)[c.toNat]? = some [V.lit (tc.map iV)]) (hc0 : 0 ≤ c) (hc1 : c < (regs.length : Int)) (hct : c < (taint.length : Int)) (hcat : tb.length + tc.length ≤ 100000000) (hu : (evB nn xb xc).2 = true) (ha : inR regs a = false) :
    callL cfg 24 [.ptr 1 0 0 0, .agg (iC 4 a b c nn site)] ⟨n, l⟩ = some (.bool false, St.killVars ⟨n + 2, aset (aset l n B1) (n + 1) (B2 4 a b c nn site)⟩ n) := by
  have hr : Regs l rid (.ref rid 0 1 0 regs.length) regs := .inl ⟨rfl, hR⟩
  simp only [RObj] at hR
  simp only [TObj] at hT
  have ht11 := fun s => told11 tb tc hcat s
  simp only [lits] at ht11
  have hs : code24 = Code.seq _ _ := rfl
  have hrr : fi24.fn.results.toList = [_] := rfl
  have q1 : (1 = n) = False := eq_false (by omega)
  have q2 : (1 = n + 1) = False := eq_false (by omega)
  have q3 : (rid = n) = False := eq_false (by omega)
  have q4 : (rid = n + 1) = False := eq_false (by omega)
  have q5 : (tid = n) = False := eq_false (by omega)
  have q6 : (tid = n + 1) = False := eq_false (by omega)
  have q7 : (rid = 1) = False := eq_false (by omega)
  have q8 : (tid = 1) = False := eq_false (by omega)
  have q9 : (tid = rid) = False := eq_false (by omega)
  have q10 : (rid = tid) = False := eq_false (by omega)
  have q11 : (1 = rid) = False := eq_false (by omega)
  have q12 : (1 = tid) = False := eq_false (by omega)
  have q13 : (n = tid) = False := eq_false (by omega)
  have q14 : (n = rid) = False := eq_false (by omega)
  have q15 : (n + 1 = tid) = False := eq_false (by omega)
  have q16 : (n + 1 = rid) = False := eq_false (by omega)
  have c35' := fun r => c35 (op := 4) (a := a) (b := b) (c := c) (nn := nn) (site := site) hn hf h1 hr hrid r
  rw [call24, hs]
  simp (config := { maxSteps := 2000000 }) only [↓x_seq, ↓x_reg, ↓x_drawK, drawK_f, bumps, makes, goCall, writes, List.any_cons, List.any_nil, ↓x_cond, ↓x_block, execL_ret, thn_normal, thn_ret, regK_mk, condK_tt, condK_ff, outB_normal, inss, ins, List.map_cons, List.map_nil, Option.map_none, Option.map_some, Option.bind_some, List.getElem?_toArray, List.getElem?_cons_zero, List.getElem?_cons_succ,
      runI_nil, i_move, i_assign, i_pick, i_box, i_load, i_binOp, i_unOp, i_makeFunc, i_fieldAddr, runI_call, runI_guard, guardK_tt, guardK_ff, stepK_none, stepK_set, callK_mk,
      runDI_nil, d_move, d_assign, d_load, d_nilCheck, d_fieldAddr, d_indexAddr, d_extract, runDI_call, stepD_none, callD_mk,
      putE_some, frzD_some, bnd_some, yes_eq, keepE_nil, keepE_cons, cons1_some, List.contains_nil, Bool.or_false, prim_move, prim_assign, prim_box, prim_load, prim_nilCheck, prim_binOp, prim_unOp, prim_fieldAddr, prim_indexAddr, prim_extract, prim_pick, true_and, and_true,
      opnd_tmp, opnd_int, opnd_bool, opnd_nils, opnds_nil, opnds_cons, nilS_int, bin_eql, un_not, aget, aset, aget_aset, cond_true, cond_false, decide_true, decide_false, ↓reduceIte, eq_self,
      reduceCtorEq, Nat.reduceEqDiff, Nat.reduceLT, Nat.reduceLeDiff, Nat.reduceBEq, Nat.reduceAdd, Nat.left_eq_add, Nat.add_assoc, Nat.one_ne_zero, indexAddr, fieldAddr, rd, V.cells, List.length_cons, List.length_nil, List.take_succ_cons, List.take_zero, List.drop_succ_cons, List.drop_zero, List.take_nil, List.nil_append, List.cons_append, Nat.zero_add, Nat.add_zero, Nat.le_refl, ofCells, K.agg, V.storable, Bool.true_and, Bool.and_false, Bool.not_true, Bool.not_false, beq_self_eq_true, St_get, enumE, callI_func, callI_tmp, callF_fn, prim_makeFunc, finK_ret, Ilv.results, resV, all_nil, all_cons, Bool.or_false, frz24, lv24_0, lv24_1, lv24_2, lv24_3, lv24_4, lv24_5, lv24_6, lv24_9, lv24_11, lv24_15, lv24_20, lv24_21, lv24_22, lv24_23, cf24_23, lv24_24, cf24_24, lv24_25, lv24_26, ty2, ty3, ty26, ty36, ty37, ty39, ty60, ty68, Int.reduceEq, Sbox, hrr, keep24, q1, q2, q3, q4, q5, q6, h1, iC, B1, B2, fn35, pure35, callV_f, c35', fn37, pure37, told37, fn11, pure11, hb, gb, gtb, hb0, hb1, hbt, hR, hT, hc, gc, gtc, hc0, hc1, hct, ha, hu, ht11]
theorem x4 {l : List (Nat × Ilv.Obj)} {n rid tid : Nat} {pc ev a b c nn site : Int} {regs : List Int} {taint : List (List Int)} (hn : 2 ≤ n) (hf : Fresh n l) (hrid : rid < n) (htid : tid < n) (d1 : rid ≠ 1) (d2 : tid ≠ 1) (d3 : rid ≠ tid) (h1 : aget l 1 = some (Sbox pc (.ref rid 0 1 0 regs.length) (.ref tid 0 1 0 taint.length) ev)) (hR : aget l rid = some (RObj regs)) (hT : aget l tid = some (TObj taint)) {xb : Int} {tb : List Int} (hb : inR regs b = true) (gb : (regs.map intRow)[b.toNat]? = some [.int .i64 xb]) (gtb : (taint.map tRow)[b.toNat]? = some [V.lit (tb.map iV)]) (hb0 : 0 ≤ b) (hb1 : b < (regs.length : Int)) (hbt : b < (taint.length : Int)) {xc : Int} {tc : List Int} (hc : inR regs c = true) (gc : (regs.map intRow)[c.toNat]? = some [.int .i64 xc]) (gtc : (taint.map tRow)[c.toNat]? = some [V.lit (tc.map iV)]) (hc0 : 0 ≤ c) (hc1 : c < (regs.length : Int)) (hct : c < (taint.length : Int)) (hcat : tb.length + tc.length ≤ 100000000) (hu : (evB nn xb xc).2 = true) {xa : Int} {ta : List Int} (ha : inR regs a = true) (ga : (regs.map intRow)[a.toNat]? = some [.int .i64 xa]) (gta : (taint.map tRow)[a.toNat]? = some [V.lit (ta.map iV)]) (ha0 : 0 ≤ a) (ha1 : a < (regs.length : Int)) (hat : a < (taint.length : Int)) (hbig : (uni tb tc).length ≤ 100000000) :
    callL cfg 24 [.ptr 1 0 0 0, .agg (iC 4 a b c nn site)] ⟨n, l⟩ = some (.bool true, St.killVars ⟨n + 2, aset (aset (aset (aset (aset l n B1) (n + 1) (B2 4 a b c nn site)) rid (RObj (regs.set a.toNat (evB nn xb xc).1))) tid (TObj (taint.set a.toNat (uni tb tc)))) 1 (Sbox (IntKind.i64.wrap (pc + 1)) (.ref rid 0 1 0 regs.length) (.ref tid 0 1 0 taint.length) ev)⟩ n) := by
  have hr : Regs l rid (.ref rid 0 1 0 regs.length) regs := .inl ⟨rfl, hR⟩
  simp only [RObj] at hR
  simp only [TObj] at hT
  have ht11 := fun s => told11 tb tc hcat s
  simp only [lits] at ht11
  have ht34 := fun s => told34 (IsT.lits (uni tb tc)) hbig s
  simp only [lits] at ht34

  have hs : code24 = Code.seq _ _ := rfl
  have hrr : fi24.fn.results.toList = [_] := rfl
  have q1 : (1 = n) = False := eq_false (by omega)
  have q2 : (1 = n + 1) = False := eq_false (by omega)
  have q3 : (rid = n) = False := eq_false (by omega)
  have q4 : (rid = n + 1) = False := eq_false (by omega)
  have q5 : (tid = n) = False := eq_false (by omega)
  have q6 : (tid = n + 1) = False := eq_false (by omega)
  have q7 : (rid = 1) = False := eq_false (by omega)
  have q8 : (tid = 1) = False := eq_false (by omega)
  have q9 : (tid = rid) = False := eq_false (by omega)
  have q10 : (rid = tid) = False := eq_false (by omega)
  have q11 : (1 = rid) = False := eq_false (by omega)
  have q12 : (1 = tid) = False := eq_false (by omega)
  have q13 : (n = tid) = False := eq_false (by omega)
  have q14 : (n = rid) = False := eq_false (by omega)
  have q15 : (n + 1 = tid) = False := eq_false (by omega)
  have q16 : (n + 1 = rid) = False := eq_false (by omega)
  have c35' := fun r => c35 (op := 4) (a := a) (b := b) (c := c) (nn := nn) (site := site) hn hf h1 hr hrid r
  have e1 : ∀ v : Int, (regs.map intRow).set a.toNat [.int .i64 v] = (regs.set a.toNat v).map intRow := fun v => by rw [List.map_set]; rfl
  have e2 : ∀ t : List Int, (taint.map tRow).set a.toNat [V.lit (t.map iV)] = (taint.set a.toNat t).map tRow := fun t => by rw [List.map_set]; rfl
  have e3 : (taint.map tRow).set a.toNat [V.lit []] = (taint.set a.toNat []).map tRow := e2 []
  have b1 : (n + 1 == rid) = false := beq_eq_false_iff_ne.2 (by omega)
  have b2 : (rid == n + 1) = false := beq_eq_false_iff_ne.2 (by omega)
  rw [call24, hs]
  simp (config := { maxSteps := 2000000 }) only [↓x_seq, ↓x_reg, ↓x_drawK, drawK_f, bumps, makes, goCall, writes, List.any_cons, List.any_nil, List.size_toArray, ↓x_cond, ↓x_block, execL_skip, execL_ret, thn_normal, regK_mk, condK_tt, condK_ff, outB_normal, inss, ins, List.map_cons, List.map_nil, Option.map_none, Option.map_some, Option.bind_some, List.getElem?_toArray, List.getElem?_cons_zero, List.getElem?_cons_succ,
      runI_nil, i_move, i_assign, i_pick, i_box, i_load, i_store, i_nilCheck, i_binOp, i_unOp, i_makeFunc, i_fieldAddr, runI_call, runI_guard, guardK_tt, guardK_ff, stepK_none, stepK_set, callK_mk,
      runDI_nil, d_move, d_assign, d_load, d_nilCheck, d_fieldAddr, d_indexAddr, d_extract, runDI_call, stepD_none, callD_mk,
      putE_some, putE_none, frzD_some, frzD_none, bnd_some, yes_eq, keepE_nil, keepE_cons, cons1_some, List.contains_cons, List.contains_nil, Bool.or_false, prim_move, prim_assign, prim_box, prim_load, prim_store, prim_nilCheck, prim_binOp, prim_unOp, prim_fieldAddr, prim_indexAddr, prim_extract, prim_pick, true_and, and_true,
      opnd_tmp, opnd_int, opnd_bool, opnd_nils, opnds_nil, opnds_cons, nilS_int, bin_eql, bin_add, un_not, aget, aset, aget_aset, cond_true, cond_false, decide_true, decide_false, ↓reduceIte, eq_self,
      reduceCtorEq, Nat.reduceEqDiff, Nat.reduceLT, Nat.reduceLeDiff, Nat.reduceBEq, Nat.reduceAdd, Nat.left_eq_add, Nat.add_assoc, Nat.one_ne_zero, indexAddr, fieldAddr, rd, V.cells, List.length_cons, List.length_nil, List.take_succ_cons, List.take_zero, List.drop_succ_cons, List.drop_zero, List.drop_nil, List.take_nil, List.set_cons_zero, List.nil_append, List.cons_append, List.append_nil, Nat.zero_add, Nat.add_zero, Nat.le_refl, ofCells, K.agg, put1, splice, V.storable, Bool.true_and, Bool.and_true, Bool.and_false, Bool.not_true, Bool.not_false, beq_self_eq_true, St_get, List.all_cons, List.all_nil, V.flat, enumE, callI_func, callI_tmp, callF_fn, prim_makeFunc, finK_ret, Ilv.results, resV, all_nil, all_cons, Bool.or_false, frz24, lv24_0, lv24_1, lv24_2, lv24_3, lv24_4, lv24_5, lv24_6, lv24_9, lv24_11, lv24_15, lv24_20, lv24_21, lv24_22, lv24_23, cf24_23, lv24_24, cf24_24, lv24_25, lv24_27, cf24_27, lv24_28, lv24_29, ty2, ty3, ty26, ty36, ty37, ty39, ty60, ty68, Int.reduceEq, Sbox, hrr, keep24, q1, q2, q3, q4, q5, q6, q9, q11, q12, q13, q14, h1, iC, B1, B2, fn35, pure35, callV_f, c35', fn37, pure37, told37, fn34, pure34, fn11, pure11, RObj, TObj, ha, ga, gta, ha0, ha1, hat, e1, e2, b2, drawK_some, drawK_some, runDF_nil, f_move, f_load, f_store, f_nilCheck, f_fieldAddr, f_indexAddr, runDF_call, callFt_func, stepF_none, stepF_set, callG_mk, footK_mk, footP_load, footP_store, footP_move, footP_nilCheck, footP_fieldAddr, footP_indexAddr, footW_none, footW_set, footR_some, idOf, footAt_eq, Option.getD_some, indep_cells, apartL_nil, apartL_cons, footP_load, hb, gb, gtb, hb0, hb1, hbt, hR, hT, hc, gc, gtc, hc0, hc1, hct, ht11, ht34, hu]
end Go.Proofs.YtdCfgT

/- A silent step, plainly; silent.execute makes it. -/
set_option maxRecDepth 100000
set_option linter.unusedSimpArgs false
set_option linter.unusedVariables false
namespace Go.Proofs.YtdCfgT
open Go Go.Ilv
/-- The state of a thread. -/
structure SS where
  pc : Int
  regs : List Int
  taint : List (List Int)
  ev : Int
/-- What an instruction puts into its register. -/
def valS (op b c nn : Int) (s : SS) : Option (Int × List Int) :=
  if op = 1 then some (nn, [])
  else if inR s.regs b = false then none
  else if op = 2 then some (s.regs.getD b.toNat 0, s.taint.getD b.toNat [])
  else if op = 3 then (bif (evU nn (s.regs.getD b.toNat 0)).2 then some ((evU nn (s.regs.getD b.toNat 0)).1, s.taint.getD b.toNat []) else none)
  else if inR s.regs c = false then none
  else bif (evB nn (s.regs.getD b.toNat 0) (s.regs.getD c.toNat 0)).2 then some ((evB nn (s.regs.getD b.toNat 0) (s.regs.getD c.toNat 0)).1, uni (s.taint.getD b.toNat []) (s.taint.getD c.toNat [])) else none
def stepS (op a b c nn : Int) (s : SS) : Option SS :=
  if op = 5 then some { s with pc := a }
  else match valS op b c nn s with
    | none => none
    | some (v, t) => if inR s.regs a = true then some ⟨IntKind.i64.wrap (s.pc + 1), s.regs.set a.toNat v, s.taint.set a.toNat t, s.ev⟩ else none

/-! ### How long the taints grow -/
theorem nodup_len {l U : List Int} (h : l.Pairwise (· < ·)) (hs : ∀ x ∈ l, x ∈ U) : l.length ≤ U.length := by
  induction l generalizing U with
  | nil => exact Nat.zero_le _
  | cons x r ih =>
    rw [List.pairwise_cons] at h
    have hx := hs x (by simp)
    have := ih h.2 (U := U.erase x) (fun y hy => by
      have hlt := h.1 y hy
      rw [List.mem_erase_of_ne (by omega)]
      exact hs y (by simp [hy]))
    rw [List.length_erase_of_mem hx] at this
    have hpos := List.length_pos_of_mem hx
    simp only [List.length_cons]; omega
/-- Every taint is short, its numbers come from U. -/
def Short (U : List Int) (M : Nat) (taint : List (List Int)) : Prop := ∀ t ∈ taint, t.length ≤ M ∧ ∀ x ∈ t, x ∈ U
theorem uni_short {U : List Int} {M : Nat} (hU : U.length ≤ M) {x y : List Int} (hx : ∀ z ∈ x, z ∈ U) (hy : ∀ z ∈ y, z ∈ U) : (uni x y).length ≤ M ∧ ∀ z ∈ uni x y, z ∈ U := by
  obtain ⟨h1, h2⟩ := uni_spec x y
  have h3 : ∀ z ∈ uni x y, z ∈ U := fun z hz => (h2 z).1 hz |>.elim (hx z) (hy z)
  exact ⟨Nat.le_trans (nodup_len h1 h3) hU, h3⟩
theorem Short.get {U : List Int} {M : Nat} {taint : List (List Int)} (h : Short U M taint) {i : Nat} (hi : i < taint.length) : (taint.getD i []).length ≤ M ∧ ∀ x ∈ taint.getD i [], x ∈ U := by
  rw [List.getD_eq_getElem?_getD, List.getElem?_eq_getElem hi]
  exact h _ (List.getElem_mem hi)
theorem Short.set {U : List Int} {M : Nat} {taint : List (List Int)} (h : Short U M taint) {i : Nat} {t : List Int} (ht : t.length ≤ M ∧ ∀ x ∈ t, x ∈ U) : Short U M (taint.set i t) := by
  intro x hx
  rcases List.mem_or_eq_of_mem_set hx with hx | rfl
  · exact h x hx
  · exact ht

/-- The store while a thread settles. -/
structure Inv (U : List Int) (M : Nat) (l : List (Nat × Ilv.Obj)) (n rid tid : Nat) (rv : V) (s : SS) : Prop where
  hn : 2 ≤ n
  hf : Fresh n l
  h1 : aget l 1 = some (Sbox s.pc rv (.ref tid 0 1 0 s.taint.length) s.ev)
  hr : Regs l rid rv s.regs
  hT : aget l tid = some (TObj s.taint)
  hl : s.taint.length = s.regs.length
  hrid : rid < n
  htid : tid < n
  d1 : rid ≠ 1
  d2 : tid ≠ 1
  d3 : rid ≠ tid
  hs : Short U M s.taint
theorem inR_spec {regs : List Int} {r : Int} (h : inR regs r = true) : 0 ≤ r ∧ r < (regs.length : Int) ∧ r.toNat < regs.length := by
  simp only [inR, Bool.and_eq_true, decide_eq_true_eq] at h
  exact ⟨h.1, h.2, by omega⟩
theorem get_regs {regs : List Int} {r : Int} (h : inR regs r = true) : (regs.map intRow)[r.toNat]? = some [.int .i64 (regs.getD r.toNat 0)] := by
  have := (inR_spec h).2.2
  rw [List.getElem?_map, List.getD_eq_getElem?_getD, List.getElem?_eq_getElem this]; rfl
theorem get_taint {taint : List (List Int)} {r : Nat} (h : r < taint.length) : (taint.map tRow)[r]? = some [.lit ((taint.getD r []).map iV)] := by
  rw [List.getElem?_map, List.getD_eq_getElem?_getD, List.getElem?_eq_getElem h]; rfl
/-- The end of execute: its boxes go. -/
theorem fresh2 {l : List (Nat × Ilv.Obj)} {n : Nat} (hf : Fresh n l) (o1 o2 : Ilv.Obj) : Fresh (n + 2) (aset (aset l n o1) (n + 1) o2) :=
  (hf.set (Nat.le_succ n) (Nat.lt_succ_self n)).set (Nat.le_succ _) (Nat.lt_succ_self _)
theorem exec24 {U : List Int} {M : Nat} (hU : U.length ≤ M) (hM : M ≤ 50000000) {l : List (Nat × Ilv.Obj)} {n rid tid : Nat} {rv : V} {s : SS} (h : Inv U M l n rid tid rv s) {op a b c nn site : Int} (hop : 1 ≤ op ∧ op ≤ 5) :
    ∃ n' l', callL cfg 24 [.ptr 1 0 0 0, .agg (iC op a b c nn site)] ⟨n, l⟩ = some (.bool (stepS op a b c nn s).isSome, ⟨n', l'⟩) ∧ n ≤ n' ∧ Fresh n' l' ∧ (∀ j, j < n → j ≠ 1 → j ≠ rid → j ≠ tid → aget l' j = aget l j) ∧
      (∀ s', stepS op a b c nn s = some s' → Inv U M l' n' rid tid rv s') := by
  obtain ⟨hn, hf, h1, hr, hT, hl, hrid, htid, d1, d2, d3, hsh⟩ := h
  -- what fails
  have bad : ∀ (hb : callL cfg 24 [.ptr 1 0 0 0, .agg (iC op a b c nn site)] ⟨n, l⟩ = some (.bool false, St.killVars ⟨n + 2, aset (aset l n B1) (n + 1) (B2 op a b c nn site)⟩ n)) (hst : stepS op a b c nn s = none),
      ∃ n' l', callL cfg 24 [.ptr 1 0 0 0, .agg (iC op a b c nn site)] ⟨n, l⟩ = some (.bool (stepS op a b c nn s).isSome, ⟨n', l'⟩) ∧ n ≤ n' ∧ Fresh n' l' ∧ (∀ j, j < n → j ≠ 1 → j ≠ rid → j ≠ tid → aget l' j = aget l j) ∧
      (∀ s', stepS op a b c nn s = some s' → Inv U M l' n' rid tid rv s') := by
    intro hb hst
    rw [hst]
    refine ⟨n + 2, (St.killVars ⟨n + 2, aset (aset l n B1) (n + 1) (B2 op a b c nn site)⟩ n).objs, hb, by omega, (fresh2 hf _ _).kill, fun j hj _ _ _ => ?_, fun s' hs' => by cases hs'⟩
    rw [aget_kill hj, aget_ne (by omega), aget_ne (by omega)]
  -- what goes well
  have good : ∀ (v : Int) (t : List Int), inR s.regs a = true → (t.length ≤ M ∧ ∀ x ∈ t, x ∈ U) → stepS op a b c nn s = some ⟨IntKind.i64.wrap (s.pc + 1), s.regs.set a.toNat v, s.taint.set a.toNat t, s.ev⟩ → rv = .ref rid 0 1 0 s.regs.length →
      callL cfg 24 [.ptr 1 0 0 0, .agg (iC op a b c nn site)] ⟨n, l⟩ = some (.bool true, St.killVars ⟨n + 2, aset (aset (aset (aset (aset l n B1) (n + 1) (B2 op a b c nn site)) rid (RObj (s.regs.set a.toNat v))) tid (TObj (s.taint.set a.toNat t))) 1 (Sbox (IntKind.i64.wrap (s.pc + 1)) (.ref rid 0 1 0 s.regs.length) (.ref tid 0 1 0 s.taint.length) s.ev)⟩ n) →
      ∃ n' l', callL cfg 24 [.ptr 1 0 0 0, .agg (iC op a b c nn site)] ⟨n, l⟩ = some (.bool (stepS op a b c nn s).isSome, ⟨n', l'⟩) ∧ n ≤ n' ∧ Fresh n' l' ∧ (∀ j, j < n → j ≠ 1 → j ≠ rid → j ≠ tid → aget l' j = aget l j) ∧
      (∀ s', stepS op a b c nn s = some s' → Inv U M l' n' rid tid rv s') := by
    intro v t ha ht hst hrv hcall
    have hfr : Fresh (n + 2) (aset (aset (aset (aset (aset l n B1) (n + 1) (B2 op a b c nn site)) rid (RObj (s.regs.set a.toNat v))) tid (TObj (s.taint.set a.toNat t))) 1 (Sbox (IntKind.i64.wrap (s.pc + 1)) (.ref rid 0 1 0 s.regs.length) (.ref tid 0 1 0 s.taint.length) s.ev)) :=
      (((fresh2 hf _ _).set (Nat.le_refl _) (by omega)).set (Nat.le_refl _) (by omega)).set (Nat.le_refl _) (by omega)
    rw [hst]
    refine ⟨n + 2, (St.killVars ⟨n + 2, _⟩ n).objs, hcall, by omega, hfr.kill, fun j hj j1 j2 j3 => ?_, fun s' hs' => ?_⟩
    · rw [aget_kill hj, aget_ne j1, aget_ne j3, aget_ne j2, aget_ne (by omega), aget_ne (by omega)]
    · simp only [Option.some.injEq] at hs'
      subst hs'
      refine ⟨by omega, hfr.kill, ?_, .inl ⟨?_, ?_⟩, ?_, ?_, by omega, by omega, d1, d2, d3, hsh.set ht⟩
      · rw [aget_kill (by omega), aget_self, hrv]; simp only [List.length_set]
      · rw [hrv]; simp only [List.length_set]
      · rw [aget_kill hrid, aget_ne d1, aget_ne d3, aget_self]; rfl
      · rw [aget_kill htid, aget_ne d2, aget_self]
      · simp only [List.length_set]; exact hl
  -- registers that are there
  have there : ∀ r, inR s.regs r = true → rv = .ref rid 0 1 0 s.regs.length ∧ aget l rid = some (RObj s.regs) := by
    intro r hr0
    rcases hr with ⟨g1, g2⟩ | ⟨_, g2⟩
    · exact ⟨g1, g2⟩
    · have := (inR_spec hr0).2.2; rw [g2] at this; simp at this
  by_cases o5 : op = 5
  · subst o5
    refine ⟨n + 2, (St.killVars ⟨n + 2, _⟩ n).objs, call24_jump (rid := rid) (tid := tid) hn h1, by omega, ((fresh2 hf _ _).set (Nat.le_refl _) (by omega)).kill, fun j hj j1 j2 j3 => ?_, fun s' hs' => ?_⟩
    · rw [aget_kill hj, aget_ne j1, aget_ne (by omega), aget_ne (by omega)]
    · simp only [stepS, if_true, Option.some.injEq] at hs'
      subst hs'
      refine ⟨by omega, ((fresh2 hf _ _).set (Nat.le_refl _) (by omega)).kill, ?_, ?_, ?_, hl, by omega, by omega, d1, d2, d3, hsh⟩
      · rw [aget_kill (by omega), aget_self]
      · rcases hr with ⟨g1, g2⟩ | g
        · exact .inl ⟨g1, by rw [aget_kill hrid, aget_ne d1, aget_ne (by omega), aget_ne (by omega)]; exact g2⟩
        · exact .inr g
      · rw [aget_kill htid, aget_ne d2, aget_ne (by omega), aget_ne (by omega)]; exact hT
  have st : stepS op a b c nn s = match valS op b c nn s with
    | none => none
    | some (v, t) => if inR s.regs a = true then some ⟨IntKind.i64.wrap (s.pc + 1), s.regs.set a.toNat v, s.taint.set a.toNat t, s.ev⟩ else none := by
    simp only [stepS, if_neg o5]
  by_cases o1 : op = 1
  · subst o1
    have hv : valS 1 b c nn s = some (nn, []) := by simp only [valS, if_true]
    rw [hv] at st
    cases ha : inR s.regs a with
    | false => exact bad (x1f hn hf hrid htid d1 d2 d3 h1 hr ha) (by rw [st, ha]; rfl)
    | true =>
      obtain ⟨e1, e2⟩ := there a ha
      obtain ⟨p1, p2, p3⟩ := inR_spec ha
      rw [e1] at h1
      exact good nn [] ha ⟨by simp, by simp⟩ (by rw [st]; exact if_pos ha) e1 (x1 hn hf hrid htid d1 d2 d3 h1 e2 hT ha (get_regs ha) (get_taint (by omega)) p1 p2 (by omega) (by simp))
  cases hb : inR s.regs b with
  | false =>
    have hv : valS op b c nn s = none := by simp only [valS, if_neg o1, hb, if_true]
    rw [hv] at st
    have : op = 2 ∨ op = 3 ∨ op = 4 := by omega
    rcases this with rfl | rfl | rfl
    · exact bad (x2f hn hf hrid htid d1 d2 d3 h1 hr hb) st
    · exact bad (x3f hn hf hrid htid d1 d2 d3 h1 hr hb) st
    · exact bad (x4f hn hf hrid htid d1 d2 d3 h1 hr hb) st
  | true =>
    obtain ⟨e1, e2⟩ := there b hb
    obtain ⟨p1, p2, p3⟩ := inR_spec hb
    have gb := get_regs hb
    have gtb := get_taint (taint := s.taint) (r := b.toNat) (by omega)
    have hsb := hsh.get (i := b.toNat) (by omega)
    rw [e1] at h1
    by_cases o2 : op = 2
    · subst o2
      have hv : valS 2 b c nn s = some (s.regs.getD b.toNat 0, s.taint.getD b.toNat []) := by simp only [valS, hb, Int.reduceEq, if_true, if_false, Bool.true_eq_false]
      rw [hv] at st
      cases ha : inR s.regs a with
      | false => exact bad (x2g hn hf hrid htid d1 d2 d3 h1 e2 hT hb gb gtb p1 p2 (by omega) ha) (by rw [st, ha]; rfl)
      | true =>
        obtain ⟨r1, r2, r3⟩ := inR_spec ha
        exact good _ _ ha hsb (by rw [st]; exact if_pos ha) e1 (x2 hn hf hrid htid d1 d2 d3 h1 e2 hT hb gb gtb p1 p2 (by omega) ha (get_regs ha) (get_taint (by omega)) r1 r2 (by omega) (by omega))
    by_cases o3 : op = 3
    · subst o3
      cases hu : (evU nn (s.regs.getD b.toNat 0)).2 with
      | false =>
        have hv : valS 3 b c nn s = none := by simp only [valS, hb, hu, Int.reduceEq, if_true, if_false, Bool.true_eq_false, cond_false]
        rw [hv] at st
        exact bad (x3e hn hf hrid htid d1 d2 d3 h1 e2 hT hb gb gtb p1 p2 (by omega) hu) st
      | true =>
        have hv : valS 3 b c nn s = some ((evU nn (s.regs.getD b.toNat 0)).1, s.taint.getD b.toNat []) := by simp only [valS, hb, hu, Int.reduceEq, if_true, if_false, Bool.true_eq_false, cond_true]
        rw [hv] at st
        cases ha : inR s.regs a with
        | false => exact bad (x3g hn hf hrid htid d1 d2 d3 h1 e2 hT hb gb gtb p1 p2 (by omega) hu ha) (by rw [st, ha]; rfl)
        | true =>
          obtain ⟨r1, r2, r3⟩ := inR_spec ha
          exact good _ _ ha hsb (by rw [st]; exact if_pos ha) e1 (x3 hn hf hrid htid d1 d2 d3 h1 e2 hT hb gb gtb p1 p2 (by omega) hu ha (get_regs ha) (get_taint (by omega)) r1 r2 (by omega) (by omega))
    obtain rfl : op = 4 := by omega
    cases hc : inR s.regs c with
    | false =>
      have hv : valS 4 b c nn s = none := by simp only [valS, hb, hc, Int.reduceEq, if_true, if_false, Bool.true_eq_false]
      rw [hv] at st
      exact bad (x4h hn hf hrid htid d1 d2 d3 h1 e2 hT hb gb gtb p1 p2 (by omega) hc) st
    | true =>
      obtain ⟨c1, c2, c3⟩ := inR_spec hc
      have gc := get_regs hc
      have gtc := get_taint (taint := s.taint) (r := c.toNat) (by omega)
      have hsc := hsh.get (i := c.toNat) (by omega)
      have hun := uni_short hU hsb.2 hsc.2
      cases hu : (evB nn (s.regs.getD b.toNat 0) (s.regs.getD c.toNat 0)).2 with
      | false =>
        have hv : valS 4 b c nn s = none := by simp only [valS, hb, hc, hu, Int.reduceEq, if_false, Bool.true_eq_false, cond_false]
        rw [hv] at st
        exact bad (x4e hn hf hrid htid d1 d2 d3 h1 e2 hT hb gb gtb p1 p2 (by omega) hc gc gtc c1 c2 (by omega) (by omega) hu) st
      | true =>
        have hv : valS 4 b c nn s = some ((evB nn (s.regs.getD b.toNat 0) (s.regs.getD c.toNat 0)).1, uni (s.taint.getD b.toNat []) (s.taint.getD c.toNat [])) := by simp only [valS, hb, hc, hu, Int.reduceEq, if_false, Bool.true_eq_false, cond_true]
        rw [hv] at st
        cases ha : inR s.regs a with
        | false => exact bad (x4g hn hf hrid htid d1 d2 d3 h1 e2 hT hb gb gtb p1 p2 (by omega) hc gc gtc c1 c2 (by omega) (by omega) hu ha) (by rw [st, ha]; rfl)
        | true =>
          obtain ⟨r1, r2, r3⟩ := inR_spec ha
          exact good _ _ ha hun (by rw [st]; exact if_pos ha) e1 (x4 hn hf hrid htid d1 d2 d3 h1 e2 hT hb gb gtb p1 p2 (by omega) hc gc gtc c1 c2 (by omega) (by omega) hu ha (get_regs ha) (get_taint (by omega)) r1 r2 (by omega) (by omega))
end Go.Proofs.YtdCfgT

/- silent.clone. -/
set_option maxRecDepth 100000
set_option linter.unusedSimpArgs false
set_option linter.unusedVariables false
namespace Go.Proofs.YtdCfgT
open Go Go.Ilv
/-- Lists of lists, as a value that nobody writes. -/
def litss (taint : List (List Int)) : V := .lit (taint.map lits)
def stC (s : SS) : List V := [.int .i64 s.pc, lits s.regs, litss s.taint, .int .i64 s.ev]
theorem mk37 {k : Nat} (hk : k ≤ 100000000) (id : Nat) : mkS false id ⟨.slice 3, 1, 24, [.nils]⟩ (.int .i64 k) (.int .i64 k) = some (.ref id 0 1 0 k, .set id ⟨1, 0, false, List.replicate k [.nils]⟩) := by
  have h1 : ((1 : Nat) ≠ 0 ∧ 0 ≤ (k : Int) ∧ (k : Int) ≤ (k : Int) ∧ roomOk (k : Int).toNat 24 = true) := ⟨by decide, by omega, by omega, by simp only [roomOk, Bool.and_eq_true, decide_eq_true_eq, Int.toNat_natCast]; omega⟩
  have h2 : (List.replicate k V.nils).all (fun v => v.storable && decide (v.cells.length = 1)) = true := by simp [List.all_replicate, V.storable, V.cells]
  have h3 : mkS false id ⟨.slice 3, 1, 24, [.nils]⟩ (.int .i64 k) (.int .i64 k) = sliceOfRows false id 1 (List.replicate k .nils) := by
    show (if _ then _ else none) = _
    rw [if_pos h1]
    rfl
  rw [h3]
  unfold sliceOfRows
  rw [if_pos h2, if_neg (by decide), List.length_replicate, List.map_replicate]
  rfl
theorem clone33 {regs : List Int} (hr : regs.length ≤ 100000000) (m : Nat) (L : List (Nat × Ilv.Obj)) : regs ≠ [] → intrClone 1 [.lit (regs.map iV)] ⟨m, L⟩ = some (.ref m 0 1 0 regs.length, ⟨m + 1, aset L m (RObj regs)⟩) := by
  intro hne
  have e1 : (regs.map iV).all (fun v => v.storable && decide (v.cells.length = 1)) = true := by simp [iV, V.storable, V.cells]
  have e2 : (regs.map iV).length ≤ 100000000 := by rw [List.length_map]; exact hr
  have e3 : (regs.map iV).map V.cells = regs.map intRow := by simp [iV, V.cells, intRow]
  have e4 : (regs.map iV).length = regs.length := List.length_map ..
  have key : ∀ ws : List V, ws = regs.map iV → intrClone 1 [.lit ws] ⟨m, L⟩ = some (.ref m 0 1 0 regs.length, ⟨m + 1, aset L m (RObj regs)⟩) := by
    intro ws hw
    match ws, hw with
    | [], hw => exact absurd (List.map_eq_nil_iff.1 hw.symm) hne
    | w :: ws, hw =>
      rw [RObj, ← e3, ← e4, ← hw]
      rw [← hw] at e1 e2
      simp only [intrClone, elems, e1, e2, decide_true, Bool.and_self, if_true]
  exact key _ rfl
/-- The rows while they are filled. -/
def fillR (taint : List (List Int)) (k : Nat) : List (List V) := (taint.take k).map tRow ++ List.replicate (taint.length - k) [.nils]
theorem fillR_set {taint : List (List Int)} {k : Nat} (hk : k < taint.length) : (fillR taint k).set k [.lit ((taint[k]).map iV)] = fillR taint (k + 1) := by
  have h1 : ((taint.take k).map tRow).length = k := by simp; omega
  have h2 : taint.length - k = (taint.length - (k + 1)) + 1 := by omega
  unfold fillR
  rw [List.set_append_right _ _ (by omega), h1, Nat.sub_self, h2, List.replicate_succ, List.set_cons_zero]
  rw [← List.take_append_getElem hk, List.map_append]
  simp [tRow]
theorem fillR_get {taint : List (List Int)} {k : Nat} (hk : k < taint.length) : (fillR taint k)[k]? = some [.nils] := by
  have h1 : ((taint.take k).map tRow).length = k := by simp; omega
  unfold fillR
  rw [List.getElem?_append_right (by omega), h1, Nat.sub_self, show taint.length - k = (taint.length - (k + 1)) + 1 by omega]
  rfl
theorem fillR_len {taint : List (List Int)} {k : Nat} (hk : k ≤ taint.length) : (fillR taint k).length = taint.length := by simp [fillR]; omega
theorem fillR_end (taint : List (List Int)) : fillR taint taint.length = taint.map tRow := by simp [fillR]
theorem wrap_next8 {k : Nat} (h : k < 100000000) : IntKind.i64.wrap ((k : Int) + 1) = ((k + 1 : Nat) : Int) := wrapN (k := k + 1) (by omega)
theorem loop23 (taint : List (List Int)) (hl : taint.length ≤ 50000000) (hs : ∀ t ∈ taint, t.length ≤ 100000000) (p q tid n : Nat) (htn : tid < n) : ∀ (m k : Nat) (L : List (Nat × Ilv.Obj)), k + m = taint.length → aget L tid = some ⟨1, 0, false, fillR taint k⟩ →
    ∃ L', execL cfg fi23 (sub code23 [1, 1, 1, 0, 1, 0]) [(1, .ptr p 0 0 0), (2, .ptr q 0 0 0), (3, .ref tid 0 1 0 taint.length), (15, litss taint), (16, .int .i64 taint.length), (17, .int .i64 k)] ⟨n, L⟩ =
      some (.exit 0, [(1, .ptr p 0 0 0), (2, .ptr q 0 0 0), (3, .ref tid 0 1 0 taint.length), (15, litss taint), (16, .int .i64 taint.length), (17, .int .i64 taint.length), (18, .bool false)], ⟨n, L'⟩) ∧
      aget L' tid = some (TObj taint) ∧ (∀ j, j ≠ tid → aget L' j = aget L j) := by
  have hcode : sub code23 [1, 1, 1, 0, 1, 0] = Code.loop (sub code23 [1, 1, 1, 0, 1, 0, 0]) := rfl
  have hbody : sub code23 [1, 1, 1, 0, 1, 0, 0] = Code.seq _ _ := rfl
  intro m
  induction m with
  | zero =>
    intro k L hk hT
    obtain rfl : k = taint.length := by omega
    refine ⟨L, ?_, by rw [hT, fillR_end]; rfl, fun _ _ => rfl⟩
    rw [hcode, x_loop, hbody]
    simp only [↓x_seq, ↓x_reg, ↓x_cond, execL_exit, thn_normal, thn_exit, regK_mk, condK_ff, inss, ins, List.map_cons, List.map_nil, Option.map_none, List.getElem?_toArray, runI_nil, i_binOp, stepK_none, putE_some, frzD_some, bnd_some, yes_eq, keepE_nil, keepE_cons, cons1_some, List.contains_nil, prim_binOp, opnd_tmp, nilS_tmp, bin_lss, aget, aset, cond_false, decide_false, ↓reduceIte, eq_self,
      Nat.reduceEqDiff, Nat.reduceLT, frz23, lv23_4, Int.lt_irrefl]
  | succ m ih =>
    intro k L hk hT
    have hkl : k < taint.length := by omega
    have hki : (k : Int) < (taint.length : Int) := by omega
    have q0 : (tid = n) = False := eq_false (by omega)
    have hw := wrap_next8 (k := k) (by omega)
    have hg : (taint.map lits)[k]? = some (.lit (taint[k].map iV)) := by rw [List.getElem?_map, List.getElem?_eq_getElem hkl]; rfl
    have ht := fun s => told34 (IsT.lits taint[k]) (hs _ (List.getElem_mem hkl)) s
    simp only [lits] at ht
    have hset := fillR_set hkl
    have hget := fillR_get hkl
    obtain ⟨L', g1, g2, g3⟩ := ih (k + 1) (aset L tid ⟨1, 0, false, fillR taint (k + 1)⟩) (by omega) aget_self
    refine ⟨L', ?_, g2, fun j hj => by rw [g3 j hj, aget_ne hj]⟩
    rw [hcode, x_loop, ← hcode, hbody]
    simp only [↓x_seq, ↓x_reg, ↓x_cond, ↓x_block, execL_skip, thn_normal, regK_mk, condK_tt, outB_normal, inss, ins, List.map_cons, List.map_nil, Option.map_none, List.getElem?_toArray, runI_nil, i_move, i_assign, i_load, i_store, i_binOp, i_indexAddr, runI_call, stepK_none, stepK_set, callK_mk,
      putE_some, putE_none, frzD_some, frzD_none, bnd_some, yes_eq, keepE_nil, keepE_cons, cons1_some, List.contains_nil, prim_move, prim_assign, prim_load, prim_store, prim_binOp, prim_indexAddr, true_and, and_true,
      opnd_tmp, opnd_int, opnds_nil, opnds_cons, nilS_tmp, nilS_int, bin_lss, bin_add, aget, aset, cond_true, cond_false, decide_true, ↓reduceIte, eq_self,
      reduceCtorEq, Nat.reduceEqDiff, Nat.reduceLT, indexAddr, rd, Int.natCast_nonneg, Int.toNat_natCast, V.cells, List.length_cons, List.length_nil, List.take_succ_cons, List.take_zero, List.drop_succ_cons, List.drop_nil, List.take_nil, List.nil_append, List.append_nil, Nat.zero_add, Nat.le_refl, ofCells, K.agg, put1, splice, V.storable, Bool.true_and, beq_self_eq_true, St_get, callI_func, frz23, lv23_4, lv23_5, lv23_6, lv23_7, ty26, ty37, litss, hki, q0, hg, hw, fn34, pure34, ht, hT, hget, hset]
    exact g1
theorem call23a {l : List (Nat × Ilv.Obj)} {n : Nat} (hf : Fresh n l) (s : SS) (hr : s.regs.length ≤ 50000000) (hl : s.taint.length ≤ 50000000) (hs : ∀ t ∈ s.taint, t.length ≤ 100000000) (hne : s.regs ≠ []) :
    ∃ l', callL cfg 23 [.agg (stC s)] ⟨n, l⟩ = some (.agg [.int .i64 s.pc, (.ref (n + 2) 0 1 0 s.regs.length), .ref (n + 3) 0 1 0 s.taint.length, .int .i64 s.ev], ⟨n + 4, l'⟩) ∧ Fresh (n + 4) l' ∧ aget l' (n + 2) = some (RObj s.regs) ∧ aget l' (n + 3) = some (TObj s.taint) ∧ (∀ j, j < n → aget l' j = aget l j) := by
  have hc : code23 = Code.seq (sub code23 [0]) (Code.seq (sub code23 [1, 0]) (Code.seq (sub code23 [1, 1, 0]) (Code.seq (Code.seq (sub code23 [1, 1, 1, 0, 0]) (Code.block 0 (sub code23 [1, 1, 1, 0, 1, 0]))) (Code.seq (sub code23 [1, 1, 1, 1, 0]) (sub code23 [1, 1, 1, 1, 1]))))) := rfl
  have e0 : sub code23 [0] = Code.region _ _ _ := rfl
  have e1 : sub code23 [1, 0] = Code.region _ _ _ := rfl
  have e2 : sub code23 [1, 1, 0] = Code.region _ _ _ := rfl
  have e3 : sub code23 [1, 1, 1, 0, 0] = Code.region _ _ _ := rfl
  have e4 : sub code23 [1, 1, 1, 1, 0] = Code.region _ _ _ := rfl
  have e5 : sub code23 [1, 1, 1, 1, 1] = Code.seq _ _ := rfl
  have hrr : fi23.fn.results.toList = [_] := rfl
  have c33 := fun m L => clone33 (regs := s.regs) (by omega) m L hne
  have mk := mk37 (k := s.taint.length) (by omega)
  obtain ⟨L', g1, g2, g3⟩ := loop23 s.taint hl hs n (n + 1) (n + 3) (n + 4) (by omega) s.taint.length 0 (aset (aset (aset (aset (aset l n ⟨4, 0, true, [[.int .i64 s.pc, .lit (s.regs.map iV), .lit (s.taint.map lits), .int .i64 s.ev]]⟩) (n + 1) ⟨4, 0, true, [[.int .i64 0, .nils, .nils, .int .i64 0]]⟩) (n + 2) (RObj s.regs)) n ⟨4, 0, true, [[.int .i64 s.pc, (.ref (n + 2) 0 1 0 s.regs.length), .lit (s.taint.map lits), .int .i64 s.ev]]⟩) (n + 3) ⟨1, 0, false, List.replicate s.taint.length [.nils]⟩) (by omega) (by rw [aget_self]; simp [fillR])
  simp only [Int.cast_ofNat_Int, litss] at g1
  have a1 : aget L' n = some ⟨4, 0, true, [[.int .i64 s.pc, (.ref (n + 2) 0 1 0 s.regs.length), .lit (s.taint.map lits), .int .i64 s.ev]]⟩ := by rw [g3 n (by omega), aget_ne (by omega), aget_self]
  have a2 : aget L' (n + 1) = some ⟨4, 0, true, [[.int .i64 0, .nils, .nils, .int .i64 0]]⟩ := by rw [g3 (n + 1) (by omega), aget_ne (by omega), aget_ne (by omega), aget_ne (by omega), aget_self]
  have q1 : (n = n + 2) = False := eq_false (by omega)
  have q2 : (n = n + 3) = False := eq_false (by omega)
  have q3 : (n + 1 = n + 3) = False := eq_false (by omega)
  have q4 : (n = n + 4) = False := eq_false (by omega)
  have q5 : (n + 1 = n + 4) = False := eq_false (by omega)
  have q6 : (n + 1 = n) = False := eq_false (by omega)
  have q7 : (n = n + 1) = False := eq_false (by omega)
  have hfr : Fresh (n + 4) L' := fun j hj => by
    rw [g3 j (by omega), aget_ne (by omega), aget_ne (by omega), aget_ne (by omega), aget_ne (by omega), aget_ne (by omega)]; exact hf j (by omega)
  refine ⟨(St.killVars ⟨n + 4, aset (aset L' n ⟨4, 0, true, [[.int .i64 s.pc, (.ref (n + 2) 0 1 0 s.regs.length), .ref (n + 3) 0 1 0 s.taint.length, .int .i64 s.ev]]⟩) (n + 1) ⟨4, 0, true, [[.int .i64 s.pc, (.ref (n + 2) 0 1 0 s.regs.length), .ref (n + 3) 0 1 0 s.taint.length, .int .i64 s.ev]]⟩⟩ n).objs, ?_, ((hfr.set (Nat.le_refl _) (by omega)).set (Nat.le_refl _) (by omega)).kill, ?_, ?_, fun j hj => ?_⟩
  · rw [call23, hc]
    simp (config := { maxSteps := 2000000 }) only [↓x_seq, ↓x_reg, ↓x_block, execL_ret, thn_normal, regK_mk, outB_exit, inss, ins, List.map_cons, List.map_nil, Option.map_none, List.getElem?_toArray, List.getElem?_cons_zero, List.getElem?_cons_succ,
      runI_nil, i_move, i_assign, i_alloc, i_box, i_load, i_store, i_makeSlice, i_fieldAddr, i_builtin, runI_call, stepK_none, stepK_set, callK_mk,
      putE_some, putE_none, frzD_some, frzD_none, bnd_some, yes_eq, keepE_nil, keepE_cons, cons1_some, List.contains_nil, prim_move, prim_assign, prim_alloc, prim_box, prim_load, prim_store, prim_fieldAddr, prim_len, prim_makeSlice, opnd_tmp, opnd_int, opnds_nil, opnds_cons, aget, aset, aget_aset, cond_true, cond_false, decide_true, ↓reduceIte, eq_self,
      reduceCtorEq, Nat.reduceEqDiff, Nat.reduceLT, Nat.reduceLeDiff, Nat.reduceBEq, Nat.reduceAdd, Nat.add_assoc, Nat.one_ne_zero, fieldAddr, rd, V.cells, List.length_cons, List.length_nil, List.take_succ_cons, List.take_zero, List.drop_succ_cons, List.drop_zero, List.drop_nil, List.take_nil, List.set_cons_zero, List.nil_append, List.cons_append, Nat.zero_add, Nat.le_refl, ofCells, K.agg, put1, splice, V.storable, Bool.true_and, beq_self_eq_true, St_get, elemTy, enumE, callI_func, finK_ret, Ilv.results, resV, all_nil, all_cons, frz23, lv23_0, lv23_1, lv23_2, lv23_3, lv23_8, lv23_9, ty26, ty36, ty37, ty39, lenl37, e0, e1, e2, e3, e4, e5, hrr, keep23, stC, lits, litss, fn33, pure33, callV_f, call33, c33, List.length_map, mk, g1, a1, a2, q1, q2, q4, q5, q6, q7]
    rfl
  · rw [aget_kill_some (o := RObj s.regs) ?_ rfl]
    rw [aget_ne (by omega), aget_ne (by omega), g3 _ (by omega), aget_ne (by omega), aget_ne (by omega), aget_self]
  · rw [aget_kill_some (o := TObj s.taint) ?_ rfl]
    rw [aget_ne (by omega), aget_ne (by omega), g2]
  · rw [aget_kill hj, aget_ne (by omega), aget_ne (by omega), g3 j (by omega), aget_ne (by omega), aget_ne (by omega), aget_ne (by omega), aget_ne (by omega), aget_ne (by omega)]
theorem call23b {l : List (Nat × Ilv.Obj)} {n : Nat} (hf : Fresh n l) (s : SS) (hr : s.regs.length ≤ 50000000) (hl : s.taint.length ≤ 50000000) (hs : ∀ t ∈ s.taint, t.length ≤ 100000000) (hne : s.regs = []) :
    ∃ l', callL cfg 23 [.agg (stC s)] ⟨n, l⟩ = some (.agg [.int .i64 s.pc, .nils, .ref (n + 2) 0 1 0 s.taint.length, .int .i64 s.ev], ⟨n + 3, l'⟩) ∧ Fresh (n + 3) l' ∧  aget l' (n + 2) = some (TObj s.taint) ∧ (∀ j, j < n → aget l' j = aget l j) := by
  have hc : code23 = Code.seq (sub code23 [0]) (Code.seq (sub code23 [1, 0]) (Code.seq (sub code23 [1, 1, 0]) (Code.seq (Code.seq (sub code23 [1, 1, 1, 0, 0]) (Code.block 0 (sub code23 [1, 1, 1, 0, 1, 0]))) (Code.seq (sub code23 [1, 1, 1, 1, 0]) (sub code23 [1, 1, 1, 1, 1]))))) := rfl
  have e0 : sub code23 [0] = Code.region _ _ _ := rfl
  have e1 : sub code23 [1, 0] = Code.region _ _ _ := rfl
  have e2 : sub code23 [1, 1, 0] = Code.region _ _ _ := rfl
  have e3 : sub code23 [1, 1, 1, 0, 0] = Code.region _ _ _ := rfl
  have e4 : sub code23 [1, 1, 1, 1, 0] = Code.region _ _ _ := rfl
  have e5 : sub code23 [1, 1, 1, 1, 1] = Code.seq _ _ := rfl
  have hrr : fi23.fn.results.toList = [_] := rfl
  have c33 : ∀ s, intrClone 1 [.lit []] s = some (.nils, s) := fun _ => rfl
  have hreg : s.regs.map iV = [] := by rw [hne]; rfl
  have mk := mk37 (k := s.taint.length) (by omega)
  obtain ⟨L', g1, g2, g3⟩ := loop23 s.taint hl hs n (n + 1) (n + 2) (n + 3) (by omega) s.taint.length 0 (aset (aset (aset (aset l n ⟨4, 0, true, [[.int .i64 s.pc, .lit [], .lit (s.taint.map lits), .int .i64 s.ev]]⟩) (n + 1) ⟨4, 0, true, [[.int .i64 0, .nils, .nils, .int .i64 0]]⟩) n ⟨4, 0, true, [[.int .i64 s.pc, .nils, .lit (s.taint.map lits), .int .i64 s.ev]]⟩) (n + 2) ⟨1, 0, false, List.replicate s.taint.length [.nils]⟩) (by omega) (by rw [aget_self]; simp [fillR])
  simp only [Int.cast_ofNat_Int, litss] at g1
  have a1 : aget L' n = some ⟨4, 0, true, [[.int .i64 s.pc, .nils, .lit (s.taint.map lits), .int .i64 s.ev]]⟩ := by rw [g3 n (by omega), aget_ne (by omega), aget_self]
  have a2 : aget L' (n + 1) = some ⟨4, 0, true, [[.int .i64 0, .nils, .nils, .int .i64 0]]⟩ := by rw [g3 (n + 1) (by omega), aget_ne (by omega), aget_ne (by omega), aget_self]
  have q1 : (n = n + 2) = False := eq_false (by omega)
  have q2 : (n = n + 3) = False := eq_false (by omega)
  have q3 : (n + 1 = n + 3) = False := eq_false (by omega)
  have q4 : (n = n + 4) = False := eq_false (by omega)
  have q5 : (n + 1 = n + 4) = False := eq_false (by omega)
  have q6 : (n + 1 = n) = False := eq_false (by omega)
  have q7 : (n = n + 1) = False := eq_false (by omega)
  have hfr : Fresh (n + 3) L' := fun j hj => by
    rw [g3 j (by omega), aget_ne (by omega), aget_ne (by omega), aget_ne (by omega), aget_ne (by omega)]; exact hf j (by omega)
  refine ⟨(St.killVars ⟨n + 3, aset (aset L' n ⟨4, 0, true, [[.int .i64 s.pc, .nils, .ref (n + 2) 0 1 0 s.taint.length, .int .i64 s.ev]]⟩) (n + 1) ⟨4, 0, true, [[.int .i64 s.pc, .nils, .ref (n + 2) 0 1 0 s.taint.length, .int .i64 s.ev]]⟩⟩ n).objs, ?_, ((hfr.set (Nat.le_refl _) (by omega)).set (Nat.le_refl _) (by omega)).kill, ?_, fun j hj => ?_⟩
  · rw [call23, hc]
    simp (config := { maxSteps := 2000000 }) only [↓x_seq, ↓x_reg, ↓x_block, execL_ret, thn_normal, regK_mk, outB_exit, inss, ins, List.map_cons, List.map_nil, Option.map_none, List.getElem?_toArray, List.getElem?_cons_zero, List.getElem?_cons_succ,
      runI_nil, i_move, i_assign, i_alloc, i_box, i_load, i_store, i_makeSlice, i_fieldAddr, i_builtin, runI_call, stepK_none, stepK_set, callK_mk,
      putE_some, putE_none, frzD_some, frzD_none, bnd_some, yes_eq, keepE_nil, keepE_cons, cons1_some, List.contains_nil, prim_move, prim_assign, prim_alloc, prim_box, prim_load, prim_store, prim_fieldAddr, prim_len, prim_makeSlice, opnd_tmp, opnd_int, opnds_nil, opnds_cons, aget, aset, aget_aset, cond_true, cond_false, decide_true, ↓reduceIte, eq_self,
      reduceCtorEq, Nat.reduceEqDiff, Nat.reduceLT, Nat.reduceLeDiff, Nat.reduceBEq, Nat.reduceAdd, Nat.add_assoc, Nat.one_ne_zero, fieldAddr, rd, V.cells, List.length_cons, List.length_nil, List.take_succ_cons, List.take_zero, List.drop_succ_cons, List.drop_zero, List.drop_nil, List.take_nil, List.set_cons_zero, List.nil_append, List.cons_append, Nat.zero_add, Nat.le_refl, ofCells, K.agg, put1, splice, V.storable, Bool.true_and, beq_self_eq_true, St_get, elemTy, enumE, callI_func, finK_ret, Ilv.results, resV, all_nil, all_cons, frz23, lv23_0, lv23_1, lv23_2, lv23_3, lv23_8, lv23_9, ty26, ty36, ty37, ty39, lenl37, e0, e1, e2, e3, e4, e5, hrr, keep23, stC, lits, litss, fn33, pure33, callV_f, call33, c33, List.length_map, mk, g1, a1, a2, q1, q2, q3, q6, q7, hreg]
    rfl
  · rw [aget_kill_some (o := TObj s.taint) ?_ rfl]
    rw [aget_ne (by omega), aget_ne (by omega), g2]
  · rw [aget_kill hj, aget_ne (by omega), aget_ne (by omega), g3 j (by omega), aget_ne (by omega), aget_ne (by omega), aget_ne (by omega), aget_ne (by omega)]
end Go.Proofs.YtdCfgT

/- silent.Settle. -/
set_option maxRecDepth 100000
set_option linter.unusedSimpArgs false
set_option linter.unusedVariables false
namespace Go.Proofs.YtdCfgT
open Go Go.Ilv
/-- An instruction. -/
structure I6 where
  op : Int
  a : Int
  b : Int
  c : Int
  nn : Int
  site : Int
def I6.v (i : I6) : V := .agg (iC i.op i.a i.b i.c i.nn i.site)
/-- The silent instructions from here on, at most m of them. -/
def settleL (is : List I6) : Nat → SS → Option SS
  | 0, s => if 0 ≤ s.pc then match is[s.pc.toNat]? with
      | none => none
      | some i => if 1 ≤ i.op ∧ i.op ≤ 5 then none else some s
    else none
  | m + 1, s => if 0 ≤ s.pc then match is[s.pc.toNat]? with
      | none => none
      | some i => if 1 ≤ i.op ∧ i.op ≤ 5 then match stepS i.op i.a i.b i.c i.nn s with
          | none => none
          | some s' => settleL is m s'
        else some s
    else none
theorem Inv.grow {U : List Int} {M : Nat} {l : List (Nat × Ilv.Obj)} {n rid tid : Nat} {rv : V} {s : SS} (h : Inv U M l n rid tid rv s) (o : Ilv.Obj) : Inv U M (aset l n o) (n + 1) rid tid rv s := by
  obtain ⟨hn, hf, h1, hr, hT, hl, hrid, htid, d1, d2, d3, hs⟩ := h
  exact ⟨by omega, hf.set (Nat.le_succ n) (Nat.lt_succ_self n), by rw [aget_ne (by omega)]; exact h1, hr.set (by omega), by rw [aget_ne (by omega)]; exact hT, hl, by omega, by omega, d1, d2, d3, hs⟩
def zC : List V := [.int .i64 0, .nils, .nils, .int .i64 0]
/-- What Settle has when it returns. -/
def Out (l : List (Nat × Ilv.Obj)) (rid tid : Nat) (rv : V) : Option SS → Bool → Prop
  | some s, ok => ok = true ∧ aget l 2 = some (Sbox s.pc rv (.ref tid 0 1 0 s.taint.length) s.ev) ∧ Regs l rid rv s.regs ∧ aget l tid = some (TObj s.taint)
  | none, ok => ok = false ∧ aget l 2 = some ⟨4, 0, true, [zC]⟩
theorem loop13 {U : List Int} {M : Nat} (hU : U.length ≤ M) (hM : M ≤ 50000000) (is : List I6) (cr : Int) (hlen : is.length ≤ 50000000) {rid tid : Nat} {rv : V} (r3 : 3 ≤ rid) (t3 : 3 ≤ tid) : ∀ (m k n : Nat) (l : List (Nat × Ilv.Obj)) (s : SS), k + m = is.length → Inv U M l n rid tid rv s →
    aget l 0 = some ⟨2, 0, true, [[.int .i64 cr, .lit (is.map I6.v)]]⟩ → aget l 2 = some ⟨4, 0, true, [zC]⟩ →
    ∃ ok n' l', execL cfg fi13 (sub code13 [1, 1, 1, 0, 1, 0]) [(2, .ptr 0 0 0 0), (3, .ptr 1 0 0 0), (4, .ptr 2 0 0 0), (6, .int .i64 k)] ⟨n, l⟩ = some (.ret, [(4, .ptr 2 0 0 0), (5, .bool ok)], ⟨n', l'⟩) ∧ Out l' rid tid rv (settleL is m s) ok := by
  have hcode : sub code13 [1, 1, 1, 0, 1, 0] = Code.loop (sub code13 [1, 1, 1, 0, 1, 0, 0]) := rfl
  have hbody : sub code13 [1, 1, 1, 0, 1, 0, 0] = Code.seq _ _ := rfl
  intro m
  induction m with
  | zero =>
    intro k n l s hk hI h0 h2
    have hkl : ((k : Int) = (is.length : Int)) := by omega
    have hki : (k : Int) ≤ (is.length : Int) := by omega
    have h1 := hI.h1
    have hrs := rv_st hI.hr
    have q1 : (0 = n) = False := eq_false (by have := hI.hn; omega)
    have q2 : (1 = n) = False := eq_false (by have := hI.hn; omega)
    have q3 : (2 = n) = False := eq_false (by have := hI.hrid; omega)
    have q4 : (2 = n + 1) = False := eq_false (by have := hI.hrid; omega)
    have q5 : (n = 2) = False := eq_false (by have := hI.hrid; omega)
    by_cases p0 : 0 ≤ s.pc
    · have p0' : ¬ s.pc < 0 := by omega
      by_cases p1 : s.pc < (is.length : Int)
      · have p1' : ¬ ((is.length : Int) ≤ s.pc) := by omega
        have hpn : s.pc.toNat < is.length := by omega
        obtain ⟨i, hi⟩ : ∃ i, is[s.pc.toNat]? = some i := ⟨_, List.getElem?_eq_getElem hpn⟩
        have hiv : (is.map I6.v)[s.pc.toNat]? = some (.agg (iC i.op i.a i.b i.c i.nn i.site)) := by rw [List.getElem?_map, hi]; rfl
        by_cases o1 : i.op < 1
        · have hset : settleL is 0 s = some s := by
            simp only [settleL, if_pos p0, hi]
            exact if_neg (by omega)
          rw [hset, hcode, x_loop, ← hcode, hbody]
          refine ⟨true, n + 1, aset (aset l n ⟨6, 0, true, [iC i.op i.a i.b i.c i.nn i.site]⟩) 2 (Sbox s.pc rv (.ref tid 0 1 0 s.taint.length) s.ev), ?_, rfl, aget_self, (hI.hr.set (by have := hI.hrid; omega)).set (by omega), by rw [aget_ne (by omega), aget_ne (by have := hI.htid; omega)]; exact hI.hT⟩
          simp only [iC] at hiv ⊢
          simp only [↓x_seq, ↓x_reg, ↓x_cond, ↓x_block, execL_skip, execL_ret, thn_normal, thn_ret, regK_mk, condK_tt, condK_ff, outB_ret, inss, ins, List.map_cons, List.map_nil, Option.map_none, Option.map_some, Option.bind_some, List.getElem?_toArray, List.getElem?_cons_zero, List.getElem?_cons_succ,
      runI_nil, i_move, i_assign, i_pick, i_alloc, i_load, i_store, i_binOp, i_fieldAddr, i_indexAddr, i_builtin, runI_guard, guardK_ff, guardK_ft, stepK_none, stepK_set, putE_some, putE_none, frzD_some, frzD_none, bnd_some, yes_eq, keepE_nil, keepE_cons, cons1_some, List.contains_nil, prim_move, prim_assign, prim_alloc, prim_load, prim_store, prim_binOp, prim_fieldAddr, prim_indexAddr, prim_len, prim_pick, true_and, opnd_tmp, opnd_int, opnd_bool, nilS_tmp, nilS_int, bin_lss, bin_leq, bin_geq, aget, aset, aget_aset, aset_aset, cond_true, cond_false, decide_true, decide_false, ↓reduceIte, eq_self,
      reduceCtorEq, Nat.reduceEqDiff, Nat.reduceLT, Nat.reduceLeDiff, Nat.reduceBEq, Nat.reduceAdd, Nat.left_eq_add, Nat.one_ne_zero, indexAddr, fieldAddr, rd, V.cells, List.length_cons, List.length_nil, List.take_succ_cons, List.take_zero, List.drop_succ_cons, List.drop_zero, List.drop_nil, List.take_nil, List.set_cons_zero, List.nil_append, List.cons_append, Nat.zero_add, Nat.add_zero, Nat.le_refl, ofCells, K.agg, put1, splice, V.storable, Bool.true_and, beq_self_eq_true, St_get, frz13, lv13_5, lv13_7, lv13_9, lv13_10, lv13_11, ty3, ty33, ty35, ty39, ty60, lenl33, ge_iff_le, List.length_map, Int.le_refl, hkl, h0, h1, h2, q2, q3, q4, p0', p1', p0, hiv, o1, Sbox, zC]
        · by_cases o5 : 5 < i.op
          · have hset : settleL is 0 s = some s := by
              simp only [settleL, if_pos p0, hi]
              exact if_neg (by omega)
            rw [hset, hcode, x_loop, ← hcode, hbody]
            refine ⟨true, n + 1, aset (aset l n ⟨6, 0, true, [iC i.op i.a i.b i.c i.nn i.site]⟩) 2 (Sbox s.pc rv (.ref tid 0 1 0 s.taint.length) s.ev), ?_, rfl, aget_self, (hI.hr.set (by have := hI.hrid; omega)).set (by omega), by rw [aget_ne (by omega), aget_ne (by have := hI.htid; omega)]; exact hI.hT⟩
            simp only [iC] at hiv ⊢
            simp only [↓x_seq, ↓x_reg, ↓x_cond, ↓x_block, execL_skip, execL_ret, thn_normal, thn_ret, regK_mk, condK_tt, condK_ff, outB_ret, inss, ins, List.map_cons, List.map_nil, Option.map_none, Option.map_some, Option.bind_some, List.getElem?_toArray, List.getElem?_cons_zero, List.getElem?_cons_succ,
      runI_nil, i_move, i_assign, i_pick, i_alloc, i_load, i_store, i_binOp, i_fieldAddr, i_indexAddr, i_builtin, runI_guard, guardK_ff, stepK_none, stepK_set, putE_some, putE_none, frzD_some, frzD_none, bnd_some, yes_eq, keepE_nil, keepE_cons, cons1_some, List.contains_nil, prim_move, prim_assign, prim_alloc, prim_load, prim_store, prim_binOp, prim_fieldAddr, prim_indexAddr, prim_len, prim_pick, true_and, opnd_tmp, opnd_int, opnd_bool, nilS_tmp, nilS_int, bin_lss, bin_leq, bin_gtr, bin_geq, aget, aset, aget_aset, aset_aset, cond_true, cond_false, decide_true, decide_false, ↓reduceIte, eq_self,
      reduceCtorEq, Nat.reduceEqDiff, Nat.reduceLT, Nat.reduceLeDiff, Nat.reduceBEq, Nat.reduceAdd, Nat.left_eq_add, Nat.one_ne_zero, indexAddr, fieldAddr, rd, V.cells, List.length_cons, List.length_nil, List.take_succ_cons, List.take_zero, List.drop_succ_cons, List.drop_zero, List.drop_nil, List.take_nil, List.set_cons_zero, List.nil_append, List.cons_append, Nat.zero_add, Nat.add_zero, Nat.le_refl, ofCells, K.agg, put1, splice, V.storable, Bool.true_and, beq_self_eq_true, St_get, frz13, lv13_5, lv13_7, lv13_9, lv13_10, lv13_11, ty3, ty33, ty35, ty39, ty60, lenl33, ge_iff_le, gt_iff_lt, List.length_map, Int.le_refl, hkl, h0, h1, h2, q2, q3, q4, p0', p1', p0, hiv, o1, o5, Sbox, zC]
          · have hset : settleL is 0 s = none := by
              simp only [settleL, if_pos p0, hi]
              exact if_pos ⟨by omega, by omega⟩
            rw [hset, hcode, x_loop, ← hcode, hbody]
            refine ⟨false, n + 1, aset (aset l n ⟨6, 0, true, [iC i.op i.a i.b i.c i.nn i.site]⟩) 2 ⟨4, 0, true, [zC]⟩, ?_, rfl, aget_self⟩
            simp only [iC] at hiv ⊢
            simp only [↓x_seq, ↓x_reg, ↓x_cond, ↓x_block, execL_skip, execL_ret, thn_normal, thn_ret, regK_mk, condK_tt, condK_ff, outB_ret, inss, ins, List.map_cons, List.map_nil, Option.map_none, Option.map_some, Option.bind_some, List.getElem?_toArray, List.getElem?_cons_zero, List.getElem?_cons_succ,
      runI_nil, i_move, i_assign, i_pick, i_alloc, i_build, i_load, i_store, i_binOp, i_fieldAddr, i_indexAddr, i_builtin, runI_guard, guardK_ff, guardK_ft, stepK_none, stepK_set, putE_some, putE_none, frzD_some, frzD_none, bnd_some, yes_eq, keepE_nil, keepE_cons, cons1_some, List.contains_nil, prim_move, prim_assign, prim_alloc, prim_build, prim_load, prim_store, prim_binOp, prim_fieldAddr, prim_indexAddr, prim_len, prim_pick, true_and, opnd_tmp, opnd_int, opnd_bool, popnds_nil, nilS_tmp, nilS_int, bin_eql, bin_lss, bin_leq, bin_gtr, bin_geq, aget, aset, aget_aset, aset_aset, cond_true, cond_false, decide_true, decide_false, ↓reduceIte, eq_self,
      reduceCtorEq, Nat.reduceEqDiff, Nat.reduceLT, Nat.reduceLeDiff, Nat.reduceBEq, Nat.reduceAdd, Nat.left_eq_add, Nat.one_ne_zero, indexAddr, fieldAddr, rd, V.cells, List.length_cons, List.length_nil, List.take_succ_cons, List.take_zero, List.drop_succ_cons, List.drop_zero, List.drop_nil, List.take_nil, List.set_cons_zero, List.nil_append, List.cons_append, Nat.zero_add, Nat.add_zero, Nat.le_refl, ofCells, K.agg, put1, splice, build, buildFill, V.storable, Bool.true_and, beq_self_eq_true, St_get, frz13, lv13_5, lv13_7, lv13_9, lv13_10, lv13_12, lv13_13, ty3, ty33, ty35, ty39, ty60, lenl33, ge_iff_le, gt_iff_lt, List.length_map, Int.le_refl, hkl, h0, h1, h2, q1, q3, q4, p0', p1', p0, hiv, o1, o5, Sbox, zC]
      · have p1ge : (is.length : Int) ≤ s.pc := by omega
        have hset : settleL is 0 s = none := by
          have : is[s.pc.toNat]? = none := List.getElem?_eq_none (by omega)
          simp only [settleL, if_pos p0, this]
        rw [hset, hcode, x_loop, ← hcode, hbody]
        refine ⟨false, n, aset l 2 ⟨4, 0, true, [zC]⟩, ?_, rfl, aget_self⟩
        simp only [↓x_seq, ↓x_reg, ↓x_cond, ↓x_block, execL_skip, execL_ret, thn_normal, thn_ret, regK_mk, condK_tt, outB_ret, inss, ins, List.map_cons, List.map_nil, Option.map_none, Option.map_some, Option.bind_some, List.getElem?_toArray, List.getElem?_cons_zero, List.getElem?_cons_succ,
      runI_nil, i_move, i_assign, i_pick, i_build, i_load, i_store, i_binOp, i_fieldAddr, i_builtin, runI_guard, guardK_ff, stepK_none, stepK_set, putE_some, putE_none, frzD_some, frzD_none, bnd_some, yes_eq, keepE_nil, keepE_cons, cons1_some, List.contains_nil, prim_move, prim_assign, prim_build, prim_load, prim_store, prim_binOp, prim_fieldAddr, prim_len, prim_pick, opnd_tmp, opnd_int, opnd_bool, popnds_nil, nilS_tmp, nilS_int, bin_lss, bin_leq, bin_geq, aget, aset, cond_true, cond_false, decide_true, decide_false, ↓reduceIte, eq_self,
      reduceCtorEq, Nat.reduceEqDiff, Nat.reduceLT, Nat.reduceLeDiff, Nat.reduceAdd, Nat.one_ne_zero, fieldAddr, rd, V.cells, List.length_cons, List.length_nil, List.take_succ_cons, List.take_zero, List.drop_succ_cons, List.drop_zero, List.drop_nil, List.take_nil, List.set_cons_zero, List.nil_append, List.cons_append, Nat.zero_add, Nat.add_zero, Nat.le_refl, ofCells, K.agg, put1, splice, build, buildFill, V.storable, Bool.true_and, beq_self_eq_true, St_get, frz13, lv13_5, lv13_7, lv13_8, ty3, ty33, ty35, ty39, lenl33, ge_iff_le, List.length_map, Int.le_refl, hkl, h0, h1, h2, q3, p0', p1ge, Sbox, zC]
    · have p0lt : s.pc < 0 := by omega
      have hset : settleL is 0 s = none := by simp only [settleL, if_neg p0]
      rw [hset, hcode, x_loop, ← hcode, hbody]
      refine ⟨false, n, aset l 2 ⟨4, 0, true, [zC]⟩, ?_, rfl, aget_self⟩
      simp only [↓x_seq, ↓x_reg, ↓x_cond, ↓x_block, execL_skip, execL_ret, thn_normal, thn_ret, regK_mk, condK_tt, outB_ret, inss, ins, List.map_cons, List.map_nil, Option.map_none, Option.map_some, Option.bind_some, List.getElem?_toArray, List.getElem?_cons_zero, List.getElem?_cons_succ,
      runI_nil, i_move, i_assign, i_pick, i_build, i_load, i_store, i_binOp, i_fieldAddr, i_builtin, runI_guard, guardK_ft, stepK_none, stepK_set, putE_some, putE_none, frzD_some, frzD_none, bnd_some, yes_eq, keepE_nil, keepE_cons, cons1_some, List.contains_nil, prim_move, prim_assign, prim_build, prim_load, prim_store, prim_binOp, prim_fieldAddr, prim_len, prim_pick, opnd_tmp, opnd_int, opnd_bool, popnds_nil, nilS_tmp, nilS_int, bin_lss, bin_leq, aget, aset, cond_true, cond_false, decide_true, ↓reduceIte, eq_self,
      reduceCtorEq, Nat.reduceEqDiff, Nat.reduceLT, Nat.reduceLeDiff, Nat.reduceAdd, Nat.one_ne_zero, fieldAddr, rd, V.cells, List.length_cons, List.length_nil, List.take_succ_cons, List.take_zero, List.drop_succ_cons, List.drop_zero, List.drop_nil, List.take_nil, List.set_cons_zero, List.nil_append, List.cons_append, Nat.zero_add, Nat.add_zero, Nat.le_refl, ofCells, K.agg, put1, splice, build, buildFill, V.storable, Bool.true_and, beq_self_eq_true, St_get, frz13, lv13_5, lv13_7, lv13_8, ty3, ty33, ty35, ty39, lenl33, List.length_map, Int.le_refl, hkl, h0, h1, h2, q3, p0lt, Sbox, zC]
  | succ m ih =>
    intro k n l s hk hI h0 h2
    have hkl : ¬ ((k : Int) = (is.length : Int)) := by omega
    have hki : (k : Int) ≤ (is.length : Int) := by omega
    have hw := wrap_next8 (k := k) (by omega)
    have h1 := hI.h1
    have hrs := rv_st hI.hr
    have q1 : (0 = n) = False := eq_false (by have := hI.hn; omega)
    have q2 : (1 = n) = False := eq_false (by have := hI.hn; omega)
    have q3 : (2 = n) = False := eq_false (by have := hI.hrid; omega)
    have q4 : (2 = n + 1) = False := eq_false (by have := hI.hrid; omega)
    have q5 : (n = 2) = False := eq_false (by have := hI.hrid; omega)
    by_cases p0 : 0 ≤ s.pc
    · have p0' : ¬ s.pc < 0 := by omega
      by_cases p1 : s.pc < (is.length : Int)
      · have p1' : ¬ ((is.length : Int) ≤ s.pc) := by omega
        have hpn : s.pc.toNat < is.length := by omega
        obtain ⟨i, hi⟩ : ∃ i, is[s.pc.toNat]? = some i := ⟨_, List.getElem?_eq_getElem hpn⟩
        have hiv : (is.map I6.v)[s.pc.toNat]? = some (.agg (iC i.op i.a i.b i.c i.nn i.site)) := by rw [List.getElem?_map, hi]; rfl
        by_cases o1 : i.op < 1
        · have hset : settleL is (m + 1) s = some s := by
            simp only [settleL, if_pos p0, hi]
            exact if_neg (by omega)
          rw [hset, hcode, x_loop, ← hcode, hbody]
          refine ⟨true, n + 1, aset (aset l n ⟨6, 0, true, [iC i.op i.a i.b i.c i.nn i.site]⟩) 2 (Sbox s.pc rv (.ref tid 0 1 0 s.taint.length) s.ev), ?_, rfl, aget_self, (hI.hr.set (by have := hI.hrid; omega)).set (by omega), by rw [aget_ne (by omega), aget_ne (by have := hI.htid; omega)]; exact hI.hT⟩
          simp only [iC] at hiv ⊢
          simp only [↓x_seq, ↓x_reg, ↓x_cond, ↓x_block, execL_skip, execL_ret, thn_normal, thn_ret, regK_mk, condK_tt, condK_ff, outB_ret, inss, ins, List.map_cons, List.map_nil, Option.map_none, Option.map_some, Option.bind_some, List.getElem?_toArray, List.getElem?_cons_zero, List.getElem?_cons_succ,
      runI_nil, i_move, i_assign, i_pick, i_alloc, i_load, i_store, i_binOp, i_fieldAddr, i_indexAddr, i_builtin, runI_guard, guardK_ff, guardK_ft, stepK_none, stepK_set, putE_some, putE_none, frzD_some, frzD_none, bnd_some, yes_eq, keepE_nil, keepE_cons, cons1_some, List.contains_nil, prim_move, prim_assign, prim_alloc, prim_load, prim_store, prim_binOp, prim_fieldAddr, prim_indexAddr, prim_len, prim_pick, true_and, opnd_tmp, opnd_int, opnd_bool, nilS_tmp, nilS_int, bin_lss, bin_leq, bin_geq, aget, aset, aget_aset, aset_aset, cond_true, cond_false, decide_true, decide_false, ↓reduceIte, eq_self,
      reduceCtorEq, Nat.reduceEqDiff, Nat.reduceLT, Nat.reduceLeDiff, Nat.reduceBEq, Nat.reduceAdd, Nat.left_eq_add, Nat.one_ne_zero, indexAddr, fieldAddr, rd, V.cells, List.length_cons, List.length_nil, List.take_succ_cons, List.take_zero, List.drop_succ_cons, List.drop_zero, List.drop_nil, List.take_nil, List.set_cons_zero, List.nil_append, List.cons_append, Nat.zero_add, Nat.add_zero, Nat.le_refl, ofCells, K.agg, put1, splice, V.storable, Bool.true_and, beq_self_eq_true, St_get, frz13, lv13_5, lv13_7, lv13_9, lv13_10, lv13_11, ty3, ty33, ty35, ty39, ty60, lenl33, ge_iff_le, List.length_map, hki, h0, h1, h2, q2, q3, q4, p0', p1', p0, hiv, o1, Sbox, zC]
        · by_cases o5 : 5 < i.op
          · have hset : settleL is (m + 1) s = some s := by
              simp only [settleL, if_pos p0, hi]
              exact if_neg (by omega)
            rw [hset, hcode, x_loop, ← hcode, hbody]
            refine ⟨true, n + 1, aset (aset l n ⟨6, 0, true, [iC i.op i.a i.b i.c i.nn i.site]⟩) 2 (Sbox s.pc rv (.ref tid 0 1 0 s.taint.length) s.ev), ?_, rfl, aget_self, (hI.hr.set (by have := hI.hrid; omega)).set (by omega), by rw [aget_ne (by omega), aget_ne (by have := hI.htid; omega)]; exact hI.hT⟩
            simp only [iC] at hiv ⊢
            simp only [↓x_seq, ↓x_reg, ↓x_cond, ↓x_block, execL_skip, execL_ret, thn_normal, thn_ret, regK_mk, condK_tt, condK_ff, outB_ret, inss, ins, List.map_cons, List.map_nil, Option.map_none, Option.map_some, Option.bind_some, List.getElem?_toArray, List.getElem?_cons_zero, List.getElem?_cons_succ,
      runI_nil, i_move, i_assign, i_pick, i_alloc, i_load, i_store, i_binOp, i_fieldAddr, i_indexAddr, i_builtin, runI_guard, guardK_ff, stepK_none, stepK_set, putE_some, putE_none, frzD_some, frzD_none, bnd_some, yes_eq, keepE_nil, keepE_cons, cons1_some, List.contains_nil, prim_move, prim_assign, prim_alloc, prim_load, prim_store, prim_binOp, prim_fieldAddr, prim_indexAddr, prim_len, prim_pick, true_and, opnd_tmp, opnd_int, opnd_bool, nilS_tmp, nilS_int, bin_lss, bin_leq, bin_gtr, bin_geq, aget, aset, aget_aset, aset_aset, cond_true, cond_false, decide_true, decide_false, ↓reduceIte, eq_self,
      reduceCtorEq, Nat.reduceEqDiff, Nat.reduceLT, Nat.reduceLeDiff, Nat.reduceBEq, Nat.reduceAdd, Nat.left_eq_add, Nat.one_ne_zero, indexAddr, fieldAddr, rd, V.cells, List.length_cons, List.length_nil, List.take_succ_cons, List.take_zero, List.drop_succ_cons, List.drop_zero, List.drop_nil, List.take_nil, List.set_cons_zero, List.nil_append, List.cons_append, Nat.zero_add, Nat.add_zero, Nat.le_refl, ofCells, K.agg, put1, splice, V.storable, Bool.true_and, beq_self_eq_true, St_get, frz13, lv13_5, lv13_7, lv13_9, lv13_10, lv13_11, ty3, ty33, ty35, ty39, ty60, lenl33, ge_iff_le, gt_iff_lt, List.length_map, hki, h0, h1, h2, q2, q3, q4, p0', p1', p0, hiv, o1, o5, Sbox, zC]
          · obtain ⟨n', l', g1, g2, g3, g4, g5⟩ := exec24 (op := i.op) (a := i.a) (b := i.b) (c := i.c) (nn := i.nn) (site := i.site) hU hM (hI.grow ⟨6, 0, true, [iC i.op i.a i.b i.c i.nn i.site]⟩) ⟨by omega, by omega⟩
            have q6 : (2 = n') = False := eq_false (by have := hI.hrid; omega)
            have f0 : aget l' 0 = some ⟨2, 0, true, [[.int .i64 cr, .lit (is.map I6.v)]]⟩ := by rw [g4 0 (by omega) (by omega) (by omega) (by omega), aget_ne (by have := hI.hn; omega)]; exact h0
            have f2 : aget l' 2 = some ⟨4, 0, true, [zC]⟩ := by rw [g4 2 (by have := hI.hrid; omega) (by omega) (by omega) (by omega), aget_ne (by have := hI.hrid; omega)]; exact h2
            have hset : settleL is (m + 1) s = match stepS i.op i.a i.b i.c i.nn s with
              | none => none
              | some s' => settleL is m s' := by
              simp only [settleL, if_pos p0, hi]
              rw [if_pos ⟨by omega, by omega⟩]
            rw [hset, hcode, x_loop, ← hcode, hbody]
            simp only [iC] at g1 hiv
            cases hst : stepS i.op i.a i.b i.c i.nn s with
            | none =>
              rw [hst] at g1
              simp only [Option.isSome_none] at g1
              refine ⟨false, n', aset l' 2 ⟨4, 0, true, [zC]⟩, ?_, rfl, aget_self⟩
              simp only [↓x_seq, ↓x_reg, ↓x_cond, ↓x_block, execL_skip, execL_ret, thn_normal, thn_ret, regK_mk, condK_tt, condK_ff, outB_ret, inss, ins, List.map_cons, List.map_nil, Option.map_none, Option.map_some, Option.bind_some, List.getElem?_toArray, List.getElem?_cons_zero, List.getElem?_cons_succ,
      runI_nil, i_move, i_assign, i_pick, i_alloc, i_build, i_load, i_store, i_binOp, i_unOp, i_fieldAddr, i_indexAddr, i_builtin, runI_call, runI_guard, guardK_ff, stepK_none, stepK_set, callK_mk,
      putE_some, putE_none, frzD_some, frzD_none, bnd_some, yes_eq, keepE_nil, keepE_cons, cons1_some, List.contains_nil, prim_move, prim_assign, prim_alloc, prim_build, prim_load, prim_store, prim_binOp, prim_unOp, prim_fieldAddr, prim_indexAddr, prim_len, prim_pick, true_and, opnd_tmp, opnd_int, opnd_bool, opnds_nil, opnds_cons, popnds_nil, nilS_tmp, nilS_int, bin_eql, bin_lss, bin_leq, bin_gtr, bin_geq, un_not, aget, aset, aget_aset, aset_aset, cond_true, cond_false, decide_true, decide_false, ↓reduceIte, eq_self,
      reduceCtorEq, Nat.reduceEqDiff, Nat.reduceLT, Nat.reduceLeDiff, Nat.reduceBEq, Nat.reduceAdd, Nat.left_eq_add, Nat.one_ne_zero, indexAddr, fieldAddr, rd, V.cells, List.length_cons, List.length_nil, List.take_succ_cons, List.take_zero, List.drop_succ_cons, List.drop_zero, List.drop_nil, List.take_nil, List.set_cons_zero, List.nil_append, List.cons_append, Nat.zero_add, Nat.add_zero, Nat.le_refl, ofCells, K.agg, put1, splice, build, buildFill, V.storable, Bool.true_and, Bool.not_false, beq_self_eq_true, St_get, callI_func, frz13, lv13_5, lv13_7, lv13_9, lv13_10, lv13_12, lv13_13, ty3, ty33, ty35, ty39, ty60, lenl33, ge_iff_le, gt_iff_lt, List.length_map, hki, hkl, h0, h1, q1, q6, p0', p1', p0, hiv, o1, o5, fn24, pure24, callV_f, g1, f2, Sbox, zC]
            | some s' =>
              rw [hst] at g1
              simp only [Option.isSome_some] at g1
              obtain ⟨ok, n2, l2, k1, k2⟩ := ih (k + 1) n' l' s' (by omega) (g5 s' hst) f0 f2
              refine ⟨ok, n2, l2, ?_, k2⟩
              simp only [↓x_seq, ↓x_reg, ↓x_cond, ↓x_block, execL_skip, thn_normal, regK_mk, condK_tt, condK_ff, outB_normal, inss, ins, List.map_cons, List.map_nil, Option.map_none, Option.map_some, Option.bind_some, List.getElem?_toArray, List.getElem?_cons_zero, List.getElem?_cons_succ,
      runI_nil, i_move, i_assign, i_pick, i_alloc, i_load, i_store, i_binOp, i_unOp, i_fieldAddr, i_indexAddr, i_builtin, runI_call, runI_guard, guardK_ff, stepK_none, stepK_set, callK_mk,
      putE_some, putE_none, frzD_some, frzD_none, bnd_some, yes_eq, keepE_nil, keepE_cons, cons1_some, List.contains_nil, prim_move, prim_assign, prim_alloc, prim_load, prim_store, prim_binOp, prim_unOp, prim_fieldAddr, prim_indexAddr, prim_len, prim_pick, true_and, opnd_tmp, opnd_int, opnd_bool, opnds_nil, opnds_cons, nilS_tmp, nilS_int, bin_eql, bin_lss, bin_leq, bin_gtr, bin_geq, bin_add, un_not, aget, aset, aget_aset, aset_aset, cond_true, cond_false, decide_true, decide_false, ↓reduceIte, eq_self,
      reduceCtorEq, Nat.reduceEqDiff, Nat.reduceLT, Nat.reduceLeDiff, Nat.reduceBEq, Nat.reduceAdd, Nat.left_eq_add, Nat.one_ne_zero, indexAddr, fieldAddr, rd, V.cells, List.length_cons, List.length_nil, List.take_succ_cons, List.take_zero, List.drop_succ_cons, List.drop_zero, List.drop_nil, List.take_nil, List.set_cons_zero, List.nil_append, List.cons_append, Nat.zero_add, Nat.add_zero, Nat.le_refl, ofCells, K.agg, put1, splice, V.storable, Bool.true_and, Bool.not_true, beq_self_eq_true, St_get, callI_func, frz13, lv13_5, lv13_7, lv13_9, lv13_10, lv13_12, lv13_6, ty3, ty33, ty35, ty39, ty60, lenl33, ge_iff_le, gt_iff_lt, List.length_map, hki, hkl, hw, h0, h1, q1, p0', p1', p0, hiv, o1, o5, fn24, pure24, callV_f, g1, Sbox]
              exact k1
      · have p1ge : (is.length : Int) ≤ s.pc := by omega
        have hset : settleL is (m + 1) s = none := by
          have : is[s.pc.toNat]? = none := List.getElem?_eq_none (by omega)
          simp only [settleL, if_pos p0, this]
        rw [hset, hcode, x_loop, ← hcode, hbody]
        refine ⟨false, n, aset l 2 ⟨4, 0, true, [zC]⟩, ?_, rfl, aget_self⟩
        simp only [↓x_seq, ↓x_reg, ↓x_cond, ↓x_block, execL_skip, execL_ret, thn_normal, thn_ret, regK_mk, condK_tt, outB_ret, inss, ins, List.map_cons, List.map_nil, Option.map_none, Option.map_some, Option.bind_some, List.getElem?_toArray, List.getElem?_cons_zero, List.getElem?_cons_succ,
      runI_nil, i_move, i_assign, i_pick, i_build, i_load, i_store, i_binOp, i_fieldAddr, i_builtin, runI_guard, guardK_ff, stepK_none, stepK_set, putE_some, putE_none, frzD_some, frzD_none, bnd_some, yes_eq, keepE_nil, keepE_cons, cons1_some, List.contains_nil, prim_move, prim_assign, prim_build, prim_load, prim_store, prim_binOp, prim_fieldAddr, prim_len, prim_pick, opnd_tmp, opnd_int, opnd_bool, popnds_nil, nilS_tmp, nilS_int, bin_lss, bin_leq, bin_geq, aget, aset, cond_true, cond_false, decide_true, decide_false, ↓reduceIte, eq_self,
      reduceCtorEq, Nat.reduceEqDiff, Nat.reduceLT, Nat.reduceLeDiff, Nat.reduceAdd, Nat.one_ne_zero, fieldAddr, rd, V.cells, List.length_cons, List.length_nil, List.take_succ_cons, List.take_zero, List.drop_succ_cons, List.drop_zero, List.drop_nil, List.take_nil, List.set_cons_zero, List.nil_append, List.cons_append, Nat.zero_add, Nat.add_zero, Nat.le_refl, ofCells, K.agg, put1, splice, build, buildFill, V.storable, Bool.true_and, beq_self_eq_true, St_get, frz13, lv13_5, lv13_7, lv13_8, ty3, ty33, ty35, ty39, lenl33, ge_iff_le, List.length_map, hki, h0, h1, h2, q3, p0', p1ge, Sbox, zC]
    · have p0lt : s.pc < 0 := by omega
      have hset : settleL is (m + 1) s = none := by simp only [settleL, if_neg p0]
      rw [hset, hcode, x_loop, ← hcode, hbody]
      refine ⟨false, n, aset l 2 ⟨4, 0, true, [zC]⟩, ?_, rfl, aget_self⟩
      simp only [↓x_seq, ↓x_reg, ↓x_cond, ↓x_block, execL_skip, execL_ret, thn_normal, thn_ret, regK_mk, condK_tt, outB_ret, inss, ins, List.map_cons, List.map_nil, Option.map_none, Option.map_some, Option.bind_some, List.getElem?_toArray, List.getElem?_cons_zero, List.getElem?_cons_succ,
      runI_nil, i_move, i_assign, i_pick, i_build, i_load, i_store, i_binOp, i_fieldAddr, i_builtin, runI_guard, guardK_ft, stepK_none, stepK_set, putE_some, putE_none, frzD_some, frzD_none, bnd_some, yes_eq, keepE_nil, keepE_cons, cons1_some, List.contains_nil, prim_move, prim_assign, prim_build, prim_load, prim_store, prim_binOp, prim_fieldAddr, prim_len, prim_pick, opnd_tmp, opnd_int, opnd_bool, popnds_nil, nilS_tmp, nilS_int, bin_lss, bin_leq, aget, aset, cond_true, cond_false, decide_true, ↓reduceIte, eq_self,
      reduceCtorEq, Nat.reduceEqDiff, Nat.reduceLT, Nat.reduceLeDiff, Nat.reduceAdd, Nat.one_ne_zero, fieldAddr, rd, V.cells, List.length_cons, List.length_nil, List.take_succ_cons, List.take_zero, List.drop_succ_cons, List.drop_zero, List.drop_nil, List.take_nil, List.set_cons_zero, List.nil_append, List.cons_append, Nat.zero_add, Nat.add_zero, Nat.le_refl, ofCells, K.agg, put1, splice, build, buildFill, V.storable, Bool.true_and, beq_self_eq_true, St_get, frz13, lv13_5, lv13_7, lv13_8, ty3, ty33, ty35, ty39, lenl33, List.length_map, hki, h0, h1, h2, q3, p0lt, Sbox, zC]
end Go.Proofs.YtdCfgT
