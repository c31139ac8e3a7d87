/- The law RunChoices: what it says of its argument. -/
import Derived.Test.YtdofkchhdckomaaRunChoicesA
set_option maxRecDepth 100000
set_option linter.unusedSimpArgs false
set_option linter.unusedVariables false
namespace Go.Proofs.YtdCfgRC
open Go Go.Ilv

theorem loop8 (a b : List V) (hab : a = b) (ha : ∀ x ∈ a, ∃ p q : Int, x = .agg [.int .i64 p, .int .i64 q]) (hlen : a.length ≤ 500) : ∀ (m k : Nat) (s : St), k + m = a.length →
    ∃ e, execL cfg fi8 (sub code8 [1, 1, 0, 1, 0]) [(0, .lit a), (1, .lit b), (5, .int .i64 k)] s = some (.exit 0, e, s) := by
  have hcode : sub code8 [1, 1, 0, 1, 0] = Code.loop (sub code8 [1, 1, 0, 1, 0, 0]) := rfl
  have hbody : sub code8 [1, 1, 0, 1, 0, 0] = Code.seq _ _ := rfl
  intro m
  induction m with
  | zero =>
    intro k s hk
    obtain rfl : k = a.length := by omega
    refine ⟨[(0, .lit a), (1, .lit b), (5, .int .i64 a.length), (14, .bool false)], ?_⟩
    rw [hcode, x_loop, hbody]
    simp only [↓x_seq, ↓x_reg, ↓x_drawK, drawK_t, drawK_f, bumps, makes, goCall, writes, frzOf, List.any_cons, List.any_nil, List.size_toArray, ↓x_cond, ↓x_block, execL_skip, execL_exit, execL_ret, thn_normal, thn_exit, thn_ret, regK_mk, condK_tt, condK_ff, outB_normal, outB_ret, outB_exit, inss, ins, List.toList_toArray, List.map_cons, List.map_nil, Option.map_none, Option.map_some, Option.bind_some, List.getElem?_toArray, List.getElem?_cons_zero, List.getElem?_cons_succ,
      runI_nil, i_move, i_assign, i_pick, i_alloc, i_box, i_build, i_buildSlice, i_load, i_store, i_nilCheck, i_binOp, i_unOp, i_convert, i_makeFunc, i_makeSlice, i_slice, i_fieldAddr, i_field, i_indexAddr, i_index, i_extract, i_builtin, runI_call, runI_guard, guardK_tt, guardK_ff, guardK_tf, guardK_ft, guardK_undef, stepK_none, stepK_set, callK_mk,
      runDI_nil, d_move, d_assign, d_pick, d_alloc, d_box, d_build, d_buildSlice, d_load, d_store, d_nilCheck, d_binOp, d_unOp, d_convert, d_makeFunc, d_makeSlice, d_slice, d_fieldAddr, d_field, d_indexAddr, d_index, d_extract, d_builtin, runDI_call, runDI_guard, guardD_tt, guardD_ff, guardD_tf, guardD_ft, guardD_undef, stepD_none, stepD_set, callD_mk,
      putE_some, putE_none, frzD_some, frzD_none, bnd_some, bnd_none, yes_eq, liveE, keepE, List.filterMap_cons, List.filterMap_nil, List.contains_cons, List.contains_nil, Bool.or_false, Bool.or_true, Bool.false_or,
      prim_move, prim_assign, prim_alloc, prim_box, prim_build, prim_load, prim_store, prim_nilCheck, prim_binOp, prim_unOp, prim_slice, prim_fieldAddr, prim_field, prim_indexAddr, prim_index, prim_extract, prim_len, prim_append, prim_pick, prim_buildSlice,
      opnd_tmp, opnd_int, opnd_bool, opnd_str, opnd_nils, opnd_pnil, opnd_func, opnds_nil, opnds_cons, popnds_nil, popnds_cons, oopnd_none, oopnd_some, nilS_tmp, nilS_int, nilS_bool, nilS_str, nilS_nil, nilS_pnil, bin_eql, bin_neq, bin_lss, bin_leq, bin_gtr, bin_geq, bin_add, bin_sub, bin_mul, bin_quo, bin_rem, bin_seq, un_not, un_neg, aget, aset, aget_aset, aset_aset, cond_true, cond_false, decide_true, decide_false, if_true, if_false, ↓reduceIte, ne_eq, not_false_eq_true, eq_self,
      reduceCtorEq, Nat.reduceEqDiff, Nat.reduceLT, Nat.reduceLeDiff, Nat.reduceBEq, Nat.reduceBNe, Nat.reduceAdd, Nat.reduceMul, Nat.left_eq_add, Nat.add_eq_left, Nat.add_assoc, Nat.add_left_cancel_iff, Nat.one_ne_zero, Nat.add_right_cancel_iff, indexAddr, fieldAddr, rd, Int.natCast_nonneg, Int.toNat_natCast, V.cells, List.length_cons, List.length_nil, List.length_append, List.length_drop, List.length_take, List.length_set, List.take_succ_cons, List.take_zero, List.drop_succ_cons, List.drop_zero, List.drop_nil, List.take_nil, List.set_cons_zero, List.set_cons_succ, List.nil_append, List.cons_append, List.append_nil, Nat.zero_add, Nat.add_zero, Nat.le_refl, ofCells, K.agg, put1, splice, build, buildFill, V.storable, Bool.true_and, Bool.and_true, Bool.and_false, Bool.false_and, Bool.not_true, Bool.not_false, beq_self_eq_true, St_get, partsIn, eqV, eqCells, eqCell, sliceOfRows, List.all_cons, List.all_nil, V.flat, V.norm, V.norm1, elemTy, elems, lenOp, enumE, callI_func, finK_ret, finK_normal, Ilv.results, resV, allSome, frz8, live8, conf8, ty3, ty24, Int.lt_irrefl]
  | succ m ih =>
    intro k s hk
    have hkl : k < a.length := by omega
    have hki : (k : Int) < (a.length : Int) := by omega
    obtain ⟨p, q, hx⟩ := ha a[k] (List.getElem_mem hkl)
    have hk1 : a[k]? = some (.agg [.int .i64 p, .int .i64 q]) := by rw [List.getElem?_eq_getElem hkl, hx]
    have hk2 : b[k]? = some (.agg [.int .i64 p, .int .i64 q]) := by rw [← hab]; exact hk1
    have hw := wrap_next (k := k) (by omega)
    obtain ⟨e, he⟩ := ih (k + 1) s (by omega)
    refine ⟨e, ?_⟩
    rw [hcode, x_loop, ← hcode, hbody]
    simp only [↓x_seq, ↓x_reg, ↓x_drawK, drawK_t, drawK_f, bumps, makes, goCall, writes, frzOf, List.any_cons, List.any_nil, List.size_toArray, ↓x_cond, ↓x_block, execL_skip, execL_exit, execL_ret, thn_normal, thn_exit, thn_ret, regK_mk, condK_tt, condK_ff, outB_normal, outB_ret, outB_exit, inss, ins, List.toList_toArray, List.map_cons, List.map_nil, Option.map_none, Option.map_some, Option.bind_some, List.getElem?_toArray, List.getElem?_cons_zero, List.getElem?_cons_succ,
      runI_nil, i_move, i_assign, i_pick, i_alloc, i_box, i_build, i_buildSlice, i_load, i_store, i_nilCheck, i_binOp, i_unOp, i_convert, i_makeFunc, i_makeSlice, i_slice, i_fieldAddr, i_field, i_indexAddr, i_index, i_extract, i_builtin, runI_call, runI_guard, guardK_tt, guardK_ff, guardK_tf, guardK_ft, guardK_undef, stepK_none, stepK_set, callK_mk,
      runDI_nil, d_move, d_assign, d_pick, d_alloc, d_box, d_build, d_buildSlice, d_load, d_store, d_nilCheck, d_binOp, d_unOp, d_convert, d_makeFunc, d_makeSlice, d_slice, d_fieldAddr, d_field, d_indexAddr, d_index, d_extract, d_builtin, runDI_call, runDI_guard, guardD_tt, guardD_ff, guardD_tf, guardD_ft, guardD_undef, stepD_none, stepD_set, callD_mk,
      putE_some, putE_none, frzD_some, frzD_none, bnd_some, bnd_none, yes_eq, liveE, keepE, List.filterMap_cons, List.filterMap_nil, List.contains_cons, List.contains_nil, Bool.or_false, Bool.or_true, Bool.false_or,
      prim_move, prim_assign, prim_alloc, prim_box, prim_build, prim_load, prim_store, prim_nilCheck, prim_binOp, prim_unOp, prim_slice, prim_fieldAddr, prim_field, prim_indexAddr, prim_index, prim_extract, prim_len, prim_append, prim_pick, prim_buildSlice,
      opnd_tmp, opnd_int, opnd_bool, opnd_str, opnd_nils, opnd_pnil, opnd_func, opnds_nil, opnds_cons, popnds_nil, popnds_cons, oopnd_none, oopnd_some, nilS_tmp, nilS_int, nilS_bool, nilS_str, nilS_nil, nilS_pnil, bin_eql, bin_neq, bin_lss, bin_leq, bin_gtr, bin_geq, bin_add, bin_sub, bin_mul, bin_quo, bin_rem, bin_seq, un_not, un_neg, aget, aset, aget_aset, aset_aset, cond_true, cond_false, decide_true, decide_false, if_true, if_false, ↓reduceIte, ne_eq, not_false_eq_true, eq_self,
      reduceCtorEq, Nat.reduceEqDiff, Nat.reduceLT, Nat.reduceLeDiff, Nat.reduceBEq, Nat.reduceBNe, Nat.reduceAdd, Nat.reduceMul, Nat.left_eq_add, Nat.add_eq_left, Nat.add_assoc, Nat.add_left_cancel_iff, Nat.one_ne_zero, Nat.add_right_cancel_iff, indexAddr, fieldAddr, rd, Int.natCast_nonneg, Int.toNat_natCast, V.cells, List.length_cons, List.length_nil, List.length_append, List.length_drop, List.length_take, List.length_set, List.take_succ_cons, List.take_zero, List.drop_succ_cons, List.drop_zero, List.drop_nil, List.take_nil, List.set_cons_zero, List.set_cons_succ, List.nil_append, List.cons_append, List.append_nil, Nat.zero_add, Nat.add_zero, Nat.le_refl, ofCells, K.agg, put1, splice, build, buildFill, V.storable, Bool.true_and, Bool.and_true, Bool.and_false, Bool.false_and, Bool.not_true, Bool.not_false, beq_self_eq_true, St_get, partsIn, eqV, eqCells, eqCell, sliceOfRows, List.all_cons, List.all_nil, V.flat, V.norm, V.norm1, elemTy, elems, lenOp, enumE, callI_func, finK_ret, finK_normal, Ilv.results, resV, allSome, frz8, live8, conf8, ty3, ty24, ty62, eqs62, hki, hk1, hk2, hw, he]
theorem call8 (a : List V) (ha : ∀ x ∈ a, ∃ p q : Int, x = .agg [.int .i64 p, .int .i64 q]) (hlen : a.length ≤ 500) : ∃ s : St, callL cfg 8 [.lit a, .lit a] St.empty = some (.bool true, s) := by
  obtain ⟨e, he⟩ := loop8 a a rfl ha hlen a.length 0 St.empty (by simp)
  have hs : code8 = .seq (sub code8 [0]) (.seq (.seq (sub code8 [1, 0, 0]) (sub code8 [1, 0, 1])) (.seq (.seq (sub code8 [1, 1, 0, 0]) (.block 0 (sub code8 [1, 1, 0, 1, 0]))) (sub code8 [1, 1, 1]))) := rfl
  have e0 : sub code8 [0] = Code.region _ _ _ := rfl
  have e1 : sub code8 [1, 0, 0] = Code.region _ _ _ := rfl
  have e2 : sub code8 [1, 0, 1] = Code.cond _ _ _ := rfl
  have e3 : sub code8 [1, 1, 0, 0] = Code.region _ _ _ := rfl
  have e4 : sub code8 [1, 1, 1] = Code.seq _ _ := rfl
  have hr : fi8.fn.results.toList = [_] := rfl
  refine ⟨(⟨0, []⟩ : St).killVars 0, ?_⟩
  rw [x_call intr8 fn8 body8, hs]
  simp only [Int.natCast_zero, St.empty] at he
  simp only [↓x_seq, ↓x_reg, ↓x_drawK, drawK_t, drawK_f, bumps, makes, goCall, writes, frzOf, List.any_cons, List.any_nil, List.size_toArray, ↓x_cond, ↓x_block, execL_skip, execL_exit, execL_ret, thn_normal, thn_exit, thn_ret, regK_mk, condK_tt, condK_ff, outB_normal, outB_ret, outB_exit, inss, ins, List.toList_toArray, List.map_cons, List.map_nil, Option.map_none, Option.map_some, Option.bind_some, List.getElem?_toArray, List.getElem?_cons_zero, List.getElem?_cons_succ,
      runI_nil, i_move, i_assign, i_pick, i_alloc, i_box, i_build, i_buildSlice, i_load, i_store, i_nilCheck, i_binOp, i_unOp, i_convert, i_makeFunc, i_makeSlice, i_slice, i_fieldAddr, i_field, i_indexAddr, i_index, i_extract, i_builtin, runI_call, runI_guard, guardK_tt, guardK_ff, guardK_tf, guardK_ft, guardK_undef, stepK_none, stepK_set, callK_mk,
      runDI_nil, d_move, d_assign, d_pick, d_alloc, d_box, d_build, d_buildSlice, d_load, d_store, d_nilCheck, d_binOp, d_unOp, d_convert, d_makeFunc, d_makeSlice, d_slice, d_fieldAddr, d_field, d_indexAddr, d_index, d_extract, d_builtin, runDI_call, runDI_guard, guardD_tt, guardD_ff, guardD_tf, guardD_ft, guardD_undef, stepD_none, stepD_set, callD_mk,
      putE_some, putE_none, frzD_some, frzD_none, bnd_some, bnd_none, yes_eq, liveE, keepE, List.filterMap_cons, List.filterMap_nil, List.contains_cons, List.contains_nil, Bool.or_false, Bool.or_true, Bool.false_or,
      prim_move, prim_assign, prim_alloc, prim_box, prim_build, prim_load, prim_store, prim_nilCheck, prim_binOp, prim_unOp, prim_slice, prim_fieldAddr, prim_field, prim_indexAddr, prim_index, prim_extract, prim_len, prim_append, prim_pick, prim_buildSlice,
      opnd_tmp, opnd_int, opnd_bool, opnd_str, opnd_nils, opnd_pnil, opnd_func, opnds_nil, opnds_cons, popnds_nil, popnds_cons, oopnd_none, oopnd_some, nilS_tmp, nilS_int, nilS_bool, nilS_str, nilS_nil, nilS_pnil, bin_eql, bin_neq, bin_lss, bin_leq, bin_gtr, bin_geq, bin_add, bin_sub, bin_mul, bin_quo, bin_rem, bin_seq, un_not, un_neg, aget, aset, aget_aset, aset_aset, cond_true, cond_false, decide_true, decide_false, if_true, if_false, ↓reduceIte, ne_eq, not_false_eq_true, eq_self,
      reduceCtorEq, Nat.reduceEqDiff, Nat.reduceLT, Nat.reduceLeDiff, Nat.reduceBEq, Nat.reduceBNe, Nat.reduceAdd, Nat.reduceMul, Nat.left_eq_add, Nat.add_eq_left, Nat.add_assoc, Nat.add_left_cancel_iff, Nat.one_ne_zero, Nat.add_right_cancel_iff, indexAddr, fieldAddr, rd, Int.natCast_nonneg, Int.toNat_natCast, V.cells, List.length_cons, List.length_nil, List.length_append, List.length_drop, List.length_take, List.length_set, List.take_succ_cons, List.take_zero, List.drop_succ_cons, List.drop_zero, List.drop_nil, List.take_nil, List.set_cons_zero, List.set_cons_succ, List.nil_append, List.cons_append, List.append_nil, Nat.zero_add, Nat.add_zero, Nat.le_refl, ofCells, K.agg, put1, splice, build, buildFill, V.storable, Bool.true_and, Bool.and_true, Bool.and_false, Bool.false_and, Bool.not_true, Bool.not_false, beq_self_eq_true, St_get, partsIn, eqV, eqCells, eqCell, sliceOfRows, List.all_cons, List.all_nil, V.flat, V.norm, V.norm1, elemTy, elems, lenOp, enumE, callI_func, finK_ret, finK_normal, Ilv.results, resV, allSome, frz8, live8, conf8, e0, e1, e2, e3, e4, St.empty, ty3, ty24, he, keep8, hr]

theorem chVs (xs : List V) (hxs : ∀ x ∈ xs, IsEv x) : (xs.map chRow).map rowV = xs.map chV := by
  rw [List.map_map]
  refine List.map_congr_left fun x hx => ?_
  simp only [Function.comp]
  rw [rowV_agg (by rw [(chRow_len (hxs x hx)).1]; decide)]
  rfl
theorem bares (xs : List V) (hxs : ∀ x ∈ xs, IsEv x) : ∀ r ∈ xs.map chRow, ∀ c ∈ r, c.bare1 = true := by
  intro r hr
  obtain ⟨x, hx, rfl⟩ := List.mem_map.1 hr
  exact (chRow_len (hxs x hx)).2
theorem told9 (xs : List V) (hxs : ∀ x ∈ xs, IsEv x) (hlen : xs.length ≤ 500) (s : St) : callV (callL cfg) true 9 [.lit xs] s = some (.lit (xs.map chV), s) := by
  obtain ⟨v, s', h1, h2⟩ := call9 xs hxs hlen
  have := reify_list (s := s') (n := 37) h2 (bares xs hxs)
  rw [chVs xs hxs] at this
  exact callV_told (by simp [allSome, reify]) h1 this rfl
theorem told10 (xs : List V) (hxs : ∀ x ∈ xs, IsEv x) (hlen : xs.length ≤ 500) (s : St) : callV (callL cfg) true 10 [.lit xs] s = some (.lit (xs.map chV), s) := by
  obtain ⟨v, s', h1, h2⟩ := call10 xs hxs hlen
  have := reify_list (s := s') (n := 37) h2 (bares xs hxs)
  rw [chVs xs hxs] at this
  exact callV_told (by simp [allSome, reify]) h1 this rfl
theorem told8 (xs : List V) (hxs : ∀ x ∈ xs, IsEv x) (hlen : xs.length ≤ 500) (s : St) : callV (callL cfg) true 8 [.lit (xs.map chV), .lit (xs.map chV)] s = some (.bool true, s) := by
  obtain ⟨s', h1⟩ := call8 (xs.map chV) (fun x hx => by
    obtain ⟨y, hy, rfl⟩ := List.mem_map.1 hx
    obtain ⟨a, b, c, d, e, f, g, rfl, _⟩ := hxs y hy
    exact ⟨_, _, rfl⟩) (by simpa using hlen)
  exact callV_told (by simp [allSome, reify]) h1 rfl rfl
/-- The law returns true. -/
theorem law (xs : List V) (hxs : ∀ x ∈ xs, IsEv x) : ∃ s : St, callL cfg 3 [.lit xs] St.empty = some (.bool true, s) := by
  have hs : code3 = .seq (sub code3 [0]) (.seq (.seq (sub code3 [1, 0, 0]) (sub code3 [1, 0, 1])) (sub code3 [1, 1])) := rfl
  have e0 : sub code3 [0] = Code.region _ _ _ := rfl
  have e1 : sub code3 [1, 0, 0] = Code.region _ _ _ := rfl
  have e2 : sub code3 [1, 0, 1] = Code.cond _ _ _ := rfl
  have e3 : sub code3 [1, 1] = Code.seq _ _ := rfl
  have hr : fi3.fn.results.toList = [_] := rfl
  refine ⟨(⟨0, []⟩ : St).killVars 0, ?_⟩
  rw [x_call intr3 fn3 body3, hs]
  by_cases hl : xs.length ≤ 500
  · have h1 : ¬ ((xs.length : Int) > 500) := by omega
    have ev1 : ∀ x ∈ [V.agg [.int .i64 2, .int .i64 18, .int .i64 0, .int .i64 1, .int .i64 0, .lit [], .lit []]], IsEv x := by
      intro x hx
      obtain rfl := List.mem_singleton.1 hx
      exact ⟨_, _, _, _, _, _, _, rfl, rfl, rfl⟩
    have h9 := told9 xs hxs hl
    have h10 := told10 xs hxs hl
    have h8 := told8 xs hxs hl
    have h9' := told9 _ ev1 (by simp)
    simp only [↓x_seq, ↓x_reg, ↓x_drawK, drawK_t, drawK_f, bumps, makes, goCall, writes, frzOf, List.any_cons, List.any_nil, List.size_toArray, ↓x_cond, ↓x_block, execL_skip, execL_exit, execL_ret, thn_normal, thn_exit, thn_ret, regK_mk, condK_tt, condK_ff, outB_normal, outB_ret, outB_exit, inss, ins, List.toList_toArray, List.map_cons, List.map_nil, Option.map_none, Option.map_some, Option.bind_some, List.getElem?_toArray, List.getElem?_cons_zero, List.getElem?_cons_succ,
      runI_nil, i_move, i_assign, i_pick, i_alloc, i_box, i_build, i_buildSlice, i_load, i_store, i_nilCheck, i_binOp, i_unOp, i_convert, i_makeFunc, i_makeSlice, i_slice, i_fieldAddr, i_field, i_indexAddr, i_index, i_extract, i_builtin, runI_call, runI_guard, guardK_tt, guardK_ff, guardK_tf, guardK_ft, guardK_undef, stepK_none, stepK_set, callK_mk,
      runDI_nil, d_move, d_assign, d_pick, d_alloc, d_box, d_build, d_buildSlice, d_load, d_store, d_nilCheck, d_binOp, d_unOp, d_convert, d_makeFunc, d_makeSlice, d_slice, d_fieldAddr, d_field, d_indexAddr, d_index, d_extract, d_builtin, runDI_call, runDI_guard, guardD_tt, guardD_ff, guardD_tf, guardD_ft, guardD_undef, stepD_none, stepD_set, callD_mk,
      putE_some, putE_none, frzD_some, frzD_none, bnd_some, bnd_none, yes_eq, liveE, keepE, List.filterMap_cons, List.filterMap_nil, List.contains_cons, List.contains_nil, Bool.or_false, Bool.or_true, Bool.false_or,
      prim_move, prim_assign, prim_alloc, prim_box, prim_build, prim_load, prim_store, prim_nilCheck, prim_binOp, prim_unOp, prim_slice, prim_fieldAddr, prim_field, prim_indexAddr, prim_index, prim_extract, prim_len, prim_append, prim_pick, prim_buildSlice,
      opnd_tmp, opnd_int, opnd_bool, opnd_str, opnd_nils, opnd_pnil, opnd_func, opnds_nil, opnds_cons, popnds_nil, popnds_cons, oopnd_none, oopnd_some, nilS_tmp, nilS_int, nilS_bool, nilS_str, nilS_nil, nilS_pnil, bin_eql, bin_neq, bin_lss, bin_leq, bin_gtr, bin_geq, bin_add, bin_sub, bin_mul, bin_quo, bin_rem, bin_seq, un_not, un_neg, aget, aset, aget_aset, aset_aset, cond_true, cond_false, decide_true, decide_false, if_true, if_false, ↓reduceIte, ne_eq, not_false_eq_true, eq_self,
      reduceCtorEq, Nat.reduceEqDiff, Nat.reduceLT, Nat.reduceLeDiff, Nat.reduceBEq, Nat.reduceBNe, Nat.reduceAdd, Nat.reduceMul, Nat.left_eq_add, Nat.add_eq_left, Nat.add_assoc, Nat.add_left_cancel_iff, Nat.one_ne_zero, Nat.add_right_cancel_iff, indexAddr, fieldAddr, rd, Int.natCast_nonneg, Int.toNat_natCast, V.cells, List.length_cons, List.length_nil, List.length_append, List.length_drop, List.length_take, List.length_set, List.take_succ_cons, List.take_zero, List.drop_succ_cons, List.drop_zero, List.drop_nil, List.take_nil, List.set_cons_zero, List.set_cons_succ, List.nil_append, List.cons_append, List.append_nil, Nat.zero_add, Nat.add_zero, Nat.le_refl, ofCells, K.agg, put1, splice, build, buildFill, V.storable, Bool.true_and, Bool.and_true, Bool.and_false, Bool.false_and, Bool.not_true, Bool.not_false, beq_self_eq_true, St_get, partsIn, eqV, eqCells, eqCell, sliceOfRows, List.all_cons, List.all_nil, V.flat, V.norm, V.norm1, elemTy, elems, lenOp, enumE, callI_func, finK_ret, finK_normal, Ilv.results, resV, allSome, frz3, live3, conf3, e0, e1, e2, e3, St.empty, ty2, ty3, ty22, ty24, ty26, ty28, h1, keep3, hr, fn8, fn9, fn10, pure8, pure9, pure10, h9, h10, h8, h9']
    rfl
  · have h1 : (xs.length : Int) > 500 := by omega
    simp only [↓x_seq, ↓x_reg, ↓x_drawK, drawK_t, drawK_f, bumps, makes, goCall, writes, frzOf, List.any_cons, List.any_nil, List.size_toArray, ↓x_cond, ↓x_block, execL_skip, execL_exit, execL_ret, thn_normal, thn_exit, thn_ret, regK_mk, condK_tt, condK_ff, outB_normal, outB_ret, outB_exit, inss, ins, List.toList_toArray, List.map_cons, List.map_nil, Option.map_none, Option.map_some, Option.bind_some, List.getElem?_toArray, List.getElem?_cons_zero, List.getElem?_cons_succ,
      runI_nil, i_move, i_assign, i_pick, i_alloc, i_box, i_build, i_buildSlice, i_load, i_store, i_nilCheck, i_binOp, i_unOp, i_convert, i_makeFunc, i_makeSlice, i_slice, i_fieldAddr, i_field, i_indexAddr, i_index, i_extract, i_builtin, runI_call, runI_guard, guardK_tt, guardK_ff, guardK_tf, guardK_ft, guardK_undef, stepK_none, stepK_set, callK_mk,
      runDI_nil, d_move, d_assign, d_pick, d_alloc, d_box, d_build, d_buildSlice, d_load, d_store, d_nilCheck, d_binOp, d_unOp, d_convert, d_makeFunc, d_makeSlice, d_slice, d_fieldAddr, d_field, d_indexAddr, d_index, d_extract, d_builtin, runDI_call, runDI_guard, guardD_tt, guardD_ff, guardD_tf, guardD_ft, guardD_undef, stepD_none, stepD_set, callD_mk,
      putE_some, putE_none, frzD_some, frzD_none, bnd_some, bnd_none, yes_eq, liveE, keepE, List.filterMap_cons, List.filterMap_nil, List.contains_cons, List.contains_nil, Bool.or_false, Bool.or_true, Bool.false_or,
      prim_move, prim_assign, prim_alloc, prim_box, prim_build, prim_load, prim_store, prim_nilCheck, prim_binOp, prim_unOp, prim_slice, prim_fieldAddr, prim_field, prim_indexAddr, prim_index, prim_extract, prim_len, prim_append, prim_pick, prim_buildSlice,
      opnd_tmp, opnd_int, opnd_bool, opnd_str, opnd_nils, opnd_pnil, opnd_func, opnds_nil, opnds_cons, popnds_nil, popnds_cons, oopnd_none, oopnd_some, nilS_tmp, nilS_int, nilS_bool, nilS_str, nilS_nil, nilS_pnil, bin_eql, bin_neq, bin_lss, bin_leq, bin_gtr, bin_geq, bin_add, bin_sub, bin_mul, bin_quo, bin_rem, bin_seq, un_not, un_neg, aget, aset, aget_aset, aset_aset, cond_true, cond_false, decide_true, decide_false, if_true, if_false, ↓reduceIte, ne_eq, not_false_eq_true, eq_self,
      reduceCtorEq, Nat.reduceEqDiff, Nat.reduceLT, Nat.reduceLeDiff, Nat.reduceBEq, Nat.reduceBNe, Nat.reduceAdd, Nat.reduceMul, Nat.left_eq_add, Nat.add_eq_left, Nat.add_assoc, Nat.add_left_cancel_iff, Nat.one_ne_zero, Nat.add_right_cancel_iff, indexAddr, fieldAddr, rd, Int.natCast_nonneg, Int.toNat_natCast, V.cells, List.length_cons, List.length_nil, List.length_append, List.length_drop, List.length_take, List.length_set, List.take_succ_cons, List.take_zero, List.drop_succ_cons, List.drop_zero, List.drop_nil, List.take_nil, List.set_cons_zero, List.set_cons_succ, List.nil_append, List.cons_append, List.append_nil, Nat.zero_add, Nat.add_zero, Nat.le_refl, ofCells, K.agg, put1, splice, build, buildFill, V.storable, Bool.true_and, Bool.and_true, Bool.and_false, Bool.false_and, Bool.not_true, Bool.not_false, beq_self_eq_true, St_get, partsIn, eqV, eqCells, eqCell, sliceOfRows, List.all_cons, List.all_nil, V.flat, V.norm, V.norm1, elemTy, elems, lenOp, enumE, callI_func, finK_ret, finK_normal, Ilv.results, resV, allSome, frz3, live3, conf3, e0, e1, e2, e3, St.empty, ty3, ty22, h1, keep3, hr]
theorem shape22 : shOf cfg 6 22 = some (.slice (.agg [.int .i64, .int .i64, .int .i64, .int .i64, .int .i64, .slice (.int .i64), .slice (.int .i64)])) := by rfl
theorem leaf_wf {k : IntKind} {v : V} (h : Sh.Wf (.int k) v) : ∃ n, v = .int k n := by cases v <;> simp [Sh.Wf] at h; exact ⟨_, by rw [h.1]⟩
theorem ev_wf {x : V} (h : Sh.Wf (.agg [.int .i64, .int .i64, .int .i64, .int .i64, .int .i64, .slice (.int .i64), .slice (.int .i64)]) x) : IsEv x := by
  cases x <;> simp only [Sh.Wf] at h
  rename_i cs
  have hl := h.len
  match cs, hl, h with
  | [a, b, c, d, e, f, g], _, h =>
    simp only [Sh.WfL] at h
    obtain ⟨_, h1, _, h2, _, h3, _, h4, _, h5, h6, h7, h8, h9, _⟩ := h
    obtain ⟨a, rfl⟩ := leaf_wf h1
    obtain ⟨b, rfl⟩ := leaf_wf h2
    obtain ⟨c, rfl⟩ := leaf_wf h3
    obtain ⟨d, rfl⟩ := leaf_wf h4
    obtain ⟨e, rfl⟩ := leaf_wf h5
    exact ⟨a, b, c, d, e, f, g, rfl, (h7.leaf h6).1, (h9.leaf h8).1⟩
theorem law_wf (x : V) (h : Sh.Wf (.slice (.agg [.int .i64, .int .i64, .int .i64, .int .i64, .int .i64, .slice (.int .i64), .slice (.int .i64)])) x) : ∃ s : St, callL cfg 3 [x] St.empty = some (.bool true, s) := by
  cases x <;> simp only [Sh.Wf] at h
  exact law _ fun x hx => ev_wf (h.2 x hx)
end Go.Proofs.YtdCfgRC
