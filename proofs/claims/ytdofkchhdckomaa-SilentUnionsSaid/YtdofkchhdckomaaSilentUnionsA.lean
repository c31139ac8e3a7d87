/- silent.Union: the sorted list of the numbers of both lists, each once. -/
import Derived.Test.YtdofkchhdckomaaYtdCfgU
import Derived.Test.YtdofkchhdckomaaUniLaw
set_option maxRecDepth 100000
set_option linter.unusedSimpArgs false
set_option linter.unusedVariables false
namespace Go.Proofs.YtdCfgU
open Go Go.Ilv
def iV (n : Int) : V := .int .i64 n
def lits (zs : List Int) : V := .lit (zs.map iV)
theorem lits_len (zs : List Int) : (zs.map iV).length = zs.length := List.length_map ..
theorem app1 {zs : List Int} {rows : List (List V)} {ver id n k : Nat} (hk : k = rows.length) (hr : roomOk (rows.length + zs.length) 8 = true) :
    appendOp cfg false ⟨n, [(0, ⟨1, ver, false, rows⟩)]⟩ id 3 (.ref 0 ver 1 0 k) (.lit (zs.map iV)) = some (.ref 0 (ver + 1) 1 0 (rows.length + zs.length), .set 0 ⟨1, ver + 1, false, rows ++ zs.map intRow⟩) := by
  subst hk
  have h1 : (zs.map iV).all (fun v => v.storable && decide (v.cells.length = 1)) = true := by simp [iV, V.storable, V.cells]
  have h2 : (zs.map iV).map V.cells = zs.map intRow := by simp [iV, V.cells, intRow]
  simp only [appendOp, ty3, elems, St.get, aget, if_true, Nat.one_ne_zero, if_false, Bool.false_eq_true, List.length_map, hr, h1, h2, Nat.zero_add, Nat.le_refl, and_self, List.drop_zero, List.take_length]
theorem app0 {zs : List Int} {id : Nat} {s : St} (hz : zs = []) : appendOp cfg false s id 3 .nils (.lit (zs.map iV)) = some (.nils, .none) := by
  subst hz
  simp only [appendOp, ty3, elems, List.map_nil, List.isEmpty_nil, if_true, Nat.one_ne_zero, if_false]
theorem grow1 {n : Nat} (h : 0 < n) (h2 : n ≤ 1000000) (m : Nat) (l : List (Nat × Ilv.Obj)) : intrGrow 1 8 [.nils, .int .i64 n] ⟨m, l⟩ = some (.ref m 0 1 0 0, ⟨m + 1, aset l m ⟨1, 0, false, []⟩⟩) := by
  have h3 : ¬ ((n : Int) = 0) := by omega
  have h4 : (0 < (n : Int) ∧ (n : Int).toNat * 8 ≤ 140737488355328 ∧ (n : Int).toNat ≤ 4611686018427387904 ∧ 0 < 1) := by refine ⟨by omega, ?_, ?_, by decide⟩ <;> simp <;> omega
  simp only [intrGrow, h3, h4, if_false, if_true, and_self]
theorem wrapN {k : Nat} (h : k ≤ 1000000) : IntKind.i64.wrap (k : Int) = (k : Int) := wrap_pos .i64 k (by simp only [mxK]; omega)
theorem wl0 : IntKind.i64.wrap 0 = 0 := by decide
theorem wl1 : IntKind.i64.wrap 1 = 1 := by decide
theorem wl2 : IntKind.i64.wrap 2 = 2 := by decide
theorem wl3 : IntKind.i64.wrap 3 = 3 := by decide
theorem concat_eq (xs ys : List Int) (h0 : 0 < xs.length + ys.length) (h : xs.length + ys.length ≤ 1000000) :
    callL cfg 20 [.lit [lits xs, lits ys]] St.empty = some (.ref 0 2 1 0 (xs.length + ys.length), ⟨1, [(0, ⟨1, 2, false, (xs ++ ys).map intRow⟩)]⟩) := by
  have hs : code20 = Code.seq _ _ := rfl
  have hr : fi20.fn.results.toList = [_] := rfl
  have w1 := wrapN (k := xs.length) (by omega)
  have w2 := wrapN (k := xs.length + ys.length) (by omega)
  have n1 : ¬ ((xs.length : Int) < 0) := by omega
  have n2 : ¬ (((xs.length + ys.length : Nat) : Int) < 0) := by omega
  have e1 : (xs.length : Int) + (ys.length : Int) = ((xs.length + ys.length : Nat) : Int) := by omega
  have g := grow1 h0 h
  have room : ∀ n : Nat, n ≤ 1000000 → roomOk n 8 = true := fun n hn => by simp only [roomOk, Bool.and_eq_true, decide_eq_true_eq]; omega
  have a1 := app1 (zs := xs) (rows := []) (ver := 0) (id := 1) (n := 1) (k := 0) rfl (by simp only [List.length_nil, Nat.zero_add]; exact room _ (by omega))
  have a2 := app1 (zs := ys) (rows := xs.map intRow) (ver := 1) (id := 1) (n := 1) (k := xs.length) (by simp) (by rw [List.length_map]; exact room _ h)
  simp only [List.length_nil, Nat.zero_add, List.nil_append, List.length_map, ← List.map_append] at a1 a2
  rw [call20, hs]
  simp only [↓x_seq, ↓x_reg, ↓x_drawK, drawK_t, drawK_f, bumps, makes, goCall, writes, frzOf, List.any_cons, List.any_nil, List.size_toArray, ↓x_cond, ↓x_block, execL_skip, execL_exit, execL_ret, thn_normal, thn_exit, thn_ret, regK_mk, condK_tt, condK_ff, outB_normal, outB_ret, outB_exit, inss, ins, List.toList_toArray, List.map_cons, List.map_nil, Option.map_none, Option.map_some, Option.bind_some, List.getElem?_toArray, List.getElem?_cons_zero, List.getElem?_cons_succ,
      runI_nil, i_move, i_assign, i_pick, i_alloc, i_box, i_build, i_buildSlice, i_load, i_store, i_nilCheck, i_binOp, i_unOp, i_convert, i_makeFunc, i_makeSlice, i_slice, i_fieldAddr, i_field, i_indexAddr, i_index, i_extract, i_builtin, runI_call, runI_guard, guardK_tt, guardK_ff, guardK_tf, guardK_ft, guardK_undef, stepK_none, stepK_set, callK_mk,
      runDI_nil, d_move, d_assign, d_pick, d_alloc, d_box, d_build, d_buildSlice, d_load, d_store, d_nilCheck, d_binOp, d_unOp, d_convert, d_makeFunc, d_makeSlice, d_slice, d_fieldAddr, d_field, d_indexAddr, d_index, d_extract, d_builtin, runDI_call, runDI_guard, guardD_tt, guardD_ff, guardD_tf, guardD_ft, guardD_undef, stepD_none, stepD_set, callD_mk,
      putE_some, putE_none, frzD_some, frzD_none, bnd_some, bnd_none, yes_eq, liveE, keepE, List.filterMap_cons, List.filterMap_nil, List.contains_cons, List.contains_nil, Bool.or_false, Bool.or_true, Bool.false_or,
      prim_move, prim_assign, prim_alloc, prim_box, prim_build, prim_load, prim_store, prim_nilCheck, prim_binOp, prim_unOp, prim_slice, prim_fieldAddr, prim_field, prim_indexAddr, prim_index, prim_extract, prim_len, prim_append, prim_pick, prim_buildSlice, prim_buildSlice0, prim_makeSlice, mkS, roomOk, List.replicate_succ, List.replicate_zero, Nat.zero_mul, Nat.zero_le, true_and, and_true,
      opnd_tmp, opnd_int, opnd_bool, opnd_str, opnd_nils, opnd_pnil, opnd_func, opnds_nil, opnds_cons, popnds_nil, popnds_cons, oopnd_none, oopnd_some, nilS_tmp, nilS_int, nilS_bool, nilS_str, nilS_nil, nilS_pnil, bin_eql, bin_neq, bin_lss, bin_leq, bin_gtr, bin_geq, bin_add, bin_sub, bin_mul, bin_quo, bin_rem, bin_seq, un_not, un_neg, aget, aset, aget_aset, aset_aset, cond_true, cond_false, decide_true, decide_false, if_true, if_false, ↓reduceIte, ne_eq, not_false_eq_true, eq_self,
      reduceCtorEq, Nat.reduceEqDiff, Nat.reduceLT, Nat.reduceLeDiff, Nat.reduceBEq, Nat.reduceBNe, Nat.reduceAdd, Nat.reduceMul, Nat.left_eq_add, Nat.add_eq_left, Nat.add_assoc, Nat.add_left_cancel_iff, Nat.one_ne_zero, Nat.add_right_cancel_iff, indexAddr, fieldAddr, rd, Int.natCast_nonneg, Int.toNat_natCast, V.cells, List.length_cons, List.length_nil, List.length_append, List.length_drop, List.length_take, List.length_set, List.take_succ_cons, List.take_zero, List.drop_succ_cons, List.drop_zero, List.drop_nil, List.take_nil, List.set_cons_zero, List.set_cons_succ, List.nil_append, List.cons_append, List.append_nil, Nat.zero_add, Nat.add_zero, Nat.le_refl, ofCells, K.agg, put1, splice, build, buildFill, V.storable, Bool.true_and, Bool.and_true, Bool.and_false, Bool.false_and, Bool.not_true, Bool.not_false, beq_self_eq_true, St_get, partsIn, eqV, eqCells, eqCell, sliceOfRows, List.all_cons, List.all_nil, V.flat, V.norm, V.norm1, elemTy, elems, lenOp, enumE, callI_func, callI_tmp, callF_fn, prim_makeFunc, finK_ret, finK_normal, Ilv.results, resV, all_nil, all_cons, rf_int, rf_bool, rf_str, rf_lit, rf_nils, rf_pnil, rf_agg, rf_tup, rf_ref, V.scalar, V.scalar1, V.bare, Bool.true_or, Bool.or_false, x_loop, frz20, live20, conf20, ty3, ty4, ty26, ty37, ty82, St.killVars, St.kills, List.filter_cons, List.filter_nil, Int.natCast_zero, Int.cast_ofNat_Int, Int.reduceEq, Int.reduceNe, Int.reduceLT, Int.reduceLE, Int.reduceGT, Int.reduceGE, Int.reduceAdd, Int.reduceSub, Int.reduceNeg, Int.reduceMul, Int.reduceToNat, Int.reduceMod, Int.reducePow, Nat.reducePow, Nat.reduceSub, decide_not, Int.reduceBEq, List.getElem?_nil, ge_iff_le, gt_iff_lt, wl0, wl1, wl2, wl3, lits, St.empty, fn30, pure30, call30, callV_f, lits_len, w1, w2, n1, n2, e1, g, hr, keep20, Eff.on, St.set, a1, a2, Int.zero_add]
theorem concat_nil : callL cfg 20 [.lit [lits [], lits []]] St.empty = some (.nils, St.empty) := by
  have hs : code20 = Code.seq _ _ := rfl
  have hr : fi20.fn.results.toList = [_] := rfl
  have a0 : ∀ (s : St) (id : Nat), appendOp cfg false s id 3 .nils (.lit []) = some (.nils, .none) := fun s id => app0 (zs := []) rfl
  have g0 : ∀ (s : St), intrGrow 1 8 [.nils, .int .i64 0] s = some (.nils, s) := fun s => rfl
  rw [call20, hs]
  simp only [↓x_seq, ↓x_reg, ↓x_drawK, drawK_t, drawK_f, bumps, makes, goCall, writes, frzOf, List.any_cons, List.any_nil, List.size_toArray, ↓x_cond, ↓x_block, execL_skip, execL_exit, execL_ret, thn_normal, thn_exit, thn_ret, regK_mk, condK_tt, condK_ff, outB_normal, outB_ret, outB_exit, inss, ins, List.toList_toArray, List.map_cons, List.map_nil, Option.map_none, Option.map_some, Option.bind_some, List.getElem?_toArray, List.getElem?_cons_zero, List.getElem?_cons_succ,
      runI_nil, i_move, i_assign, i_pick, i_alloc, i_box, i_build, i_buildSlice, i_load, i_store, i_nilCheck, i_binOp, i_unOp, i_convert, i_makeFunc, i_makeSlice, i_slice, i_fieldAddr, i_field, i_indexAddr, i_index, i_extract, i_builtin, runI_call, runI_guard, guardK_tt, guardK_ff, guardK_tf, guardK_ft, guardK_undef, stepK_none, stepK_set, callK_mk,
      runDI_nil, d_move, d_assign, d_pick, d_alloc, d_box, d_build, d_buildSlice, d_load, d_store, d_nilCheck, d_binOp, d_unOp, d_convert, d_makeFunc, d_makeSlice, d_slice, d_fieldAddr, d_field, d_indexAddr, d_index, d_extract, d_builtin, runDI_call, runDI_guard, guardD_tt, guardD_ff, guardD_tf, guardD_ft, guardD_undef, stepD_none, stepD_set, callD_mk,
      putE_some, putE_none, frzD_some, frzD_none, bnd_some, bnd_none, yes_eq, liveE, keepE, List.filterMap_cons, List.filterMap_nil, List.contains_cons, List.contains_nil, Bool.or_false, Bool.or_true, Bool.false_or,
      prim_move, prim_assign, prim_alloc, prim_box, prim_build, prim_load, prim_store, prim_nilCheck, prim_binOp, prim_unOp, prim_slice, prim_fieldAddr, prim_field, prim_indexAddr, prim_index, prim_extract, prim_len, prim_append, prim_pick, prim_buildSlice, prim_buildSlice0, prim_makeSlice, mkS, roomOk, List.replicate_succ, List.replicate_zero, Nat.zero_mul, Nat.zero_le, true_and, and_true,
      opnd_tmp, opnd_int, opnd_bool, opnd_str, opnd_nils, opnd_pnil, opnd_func, opnds_nil, opnds_cons, popnds_nil, popnds_cons, oopnd_none, oopnd_some, nilS_tmp, nilS_int, nilS_bool, nilS_str, nilS_nil, nilS_pnil, bin_eql, bin_neq, bin_lss, bin_leq, bin_gtr, bin_geq, bin_add, bin_sub, bin_mul, bin_quo, bin_rem, bin_seq, un_not, un_neg, aget, aset, aget_aset, aset_aset, cond_true, cond_false, decide_true, decide_false, if_true, if_false, ↓reduceIte, ne_eq, not_false_eq_true, eq_self,
      reduceCtorEq, Nat.reduceEqDiff, Nat.reduceLT, Nat.reduceLeDiff, Nat.reduceBEq, Nat.reduceBNe, Nat.reduceAdd, Nat.reduceMul, Nat.left_eq_add, Nat.add_eq_left, Nat.add_assoc, Nat.add_left_cancel_iff, Nat.one_ne_zero, Nat.add_right_cancel_iff, indexAddr, fieldAddr, rd, Int.natCast_nonneg, Int.toNat_natCast, V.cells, List.length_cons, List.length_nil, List.length_append, List.length_drop, List.length_take, List.length_set, List.take_succ_cons, List.take_zero, List.drop_succ_cons, List.drop_zero, List.drop_nil, List.take_nil, List.set_cons_zero, List.set_cons_succ, List.nil_append, List.cons_append, List.append_nil, Nat.zero_add, Nat.add_zero, Nat.le_refl, ofCells, K.agg, put1, splice, build, buildFill, V.storable, Bool.true_and, Bool.and_true, Bool.and_false, Bool.false_and, Bool.not_true, Bool.not_false, beq_self_eq_true, St_get, partsIn, eqV, eqCells, eqCell, sliceOfRows, List.all_cons, List.all_nil, V.flat, V.norm, V.norm1, elemTy, elems, lenOp, enumE, callI_func, callI_tmp, callF_fn, prim_makeFunc, finK_ret, finK_normal, Ilv.results, resV, all_nil, all_cons, rf_int, rf_bool, rf_str, rf_lit, rf_nils, rf_pnil, rf_agg, rf_tup, rf_ref, V.scalar, V.scalar1, V.bare, Bool.true_or, Bool.or_false, x_loop, frz20, live20, conf20, ty3, ty4, ty26, ty37, ty82, St.killVars, St.kills, List.filter_cons, List.filter_nil, Int.natCast_zero, Int.cast_ofNat_Int, Int.reduceEq, Int.reduceNe, Int.reduceLT, Int.reduceLE, Int.reduceGT, Int.reduceGE, Int.reduceAdd, Int.reduceSub, Int.reduceNeg, Int.reduceMul, Int.reduceToNat, Int.reduceMod, Int.reducePow, Nat.reducePow, Nat.reduceSub, decide_not, Int.reduceBEq, List.getElem?_nil, ge_iff_le, gt_iff_lt, wl0, wl1, wl2, wl3, lits, St.empty, fn30, pure30, call30, callV_f, g0, hr, keep20, Eff.on, St.set, a0, Int.zero_add]

theorem compact_le (zs : List Int) : (Go.Lib.compact zs).length ≤ zs.length := by
  unfold Go.Lib.compact Go.Lib.compactUpTo
  rw [List.length_map]
  exact Nat.le_trans (List.length_filter_le _ _) (by simp)
theorem sort1 {zs : List Int} (h0 : 0 < zs.length) (h : zs.length ≤ 1000000) : intrSort [.ref 0 2 1 0 zs.length] ⟨1, [(0, ⟨1, 2, false, zs.map intRow⟩)]⟩ = some (.tup [], ⟨1, [(0, ⟨1, 2, false, (sortZ zs).map intRow⟩)]⟩) := by
  have h1 : (0 + zs.length ≤ zs.length ∧ zs.length < 4611686018427387904) := ⟨by omega, by omega⟩
  have h2 : ¬ zs.length = 0 := by omega
  have h3 : List.take zs.length (zs.map intRow) = zs.map intRow := by rw [← List.length_map (f := intRow), List.take_length]
  have h4 : List.drop (0 + zs.length) (zs.map intRow) = [] := by rw [Nat.zero_add, ← List.length_map (f := intRow), List.drop_length]
  simp only [intrSort, St.get, aget, if_true, List.length_map, h1, and_self, List.drop_zero, h3, intsOf_of, h2, if_false, St.set, aset, List.take_zero, List.nil_append, h4, List.append_nil]
theorem compact1 {zs : List Int} (h0 : 0 < zs.length) (h : zs.length ≤ 1000000) : intrCompact Go.Lib.compact [.ref 0 2 1 0 zs.length] ⟨1, [(0, ⟨1, 2, false, zs.map intRow⟩)]⟩ =
    some (.ref 0 2 1 0 (Go.Lib.compact zs).length, ⟨1, [(0, ⟨1, 2, false, (Go.Lib.compact zs ++ List.replicate (zs.length - (Go.Lib.compact zs).length) 0).map intRow⟩)]⟩) := by
  have h1 : (0 + zs.length ≤ zs.length ∧ zs.length ≤ 9223372036854775807) := ⟨by omega, by omega⟩
  have h2 : ¬ zs.length = 0 := by omega
  have h3 : List.take zs.length (zs.map intRow) = zs.map intRow := by rw [← List.length_map (f := intRow), List.take_length]
  have h4 : List.drop (0 + zs.length) (zs.map intRow) = [] := by rw [Nat.zero_add, ← List.length_map (f := intRow), List.drop_length]
  simp only [intrCompact, St.get, aget, if_true, List.length_map, h1, and_self, List.drop_zero, h3, intsOf_of, h2, if_false, St.set, aset, List.take_zero, List.nil_append, h4, List.append_nil, compact_le]
theorem reify1 (cs ds : List Int) (n ver : Nat) : reify ⟨n, [(0, ⟨1, ver, false, (cs ++ ds).map intRow⟩)]⟩ 40 (.ref 0 ver 1 0 cs.length) = some (lits cs) := by
  have h1 : 0 + cs.length ≤ cs.length + ds.length := by omega
  have h2 : (List.take cs.length ((cs ++ ds).map intRow)).map rowV = cs.map iV := by
    rw [List.map_append, List.take_left' (by simp), List.map_map]
    exact List.map_congr_left fun z _ => rfl
  have h3 : allSome (reify ⟨n, [(0, ⟨1, ver, false, (cs ++ ds).map intRow⟩)]⟩ 39) (cs.map iV) = some (cs.map iV) := allSome_id fun x hx => by
    obtain ⟨z, _, rfl⟩ := List.mem_map.1 hx
    rfl
  rw [rf_ref]
  simp only [elems, St.get, aget, if_true, List.length_map, List.length_append, h1, List.drop_zero, h2, bnd_some, h3, lits]
theorem union_eq (xs ys : List Int) (h : xs.length + ys.length ≤ 1000000) : ∃ r s', callL cfg 11 [lits xs, lits ys] St.empty = some (r, s') ∧ reify s' 40 r = some (lits (uni xs ys)) := by
  have hs : code11 = Code.seq _ _ := rfl
  have hr : fi11.fn.results.toList = [_] := rfl
  rcases Nat.eq_zero_or_pos (xs.length + ys.length) with h0 | h0
  · obtain rfl : xs = [] := List.length_eq_zero_iff.1 (by omega)
    obtain rfl : ys = [] := List.length_eq_zero_iff.1 (by omega)
    have u0 : uni [] [] = [] := by simp [uni, sortZ, Go.Lib.compact, Go.Lib.compactUpTo]
    refine ⟨.nils, St.empty, ?_, by rw [u0]; rfl⟩
    have c := concat_nil
    have i1 : intrSort [.nils] St.empty = some (.tup [], St.empty) := rfl
    have i2 : intrCompact Go.Lib.compact [.nils] St.empty = some (.nils, St.empty) := rfl
    simp only [lits, List.map_nil, St.empty] at c i1 i2 ⊢
    rw [call11, hs]
    simp only [↓x_seq, ↓x_reg, ↓x_drawK, drawK_t, drawK_f, bumps, makes, goCall, writes, frzOf, List.any_cons, List.any_nil, List.size_toArray, ↓x_cond, ↓x_block, execL_skip, execL_exit, execL_ret, thn_normal, thn_exit, thn_ret, regK_mk, condK_tt, condK_ff, outB_normal, outB_ret, outB_exit, inss, ins, List.toList_toArray, List.map_cons, List.map_nil, Option.map_none, Option.map_some, Option.bind_some, List.getElem?_toArray, List.getElem?_cons_zero, List.getElem?_cons_succ,
      runI_nil, i_move, i_assign, i_pick, i_alloc, i_box, i_build, i_buildSlice, i_load, i_store, i_nilCheck, i_binOp, i_unOp, i_convert, i_makeFunc, i_makeSlice, i_slice, i_fieldAddr, i_field, i_indexAddr, i_index, i_extract, i_builtin, runI_call, runI_guard, guardK_tt, guardK_ff, guardK_tf, guardK_ft, guardK_undef, stepK_none, stepK_set, callK_mk,
      runDI_nil, d_move, d_assign, d_pick, d_alloc, d_box, d_build, d_buildSlice, d_load, d_store, d_nilCheck, d_binOp, d_unOp, d_convert, d_makeFunc, d_makeSlice, d_slice, d_fieldAddr, d_field, d_indexAddr, d_index, d_extract, d_builtin, runDI_call, runDI_guard, guardD_tt, guardD_ff, guardD_tf, guardD_ft, guardD_undef, stepD_none, stepD_set, callD_mk,
      putE_some, putE_none, frzD_some, frzD_none, bnd_some, bnd_none, yes_eq, liveE, keepE, List.filterMap_cons, List.filterMap_nil, List.contains_cons, List.contains_nil, Bool.or_false, Bool.or_true, Bool.false_or,
      prim_move, prim_assign, prim_alloc, prim_box, prim_build, prim_load, prim_store, prim_nilCheck, prim_binOp, prim_unOp, prim_slice, prim_fieldAddr, prim_field, prim_indexAddr, prim_index, prim_extract, prim_len, prim_append, prim_pick, prim_buildSlice, prim_buildSlice0, prim_makeSlice, mkS, roomOk, List.replicate_succ, List.replicate_zero, Nat.zero_mul, Nat.zero_le, true_and, and_true,
      opnd_tmp, opnd_int, opnd_bool, opnd_str, opnd_nils, opnd_pnil, opnd_func, opnds_nil, opnds_cons, popnds_nil, popnds_cons, oopnd_none, oopnd_some, nilS_tmp, nilS_int, nilS_bool, nilS_str, nilS_nil, nilS_pnil, bin_eql, bin_neq, bin_lss, bin_leq, bin_gtr, bin_geq, bin_add, bin_sub, bin_mul, bin_quo, bin_rem, bin_seq, un_not, un_neg, aget, aset, aget_aset, aset_aset, cond_true, cond_false, decide_true, decide_false, if_true, if_false, ↓reduceIte, ne_eq, not_false_eq_true, eq_self,
      reduceCtorEq, Nat.reduceEqDiff, Nat.reduceLT, Nat.reduceLeDiff, Nat.reduceBEq, Nat.reduceBNe, Nat.reduceAdd, Nat.reduceMul, Nat.left_eq_add, Nat.add_eq_left, Nat.add_assoc, Nat.add_left_cancel_iff, Nat.one_ne_zero, Nat.add_right_cancel_iff, indexAddr, fieldAddr, rd, Int.natCast_nonneg, Int.toNat_natCast, V.cells, List.length_cons, List.length_nil, List.length_append, List.length_drop, List.length_take, List.length_set, List.take_succ_cons, List.take_zero, List.drop_succ_cons, List.drop_zero, List.drop_nil, List.take_nil, List.set_cons_zero, List.set_cons_succ, List.nil_append, List.cons_append, List.append_nil, Nat.zero_add, Nat.add_zero, Nat.le_refl, ofCells, K.agg, put1, splice, build, buildFill, V.storable, Bool.true_and, Bool.and_true, Bool.and_false, Bool.false_and, Bool.not_true, Bool.not_false, beq_self_eq_true, St_get, partsIn, eqV, eqCells, eqCell, sliceOfRows, List.all_cons, List.all_nil, V.flat, V.norm, V.norm1, elemTy, elems, lenOp, enumE, callI_func, callI_tmp, callF_fn, prim_makeFunc, finK_ret, finK_normal, Ilv.results, resV, all_nil, all_cons, rf_int, rf_bool, rf_str, rf_lit, rf_nils, rf_pnil, rf_agg, rf_tup, rf_ref, V.scalar, V.scalar1, V.bare, Bool.true_or, Bool.or_false, frz11, live11, conf11, ty3, ty4, ty26, ty37, ty82, St.killVars, St.kills, List.filter_cons, List.filter_nil, Int.natCast_zero, Int.cast_ofNat_Int, Int.reduceEq, Int.reduceNe, Int.reduceLT, Int.reduceLE, Int.reduceGT, Int.reduceGE, Int.reduceAdd, Int.reduceSub, Int.reduceNeg, Int.reduceMul, Int.reduceToNat, Int.reduceMod, Int.reducePow, Nat.reducePow, Nat.reduceSub, decide_not, Int.reduceBEq, List.getElem?_nil, ge_iff_le, gt_iff_lt, lits, St.empty, fn20, pure20, fn21, pure21, call21, fn22, pure22, call22, callV_f, c, hr, keep11, Eff.on, St.set, i1, i2]
  · have c := concat_eq xs ys h0 h
    have hl : (xs ++ ys).length = xs.length + ys.length := List.length_append
    have hl2 : (sortZ (xs ++ ys)).length = xs.length + ys.length := by simp [sortZ]
    have i1 := sort1 (zs := xs ++ ys) (by omega) (by omega)
    have i2 := compact1 (zs := sortZ (xs ++ ys)) (by omega) (by omega)
    rw [hl] at i1
    rw [hl2] at i2
    refine ⟨_, _, ?_, reify1 (uni xs ys) (List.replicate (xs.length + ys.length - (uni xs ys).length) 0) 1 2⟩
    simp only [lits, St.empty] at c ⊢
    rw [call11, hs]
    simp only [↓x_seq, ↓x_reg, ↓x_drawK, drawK_t, drawK_f, bumps, makes, goCall, writes, frzOf, List.any_cons, List.any_nil, List.size_toArray, ↓x_cond, ↓x_block, execL_skip, execL_exit, execL_ret, thn_normal, thn_exit, thn_ret, regK_mk, condK_tt, condK_ff, outB_normal, outB_ret, outB_exit, inss, ins, List.toList_toArray, List.map_cons, List.map_nil, Option.map_none, Option.map_some, Option.bind_some, List.getElem?_toArray, List.getElem?_cons_zero, List.getElem?_cons_succ,
      runI_nil, i_move, i_assign, i_pick, i_alloc, i_box, i_build, i_buildSlice, i_load, i_store, i_nilCheck, i_binOp, i_unOp, i_convert, i_makeFunc, i_makeSlice, i_slice, i_fieldAddr, i_field, i_indexAddr, i_index, i_extract, i_builtin, runI_call, runI_guard, guardK_tt, guardK_ff, guardK_tf, guardK_ft, guardK_undef, stepK_none, stepK_set, callK_mk,
      runDI_nil, d_move, d_assign, d_pick, d_alloc, d_box, d_build, d_buildSlice, d_load, d_store, d_nilCheck, d_binOp, d_unOp, d_convert, d_makeFunc, d_makeSlice, d_slice, d_fieldAddr, d_field, d_indexAddr, d_index, d_extract, d_builtin, runDI_call, runDI_guard, guardD_tt, guardD_ff, guardD_tf, guardD_ft, guardD_undef, stepD_none, stepD_set, callD_mk,
      putE_some, putE_none, frzD_some, frzD_none, bnd_some, bnd_none, yes_eq, liveE, keepE, List.filterMap_cons, List.filterMap_nil, List.contains_cons, List.contains_nil, Bool.or_false, Bool.or_true, Bool.false_or,
      prim_move, prim_assign, prim_alloc, prim_box, prim_build, prim_load, prim_store, prim_nilCheck, prim_binOp, prim_unOp, prim_slice, prim_fieldAddr, prim_field, prim_indexAddr, prim_index, prim_extract, prim_len, prim_append, prim_pick, prim_buildSlice, prim_buildSlice0, prim_makeSlice, mkS, roomOk, List.replicate_succ, List.replicate_zero, Nat.zero_mul, Nat.zero_le, true_and, and_true,
      opnd_tmp, opnd_int, opnd_bool, opnd_str, opnd_nils, opnd_pnil, opnd_func, opnds_nil, opnds_cons, popnds_nil, popnds_cons, oopnd_none, oopnd_some, nilS_tmp, nilS_int, nilS_bool, nilS_str, nilS_nil, nilS_pnil, bin_eql, bin_neq, bin_lss, bin_leq, bin_gtr, bin_geq, bin_add, bin_sub, bin_mul, bin_quo, bin_rem, bin_seq, un_not, un_neg, aget, aset, aget_aset, aset_aset, cond_true, cond_false, decide_true, decide_false, if_true, if_false, ↓reduceIte, ne_eq, not_false_eq_true, eq_self,
      reduceCtorEq, Nat.reduceEqDiff, Nat.reduceLT, Nat.reduceLeDiff, Nat.reduceBEq, Nat.reduceBNe, Nat.reduceAdd, Nat.reduceMul, Nat.left_eq_add, Nat.add_eq_left, Nat.add_assoc, Nat.add_left_cancel_iff, Nat.one_ne_zero, Nat.add_right_cancel_iff, indexAddr, fieldAddr, rd, Int.natCast_nonneg, Int.toNat_natCast, V.cells, List.length_cons, List.length_nil, List.length_append, List.length_drop, List.length_take, List.length_set, List.take_succ_cons, List.take_zero, List.drop_succ_cons, List.drop_zero, List.drop_nil, List.take_nil, List.set_cons_zero, List.set_cons_succ, List.nil_append, List.cons_append, List.append_nil, Nat.zero_add, Nat.add_zero, Nat.le_refl, ofCells, K.agg, put1, splice, build, buildFill, V.storable, Bool.true_and, Bool.and_true, Bool.and_false, Bool.false_and, Bool.not_true, Bool.not_false, beq_self_eq_true, St_get, partsIn, eqV, eqCells, eqCell, sliceOfRows, List.all_cons, List.all_nil, V.flat, V.norm, V.norm1, elemTy, elems, lenOp, enumE, callI_func, callI_tmp, callF_fn, prim_makeFunc, finK_ret, finK_normal, Ilv.results, resV, all_nil, all_cons, rf_int, rf_bool, rf_str, rf_lit, rf_nils, rf_pnil, rf_agg, rf_tup, rf_ref, V.scalar, V.scalar1, V.bare, Bool.true_or, Bool.or_false, frz11, live11, conf11, ty3, ty4, ty26, ty37, ty82, St.killVars, St.kills, List.filter_cons, List.filter_nil, Int.natCast_zero, Int.cast_ofNat_Int, Int.reduceEq, Int.reduceNe, Int.reduceLT, Int.reduceLE, Int.reduceGT, Int.reduceGE, Int.reduceAdd, Int.reduceSub, Int.reduceNeg, Int.reduceMul, Int.reduceToNat, Int.reduceMod, Int.reducePow, Nat.reducePow, Nat.reduceSub, decide_not, Int.reduceBEq, List.getElem?_nil, ge_iff_le, gt_iff_lt, lits, St.empty, fn20, pure20, fn21, pure21, call21, fn22, pure22, call22, callV_f, c, hr, keep11, Eff.on, St.set, i1, i2, uni]
theorem told11 (xs ys : List Int) (h : xs.length + ys.length ≤ 1000000) (s : St) : callV (callL cfg) true 11 [lits xs, lits ys] s = some (lits (uni xs ys), s) := by
  obtain ⟨r, s', h1, h2⟩ := union_eq xs ys h
  exact callV_told (show allSome (reify s 40) [lits xs, lits ys] = some [lits xs, lits ys] from rfl) h1 h2 rfl
end Go.Proofs.YtdCfgU
