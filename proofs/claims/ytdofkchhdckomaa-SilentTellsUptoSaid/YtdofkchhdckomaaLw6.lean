import Derived.Test.YtdofkchhdckomaaLw1
import Derived.Test.YtdofkchhdckomaaLw5
import Derived.Test.YtdofkchhdckomaaFw5
/- The reference's Settle. -/
set_option maxRecDepth 100000
set_option linter.unusedSimpArgs false
set_option linter.unusedVariables false
namespace Go.Proofs.YtdCfgT
open Go Go.Ilv
theorem Tnts.set {l : List (Nat × Ilv.Obj)} {tid i : Nat} {tv : V} {tcs : List V} {o : Ilv.Obj} (h : Tnts l tid tv tcs) (hi : tid ≠ i) : Tnts (aset l i o) tid tv tcs := by
  rcases h with ⟨ver, h1, h2⟩ | h
  · exact .inl ⟨ver, h1, by rw [aget_ne hi]; exact h2⟩
  · exact .inr h
theorem Inv2.set {U : List Int} {M : Nat} {l : List (Nat × Ilv.Obj)} {n rid tid : Nat} {rv tv : V} {tcs : List V} {s : SS} (h : Inv2 U M l n rid tid rv tv tcs s) {i : Nat} (o : Ilv.Obj) (hi : i < n) (h1 : rid ≠ i) (h2 : tid ≠ i) : Inv2 U M (aset l i o) n rid tid rv tv tcs s := by
  obtain ⟨hn, hf, hr, hT, hA, hl, hrid, htid, d3, hs⟩ := h
  exact ⟨hn, hf.set (Nat.le_refl _) hi, hr.set h1, hT.set h2, hA, hl, hrid, htid, d3, hs⟩
theorem Inv2.grow {U : List Int} {M : Nat} {l : List (Nat × Ilv.Obj)} {n rid tid : Nat} {rv tv : V} {tcs : List V} {s : SS} (h : Inv2 U M l n rid tid rv tv tcs s) (o : Ilv.Obj) : Inv2 U M (aset l n o) (n + 1) rid tid rv tv tcs s := by
  obtain ⟨hn, hf, hr, hT, hA, hl, hrid, htid, d3, hs⟩ := h
  exact ⟨by omega, hf.set (Nat.le_succ n) (Nat.lt_succ_self n), hr.set (by omega), hT.set (by omega), hA, hl, by omega, by omega, d3, hs⟩
def Out2 (l : List (Nat × Ilv.Obj)) (rid tid : Nat) (rv tv : V) : Option SS → Bool → Prop
  | some s, ok => ok = true ∧ aget l 2 = some (Sbox s.pc rv tv s.ev) ∧ Regs l rid rv s.regs ∧ ∃ tcs, Tnts l tid tv tcs ∧ AllT tcs s.taint
  | none, ok => ok = false ∧ aget l 2 = some ⟨4, 0, true, [zC]⟩
theorem tv_st {l : List (Nat × Ilv.Obj)} {tid : Nat} {tv : V} {tcs : List V} (h : Tnts l tid tv tcs) : tv.storable = true ∧ tv.cells = [tv] := by
  rcases h with ⟨_, rfl, _⟩ | ⟨rfl, _⟩ <;> exact ⟨rfl, rfl⟩
set_option maxHeartbeats 1000000 in
theorem loop14 {U : List Int} {M : Nat} (hU : U.length ≤ M) (hM : M ≤ 20000000) (is : List I6) (cr : Int) (hlen : is.length ≤ 50000000) {rid tid : Nat} {rv tv : V} (r3 : 3 ≤ rid) (t3 : 3 ≤ tid) : ∀ (m k n : Nat) (l : List (Nat × Ilv.Obj)) (s : SS) (tcs : List V), k + m = is.length → Inv2 U M l n rid tid rv tv tcs s →
    aget l 0 = some ⟨2, 0, true, [[.int .i64 cr, .lit (is.map I6.v)]]⟩ → aget l 1 = some (Sbox s.pc rv tv s.ev) → aget l 2 = some ⟨4, 0, true, [zC]⟩ →
    ∃ ok n' l', execL cfg fi14 (sub code14 [1, 1, 1, 0, 1, 0]) [(2, .ptr 0 0 0 0), (3, .ptr 1 0 0 0), (4, .ptr 2 0 0 0), (6, .int .i64 k)] ⟨n, l⟩ = some (.ret, [(4, .ptr 2 0 0 0), (5, .bool ok)], ⟨n', l'⟩) ∧ Out2 l' rid tid rv tv (settleL is m s) ok := by
  have hcode : sub code14 [1, 1, 1, 0, 1, 0] = Code.loop (sub code14 [1, 1, 1, 0, 1, 0, 0]) := rfl
  have hbody : sub code14 [1, 1, 1, 0, 1, 0, 0] = Code.seq _ _ := rfl
  intro m
  induction m with
  | zero =>
    intro k n l s tcs hk hI h0 h1 h2
    have hkl : ((k : Int) = (is.length : Int)) := by omega
    have hki : (k : Int) ≤ (is.length : Int) := by omega
    have hrs := rv_st hI.hr
    have hts := tv_st hI.hT
    have q1 : (0 = n) = False := eq_false (by have := hI.hn; omega)
    have q2 : (1 = n) = False := eq_false (by have := hI.hn; omega)
    have q3 : (2 = n) = False := eq_false (by have := hI.hrid; omega)
    have q4 : (2 = n + 1) = False := eq_false (by have := hI.hrid; omega)
    have q5 : (n = 2) = False := eq_false (by have := hI.hrid; omega)
    by_cases p0 : 0 ≤ s.pc
    · have p0' : ¬ s.pc < 0 := by omega
      by_cases p1 : s.pc < (is.length : Int)
      · have p1' : ¬ ((is.length : Int) ≤ s.pc) := by omega
        have hpn : s.pc.toNat < is.length := by omega
        obtain ⟨i, hi⟩ : ∃ i, is[s.pc.toNat]? = some i := ⟨_, List.getElem?_eq_getElem hpn⟩
        have hiv : (is.map I6.v)[s.pc.toNat]? = some (.agg (iC i.op i.a i.b i.c i.nn i.site)) := by rw [List.getElem?_map, hi]; rfl
        have t26 := fun s => told26 i.op s
        by_cases o : 1 ≤ i.op ∧ i.op ≤ 5
        · have hset : settleL is 0 s = none := by
            simp only [settleL, if_pos p0, hi]
            exact if_pos o
          rw [hset, hcode, x_loop, ← hcode, hbody]
          refine ⟨false, n + 1, aset (aset l n ⟨6, 0, true, [iC i.op i.a i.b i.c i.nn i.site]⟩) 2 ⟨4, 0, true, [zC]⟩, ?_, rfl, aget_self⟩
          simp only [iC] at hiv ⊢
          simp (config := { maxSteps := 2000000 }) only [↓x_seq, ↓x_reg, ↓x_cond, ↓x_block, execL_skip, execL_ret, thn_normal, thn_ret, regK_mk, condK_tt, condK_ff, outB_ret, inss, ins, List.map_cons, List.map_nil, Option.map_none, Option.map_some, Option.bind_some, List.getElem?_toArray, List.getElem?_cons_zero, List.getElem?_cons_succ,
      runI_nil, i_move, i_assign, i_pick, i_alloc, i_build, i_load, i_store, i_binOp, i_unOp, i_fieldAddr, i_indexAddr, i_builtin, runI_call, runI_guard, guardK_ff, stepK_none, stepK_set, callK_mk,
      putE_some, putE_none, frzD_some, frzD_none, bnd_some, yes_eq, keepE_nil, keepE_cons, cons1_some, List.contains_nil, prim_move, prim_assign, prim_alloc, prim_build, prim_load, prim_store, prim_binOp, prim_unOp, prim_fieldAddr, prim_indexAddr, prim_len, prim_pick, true_and, opnd_tmp, opnd_int, opnd_bool, opnds_nil, opnds_cons, popnds_nil, nilS_tmp, nilS_int, bin_eql, bin_lss, bin_leq, bin_geq, un_not, aget, aset, aget_aset, aset_aset, cond_true, cond_false, decide_true, decide_false, ↓reduceIte, eq_self,
      reduceCtorEq, Nat.reduceEqDiff, Nat.reduceLT, Nat.reduceLeDiff, Nat.reduceBEq, Nat.reduceAdd, Nat.left_eq_add, Nat.one_ne_zero, indexAddr, fieldAddr, rd, List.length_cons, List.length_nil, List.take_succ_cons, List.take_zero, List.drop_succ_cons, List.drop_zero, List.drop_nil, List.take_nil, List.set_cons_zero, List.nil_append, List.cons_append, Nat.zero_add, Nat.add_zero, Nat.le_refl, ofCells, K.agg, put1, splice, build, buildFill, sto_agg, cel_agg, Bool.true_and, Bool.not_true, beq_self_eq_true, St_get, callI_func, frz14, lv14_5, lv14_7, lv14_9, lv14_10, lv14_12, lv14_13, ty3, ty33, ty35, ty39, ty60, lenl33, ge_iff_le, List.length_map, Int.le_refl, hkl, h0, h1, h2, q1, q3, q4, p0', fn26, pure26, p1', p0, hiv, t26, o, and_self, decide_true, Sbox, zC]
        · have hset : settleL is 0 s = some s := by
            simp only [settleL, if_pos p0, hi]
            exact if_neg o
          rw [hset, hcode, x_loop, ← hcode, hbody]
          refine ⟨true, n + 1, aset (aset l n ⟨6, 0, true, [iC i.op i.a i.b i.c i.nn i.site]⟩) 2 (Sbox s.pc rv tv s.ev), ?_, rfl, aget_self, (hI.hr.set (by have := hI.hrid; omega)).set (by omega), tcs, (hI.hT.set (by have := hI.htid; omega)).set (by omega), hI.hA⟩
          simp only [iC] at hiv ⊢
          simp (config := { maxSteps := 2000000 }) only [↓x_seq, ↓x_reg, ↓x_cond, ↓x_block, execL_skip, execL_ret, thn_normal, thn_ret, regK_mk, condK_tt, condK_ff, outB_ret, inss, ins, List.map_cons, List.map_nil, Option.map_none, Option.map_some, Option.bind_some, List.getElem?_toArray, List.getElem?_cons_zero, List.getElem?_cons_succ,
      runI_nil, i_move, i_assign, i_pick, i_alloc, i_load, i_store, i_binOp, i_unOp, i_fieldAddr, i_indexAddr, i_builtin, runI_call, runI_guard, guardK_ff, stepK_none, stepK_set, callK_mk,
      putE_some, putE_none, frzD_some, frzD_none, bnd_some, yes_eq, keepE_nil, keepE_cons, cons1_some, List.contains_nil, prim_move, prim_assign, prim_alloc, prim_load, prim_store, prim_binOp, prim_unOp, prim_fieldAddr, prim_indexAddr, prim_len, prim_pick, true_and, opnd_tmp, opnd_int, opnd_bool, opnds_nil, opnds_cons, nilS_tmp, nilS_int, bin_lss, bin_leq, bin_geq, un_not, aget, aset, aget_aset, aset_aset, cond_true, cond_false, decide_true, decide_false, ↓reduceIte, eq_self,
      reduceCtorEq, Nat.reduceEqDiff, Nat.reduceLT, Nat.reduceLeDiff, Nat.reduceBEq, Nat.reduceAdd, Nat.left_eq_add, Nat.one_ne_zero, indexAddr, fieldAddr, rd, List.length_cons, List.length_nil, List.take_succ_cons, List.take_zero, List.drop_succ_cons, List.drop_zero, List.drop_nil, List.take_nil, List.set_cons_zero, List.nil_append, List.cons_append, Nat.zero_add, Nat.add_zero, Nat.le_refl, ofCells, K.agg, put1, splice, sto_agg, cel_agg, Bool.true_and, Bool.not_false, beq_self_eq_true, St_get, callI_func, frz14, lv14_5, lv14_7, lv14_9, lv14_10, lv14_11, ty3, ty33, ty35, ty39, ty60, lenl33, ge_iff_le, List.length_map, Int.le_refl, hkl, h0, h1, h2, q2, q3, q4, p0', fn26, pure26, p1', p0, hiv, t26, o, decide_false, Sbox, zC]
      · have p1ge : (is.length : Int) ≤ s.pc := by omega
        have hset : settleL is 0 s = none := by
          have : is[s.pc.toNat]? = none := List.getElem?_eq_none (by omega)
          simp only [settleL, if_pos p0, this]
        rw [hset, hcode, x_loop, ← hcode, hbody]
        refine ⟨false, n, aset l 2 ⟨4, 0, true, [zC]⟩, ?_, rfl, aget_self⟩
        simp (config := { maxSteps := 2000000 }) only [↓x_seq, ↓x_reg, ↓x_cond, ↓x_block, execL_skip, execL_ret, thn_normal, thn_ret, regK_mk, condK_tt, outB_ret, inss, ins, List.map_cons, List.map_nil, Option.map_none, Option.map_some, Option.bind_some, List.getElem?_toArray, List.getElem?_cons_zero, List.getElem?_cons_succ,
      runI_nil, i_move, i_assign, i_pick, i_build, i_load, i_store, i_binOp, i_fieldAddr, i_builtin, runI_guard, guardK_ff, stepK_none, stepK_set, putE_some, putE_none, frzD_some, frzD_none, bnd_some, yes_eq, keepE_nil, keepE_cons, cons1_some, List.contains_nil, prim_move, prim_assign, prim_build, prim_load, prim_store, prim_binOp, prim_fieldAddr, prim_len, prim_pick, opnd_tmp, opnd_int, opnd_bool, popnds_nil, nilS_tmp, nilS_int, bin_lss, bin_leq, bin_geq, aget, aset, cond_true, cond_false, decide_true, decide_false, ↓reduceIte, eq_self,
      reduceCtorEq, Nat.reduceEqDiff, Nat.reduceLT, Nat.reduceLeDiff, Nat.reduceAdd, Nat.one_ne_zero, fieldAddr, rd, List.length_cons, List.length_nil, List.take_succ_cons, List.take_zero, List.drop_succ_cons, List.drop_zero, List.drop_nil, List.take_nil, List.set_cons_zero, List.nil_append, List.cons_append, Nat.zero_add, Nat.add_zero, Nat.le_refl, ofCells, K.agg, put1, splice, build, buildFill, sto_agg, cel_agg, Bool.true_and, beq_self_eq_true, St_get, frz14, lv14_5, lv14_7, lv14_8, ty3, ty33, ty35, ty39, lenl33, ge_iff_le, List.length_map, Int.le_refl, hkl, h0, h1, h2, q3, p0', p1ge, Sbox, zC]
    · have p0lt : s.pc < 0 := by omega
      have hset : settleL is 0 s = none := by simp only [settleL, if_neg p0]
      rw [hset, hcode, x_loop, ← hcode, hbody]
      refine ⟨false, n, aset l 2 ⟨4, 0, true, [zC]⟩, ?_, rfl, aget_self⟩
      simp (config := { maxSteps := 2000000 }) only [↓x_seq, ↓x_reg, ↓x_cond, ↓x_block, execL_skip, execL_ret, thn_normal, thn_ret, regK_mk, condK_tt, outB_ret, inss, ins, List.map_cons, List.map_nil, Option.map_none, Option.map_some, Option.bind_some, List.getElem?_toArray, List.getElem?_cons_zero, List.getElem?_cons_succ,
      runI_nil, i_move, i_assign, i_pick, i_build, i_load, i_store, i_binOp, i_fieldAddr, i_builtin, runI_guard, guardK_ft, stepK_none, stepK_set, putE_some, putE_none, frzD_some, frzD_none, bnd_some, yes_eq, keepE_nil, keepE_cons, cons1_some, List.contains_nil, prim_move, prim_assign, prim_build, prim_load, prim_store, prim_binOp, prim_fieldAddr, prim_len, prim_pick, opnd_tmp, opnd_int, opnd_bool, popnds_nil, nilS_tmp, nilS_int, bin_lss, bin_leq, aget, aset, cond_true, cond_false, decide_true, ↓reduceIte, eq_self,
      reduceCtorEq, Nat.reduceEqDiff, Nat.reduceLT, Nat.reduceLeDiff, Nat.reduceAdd, Nat.one_ne_zero, fieldAddr, rd, List.length_cons, List.length_nil, List.take_succ_cons, List.take_zero, List.drop_succ_cons, List.drop_zero, List.drop_nil, List.take_nil, List.set_cons_zero, List.nil_append, List.cons_append, Nat.zero_add, Nat.add_zero, Nat.le_refl, ofCells, K.agg, put1, splice, build, buildFill, sto_agg, cel_agg, Bool.true_and, beq_self_eq_true, St_get, frz14, lv14_5, lv14_7, lv14_8, ty3, ty33, ty35, ty39, lenl33, List.length_map, Int.le_refl, hkl, h0, h1, h2, q3, p0lt, Sbox, zC]
  | succ m ih =>
    intro k n l s tcs hk hI h0 h1 h2
    have hkl : ¬ ((k : Int) = (is.length : Int)) := by omega
    have hw := wrap_next8 (k := k) (by omega)
    have hki : (k : Int) ≤ (is.length : Int) := by omega
    have hrs := rv_st hI.hr
    have hts := tv_st hI.hT
    have q1 : (0 = n) = False := eq_false (by have := hI.hn; omega)
    have q2 : (1 = n) = False := eq_false (by have := hI.hn; omega)
    have q3 : (2 = n) = False := eq_false (by have := hI.hrid; omega)
    have q4 : (2 = n + 1) = False := eq_false (by have := hI.hrid; omega)
    have q5 : (n = 2) = False := eq_false (by have := hI.hrid; omega)
    by_cases p0 : 0 ≤ s.pc
    · have p0' : ¬ s.pc < 0 := by omega
      by_cases p1 : s.pc < (is.length : Int)
      · have p1' : ¬ ((is.length : Int) ≤ s.pc) := by omega
        have hpn : s.pc.toNat < is.length := by omega
        obtain ⟨i, hi⟩ : ∃ i, is[s.pc.toNat]? = some i := ⟨_, List.getElem?_eq_getElem hpn⟩
        have hiv : (is.map I6.v)[s.pc.toNat]? = some (.agg (iC i.op i.a i.b i.c i.nn i.site)) := by rw [List.getElem?_map, hi]; rfl
        have t26 := fun s => told26 i.op s
        by_cases o : 1 ≤ i.op ∧ i.op ≤ 5
        · obtain ⟨n', l', X, g1, g2, g3, g4, gX, g5⟩ := step27 (op := i.op) (a := i.a) (b := i.b) (c := i.c) (nn := i.nn) (site := i.site) hU hM (hI.grow ⟨6, 0, true, [iC i.op i.a i.b i.c i.nn i.site]⟩) o
          have q6 : (2 = n') = False := eq_false (by have := hI.hrid; omega)
          have q7 : (2 = n' + 1) = False := eq_false (by have := hI.hrid; omega)
          have q8 : (1 = n') = False := eq_false (by have := hI.hrid; omega)
          have q9 : (1 = n' + 1) = False := eq_false (by have := hI.hrid; omega)
          have q10 : (n' = 1) = False := eq_false (by have := hI.hrid; omega)
          have f0 : aget l' 0 = some ⟨2, 0, true, [[.int .i64 cr, .lit (is.map I6.v)]]⟩ := by rw [g4 0 (by omega) (by omega) (by omega), aget_ne (by have := hI.hn; omega)]; exact h0
          have f1 : aget l' 1 = some (Sbox s.pc rv tv s.ev) := by rw [g4 1 (by have := hI.hn; omega) (by omega) (by omega), aget_ne (by have := hI.hn; omega)]; exact h1
          have f2 : aget l' 2 = some ⟨4, 0, true, [zC]⟩ := by rw [g4 2 (by have := hI.hrid; omega) (by omega) (by omega), aget_ne (by have := hI.hrid; omega)]; exact h2
          have hset : settleL is (m + 1) s = match stepS i.op i.a i.b i.c i.nn s with
            | none => none
            | some s' => settleL is m s' := by
            simp only [settleL, if_pos p0, hi]
            rw [if_pos o]
            cases stepS i.op i.a i.b i.c i.nn s <;> rfl
          obtain ⟨xp, xe, xx, xy, rfl, hxx⟩ := gX
          have hxs : (xx.storable = true ∧ xx.cells = [xx]) ∧ (xy.storable = true ∧ xy.cells = [xy]) := by
            rcases hxx with ⟨rfl, rfl⟩ | ⟨rfl, rfl⟩
            · exact ⟨hrs, hts⟩
            · exact ⟨⟨rfl, rfl⟩, ⟨rfl, rfl⟩⟩
          rw [hset, hcode, x_loop, ← hcode, hbody]
          simp only [iC] at g1 hiv
          cases hst : stepS i.op i.a i.b i.c i.nn s with
          | none =>
            rw [hst] at g1
            simp only [Option.isSome_none] at g1
            refine ⟨false, n' + 1, aset (aset l' n' ⟨4, 0, true, [[.int .i64 xp, xx, xy, .int .i64 xe]]⟩) 2 ⟨4, 0, true, [zC]⟩, ?_, rfl, aget_self⟩
            simp (config := { maxSteps := 2000000 }) only [↓x_seq, ↓x_reg, ↓x_cond, ↓x_block, execL_skip, execL_ret, thn_normal, thn_ret, regK_mk, condK_tt, condK_ff, outB_ret, inss, ins, List.map_cons, List.map_nil, Option.map_none, Option.map_some, Option.bind_some, List.getElem?_toArray, List.getElem?_cons_zero, List.getElem?_cons_succ,
      runI_nil, i_move, i_assign, i_pick, i_alloc, i_build, i_load, i_store, i_binOp, i_unOp, i_fieldAddr, i_indexAddr, i_extract, i_builtin, runI_call, runI_guard, guardK_ff, stepK_none, stepK_set, callK_mk,
      putE_some, putE_none, frzD_some, frzD_none, bnd_some, yes_eq, keepE_nil, keepE_cons, cons1_some, List.contains_nil, prim_move, prim_assign, prim_alloc, prim_build, prim_load, prim_store, prim_binOp, prim_unOp, prim_fieldAddr, prim_indexAddr, prim_extract, prim_len, prim_pick, true_and, opnd_tmp, opnd_int, opnd_bool, opnds_nil, opnds_cons, popnds_nil, nilS_tmp, nilS_int, bin_eql, bin_lss, bin_leq, bin_geq, un_not, aget, aset, aget_aset, aset_aset, cond_true, cond_false, decide_true, decide_false, ↓reduceIte, eq_self,
      reduceCtorEq, Nat.reduceEqDiff, Nat.reduceLT, Nat.reduceLeDiff, Nat.reduceBEq, Nat.reduceAdd, Nat.left_eq_add, Nat.one_ne_zero, indexAddr, fieldAddr, rd, List.length_cons, List.length_nil, List.take_succ_cons, List.take_zero, List.drop_succ_cons, List.drop_zero, List.drop_nil, List.take_nil, List.set_cons_zero, List.nil_append, List.cons_append, Nat.zero_add, Nat.add_zero, Nat.le_refl, ofCells, K.agg, put1, splice, build, buildFill, sto_agg, cel_agg, Bool.true_and, Bool.not_true, Bool.not_false, beq_self_eq_true, St_get, callI_func, frz14, lv14_5, lv14_7, lv14_9, lv14_10, lv14_12, lv14_14, lv14_15, lv14_16, ty3, ty33, ty35, ty39, ty60, lenl33, ge_iff_le, List.length_map, hki, hkl, h0, h1, q1, q2, p0', fn26, pure26, p1', p0, hiv, t26, o, and_self, decide_true, fn27, pure27, callV_f, g1, f2, q6, q7, Sbox, zC]
          | some s' =>
            rw [hst] at g1
            simp only [Option.isSome_some] at g1
            obtain ⟨hX, tcs', hI'⟩ := g5 s' hst
            have e1 : xp = s'.pc := by injection hX with hX; injection hX with hX _; injection hX
            have e2 : xx = rv := by injection hX with hX; injection hX with _ hX; injection hX with hX _
            have e3 : xy = tv := by injection hX with hX; injection hX with _ hX; injection hX with _ hX; injection hX with hX _
            have e4 : xe = s'.ev := by injection hX with hX; injection hX with _ hX; injection hX with _ hX; injection hX with _ hX; injection hX with hX _; injection hX
            subst e1 e2 e3 e4
            obtain ⟨ok, n2, l2, k1, k2⟩ := ih (k + 1) (n' + 1) (aset (aset l' n' (Sbox s'.pc xx xy s'.ev)) 1 (Sbox s'.pc xx xy s'.ev)) s' tcs' (by omega) ((hI'.grow _).set _ (by have := hI'.hn; omega) (by omega) (by omega))
              (by rw [aget_ne (by omega), aget_ne (by have := hI'.hn; omega)]; exact f0) aget_self (by rw [aget_ne (by omega), aget_ne (by have := hI'.hrid; omega)]; exact f2)
            simp only [Sbox] at k1
            refine ⟨ok, n2, l2, ?_, k2⟩
            simp (config := { maxSteps := 2000000 }) only [↓x_seq, ↓x_reg, ↓x_cond, ↓x_block, execL_skip, thn_normal, regK_mk, condK_tt, condK_ff, outB_normal, inss, ins, List.map_cons, List.map_nil, Option.map_none, Option.map_some, Option.bind_some, List.getElem?_toArray, List.getElem?_cons_zero, List.getElem?_cons_succ,
      runI_nil, i_move, i_assign, i_pick, i_alloc, i_load, i_store, i_binOp, i_unOp, i_fieldAddr, i_indexAddr, i_extract, i_builtin, runI_call, runI_guard, guardK_ff, stepK_none, stepK_set, callK_mk,
      putE_some, putE_none, frzD_some, frzD_none, bnd_some, yes_eq, keepE_nil, keepE_cons, cons1_some, List.contains_nil, prim_move, prim_assign, prim_alloc, prim_load, prim_store, prim_binOp, prim_unOp, prim_fieldAddr, prim_indexAddr, prim_extract, prim_len, prim_pick, true_and, opnd_tmp, opnd_int, opnd_bool, opnds_nil, opnds_cons, nilS_tmp, nilS_int, bin_eql, bin_lss, bin_leq, bin_geq, bin_add, un_not, aget, aset, aget_aset, aset_aset, cond_true, cond_false, decide_true, decide_false, ↓reduceIte, eq_self,
      reduceCtorEq, Nat.reduceEqDiff, Nat.reduceLT, Nat.reduceLeDiff, Nat.reduceBEq, Nat.reduceAdd, Nat.left_eq_add, Nat.one_ne_zero, indexAddr, fieldAddr, rd, List.length_cons, List.length_nil, List.take_succ_cons, List.take_zero, List.drop_succ_cons, List.drop_zero, List.drop_nil, List.take_nil, List.set_cons_zero, List.nil_append, List.cons_append, Nat.zero_add, Nat.add_zero, Nat.le_refl, ofCells, K.agg, put1, splice, sto_agg, cel_agg, Bool.true_and, Bool.not_true, beq_self_eq_true, St_get, callI_func, frz14, lv14_5, lv14_7, lv14_9, lv14_10, lv14_12, lv14_14, lv14_15, lv14_17, lv14_6, ty3, ty33, ty35, ty39, ty60, lenl33, ge_iff_le, List.length_map, hki, hkl, h0, h1, q1, q2, p0', fn26, pure26, hw, p1', p0, hiv, t26, o, and_self, decide_true, fn27, pure27, callV_f, g1, f1, q8, q9, Sbox]
            exact k1
        · have hset : settleL is (m + 1) s = some s := by
            simp only [settleL, if_pos p0, hi]
            exact if_neg o
          rw [hset, hcode, x_loop, ← hcode, hbody]
          refine ⟨true, n + 1, aset (aset l n ⟨6, 0, true, [iC i.op i.a i.b i.c i.nn i.site]⟩) 2 (Sbox s.pc rv tv s.ev), ?_, rfl, aget_self, (hI.hr.set (by have := hI.hrid; omega)).set (by omega), tcs, (hI.hT.set (by have := hI.htid; omega)).set (by omega), hI.hA⟩
          simp only [iC] at hiv ⊢
          simp (config := { maxSteps := 2000000 }) only [↓x_seq, ↓x_reg, ↓x_cond, ↓x_block, execL_skip, execL_ret, thn_normal, thn_ret, regK_mk, condK_tt, condK_ff, outB_ret, inss, ins, List.map_cons, List.map_nil, Option.map_none, Option.map_some, Option.bind_some, List.getElem?_toArray, List.getElem?_cons_zero, List.getElem?_cons_succ,
      runI_nil, i_move, i_assign, i_pick, i_alloc, i_load, i_store, i_binOp, i_unOp, i_fieldAddr, i_indexAddr, i_builtin, runI_call, runI_guard, guardK_ff, stepK_none, stepK_set, callK_mk,
      putE_some, putE_none, frzD_some, frzD_none, bnd_some, yes_eq, keepE_nil, keepE_cons, cons1_some, List.contains_nil, prim_move, prim_assign, prim_alloc, prim_load, prim_store, prim_binOp, prim_unOp, prim_fieldAddr, prim_indexAddr, prim_len, prim_pick, true_and, opnd_tmp, opnd_int, opnd_bool, opnds_nil, opnds_cons, nilS_tmp, nilS_int, bin_lss, bin_leq, bin_geq, un_not, aget, aset, aget_aset, aset_aset, cond_true, cond_false, decide_true, decide_false, ↓reduceIte, eq_self,
      reduceCtorEq, Nat.reduceEqDiff, Nat.reduceLT, Nat.reduceLeDiff, Nat.reduceBEq, Nat.reduceAdd, Nat.left_eq_add, Nat.one_ne_zero, indexAddr, fieldAddr, rd, List.length_cons, List.length_nil, List.take_succ_cons, List.take_zero, List.drop_succ_cons, List.drop_zero, List.drop_nil, List.take_nil, List.set_cons_zero, List.nil_append, List.cons_append, Nat.zero_add, Nat.add_zero, Nat.le_refl, ofCells, K.agg, put1, splice, sto_agg, cel_agg, Bool.true_and, Bool.not_false, beq_self_eq_true, St_get, callI_func, frz14, lv14_5, lv14_7, lv14_9, lv14_10, lv14_11, ty3, ty33, ty35, ty39, ty60, lenl33, ge_iff_le, List.length_map, hki, h0, h1, h2, q2, q3, q4, p0', fn26, pure26, p1', p0, hiv, t26, o, decide_false, Sbox, zC]
      · have p1ge : (is.length : Int) ≤ s.pc := by omega
        have hset : settleL is (m + 1) s = none := by
          have : is[s.pc.toNat]? = none := List.getElem?_eq_none (by omega)
          simp only [settleL, if_pos p0, this]
        rw [hset, hcode, x_loop, ← hcode, hbody]
        refine ⟨false, n, aset l 2 ⟨4, 0, true, [zC]⟩, ?_, rfl, aget_self⟩
        simp (config := { maxSteps := 2000000 }) only [↓x_seq, ↓x_reg, ↓x_cond, ↓x_block, execL_skip, execL_ret, thn_normal, thn_ret, regK_mk, condK_tt, outB_ret, inss, ins, List.map_cons, List.map_nil, Option.map_none, Option.map_some, Option.bind_some, List.getElem?_toArray, List.getElem?_cons_zero, List.getElem?_cons_succ,
      runI_nil, i_move, i_assign, i_pick, i_build, i_load, i_store, i_binOp, i_fieldAddr, i_builtin, runI_guard, guardK_ff, stepK_none, stepK_set, putE_some, putE_none, frzD_some, frzD_none, bnd_some, yes_eq, keepE_nil, keepE_cons, cons1_some, List.contains_nil, prim_move, prim_assign, prim_build, prim_load, prim_store, prim_binOp, prim_fieldAddr, prim_len, prim_pick, opnd_tmp, opnd_int, opnd_bool, popnds_nil, nilS_tmp, nilS_int, bin_lss, bin_leq, bin_geq, aget, aset, cond_true, cond_false, decide_true, decide_false, ↓reduceIte, eq_self,
      reduceCtorEq, Nat.reduceEqDiff, Nat.reduceLT, Nat.reduceLeDiff, Nat.reduceAdd, Nat.one_ne_zero, fieldAddr, rd, List.length_cons, List.length_nil, List.take_succ_cons, List.take_zero, List.drop_succ_cons, List.drop_zero, List.drop_nil, List.take_nil, List.set_cons_zero, List.nil_append, List.cons_append, Nat.zero_add, Nat.add_zero, Nat.le_refl, ofCells, K.agg, put1, splice, build, buildFill, sto_agg, cel_agg, Bool.true_and, beq_self_eq_true, St_get, frz14, lv14_5, lv14_7, lv14_8, ty3, ty33, ty35, ty39, lenl33, ge_iff_le, List.length_map, hki, h0, h1, h2, q3, p0', p1ge, Sbox, zC]
    · have p0lt : s.pc < 0 := by omega
      have hset : settleL is (m + 1) s = none := by simp only [settleL, if_neg p0]
      rw [hset, hcode, x_loop, ← hcode, hbody]
      refine ⟨false, n, aset l 2 ⟨4, 0, true, [zC]⟩, ?_, rfl, aget_self⟩
      simp (config := { maxSteps := 2000000 }) only [↓x_seq, ↓x_reg, ↓x_cond, ↓x_block, execL_skip, execL_ret, thn_normal, thn_ret, regK_mk, condK_tt, outB_ret, inss, ins, List.map_cons, List.map_nil, Option.map_none, Option.map_some, Option.bind_some, List.getElem?_toArray, List.getElem?_cons_zero, List.getElem?_cons_succ,
      runI_nil, i_move, i_assign, i_pick, i_build, i_load, i_store, i_binOp, i_fieldAddr, i_builtin, runI_guard, guardK_ft, stepK_none, stepK_set, putE_some, putE_none, frzD_some, frzD_none, bnd_some, yes_eq, keepE_nil, keepE_cons, cons1_some, List.contains_nil, prim_move, prim_assign, prim_build, prim_load, prim_store, prim_binOp, prim_fieldAddr, prim_len, prim_pick, opnd_tmp, opnd_int, opnd_bool, popnds_nil, nilS_tmp, nilS_int, bin_lss, bin_leq, aget, aset, cond_true, cond_false, decide_true, ↓reduceIte, eq_self,
      reduceCtorEq, Nat.reduceEqDiff, Nat.reduceLT, Nat.reduceLeDiff, Nat.reduceAdd, Nat.one_ne_zero, fieldAddr, rd, List.length_cons, List.length_nil, List.take_succ_cons, List.take_zero, List.drop_succ_cons, List.drop_zero, List.drop_nil, List.take_nil, List.set_cons_zero, List.nil_append, List.cons_append, Nat.zero_add, Nat.add_zero, Nat.le_refl, ofCells, K.agg, put1, splice, build, buildFill, sto_agg, cel_agg, Bool.true_and, beq_self_eq_true, St_get, frz14, lv14_5, lv14_7, lv14_8, ty3, ty33, ty35, ty39, lenl33, List.length_map, hki, h0, h1, h2, q3, p0lt, Sbox, zC]
end Go.Proofs.YtdCfgT

/- Both Settles, told. -/
set_option maxRecDepth 100000
set_option linter.unusedSimpArgs false
set_option linter.unusedVariables false
namespace Go.Proofs.YtdCfgT
open Go Go.Ilv
theorem allT_reify {s : St} {m : Nat} : ∀ {tcs : List V} {taint : List (List Int)}, AllT tcs taint → allSome (reify s (m + 1)) tcs = some (taint.map lits)
  | [], [], _ => rfl
  | [], _ :: _, h => absurd h.1 (by simp)
  | _ :: _, [], h => absurd h.1 (by simp)
  | v :: tcs, t :: taint, h => by
    have h0 := h.2 0 (by simp)
    have hr : AllT tcs taint := ⟨by have := h.1; simpa using this, fun i hi => by have := h.2 (i + 1) (by simpa using hi); simpa using this⟩
    have h0' : IsT v t := by simpa using h0
    simp only [allSome, h0'.reify, allT_reify hr, List.map_cons]
theorem reify_Tn {l : List (Nat × Ilv.Obj)} {n tid m : Nat} {tv : V} {tcs : List V} {taint : List (List Int)} (h : Tnts l tid tv tcs) (hA : AllT tcs taint) : reify ⟨n, l⟩ (m + 2) tv = some (litss taint) := by
  rcases h with ⟨ver, rfl, h⟩ | ⟨rfl, rfl⟩
  · have h2 : (List.take tcs.length (tcs.map row1)).map rowV = tcs := by
      rw [List.take_of_length_le (by simp), List.map_map]
      conv => rhs; rw [← List.map_id tcs]
      exact List.map_congr_left fun z _ => rfl
    rw [rf_ref]
    simp only [elems, St.get, h, if_true, List.length_map, Nat.zero_add, Nat.le_refl, List.drop_zero, h2, bnd_some, allT_reify hA, litss]
  · have : taint = [] := List.length_eq_zero_iff.1 (by have := hA.1; simpa using this.symm)
    subst this
    rfl
theorem Tnts.kill {l : List (Nat × Ilv.Obj)} {n base tid : Nat} {tv : V} {tcs : List V} (h : Tnts l tid tv tcs) : Tnts (St.killVars ⟨n, l⟩ base).objs tid tv tcs := by
  rcases h with ⟨ver, h1, h2⟩ | h
  · exact .inl ⟨ver, h1, aget_kill_some (s := ⟨n, l⟩) h2 rfl⟩
  · exact .inr h
theorem reify_out2 {l : List (Nat × Ilv.Obj)} {n n2 base rid tid : Nat} {rv tv : V} {tcs : List V} {s : SS} {ok : Bool} (h1 : Regs l rid rv s.regs) (h2 : Tnts l tid tv tcs) (hA : AllT tcs s.taint) :
    reify ⟨n2, (St.killVars ⟨n, l⟩ base).objs⟩ 40 (.tup [.agg [.int .i64 s.pc, rv, tv, .int .i64 s.ev], .bool ok]) = some (.tup [.agg (stC s), .bool ok]) := by
  have e1 := reify_R (n := n2) (m := 36) (h1.kill (n := n) (base := base))
  have e2 := reify_Tn (n := n2) (m := 36) (h2.kill (n := n) (base := base)) hA
  simp only [rf_tup, rf_agg, all_cons, all_nil, rf_int, rf_bool, e1, e2, bnd_some, stC]
theorem call14_bad (is : List I6) (cr : Int) (s : SS) (h : ¬ ((s.regs.length : Int) = cr ∧ (s.taint.length : Int) = cr)) :
    ∃ s', callL cfg 14 [.agg [.int .i64 cr, .lit (is.map I6.v)], .agg (stC s)] St.empty = some (.tup [.agg zC, .bool false], s') := by
  have hc : code14 = Code.seq (sub code14 [0]) (Code.seq (Code.seq (sub code14 [1, 0, 0]) (sub code14 [1, 0, 1])) (Code.seq (sub code14 [1, 1, 0]) (Code.seq (Code.seq (sub code14 [1, 1, 1, 0, 0]) (Code.block 0 (sub code14 [1, 1, 1, 0, 1, 0]))) (sub code14 [1, 1, 1, 1])))) := rfl
  have e0 : sub code14 [0] = Code.region _ _ _ := rfl
  have e1 : sub code14 [1, 0, 0] = Code.region _ _ _ := rfl
  have e2 : sub code14 [1, 0, 1] = Code.cond _ _ _ := rfl
  have hrr : fi14.fn.results.toList = [_, _] := rfl
  refine told_of ?_
  rw [call14, hc]
  by_cases h1 : (s.regs.length : Int) = cr
  · have h2 : ¬ ((s.taint.length : Int) = cr) := fun e => h ⟨h1, e⟩
    simp only [↓x_seq, ↓x_reg, ↓x_cond, execL_ret, thn_normal, thn_ret, regK_mk, condK_tt, inss, ins, List.map_cons, List.map_nil, Option.map_none, Option.map_some, Option.bind_some, List.getElem?_toArray, List.getElem?_cons_zero, List.getElem?_cons_succ,
      runI_nil, i_move, i_assign, i_pick, i_alloc, i_box, i_build, i_load, i_store, i_binOp, i_fieldAddr, i_builtin, runI_guard, guardK_ff, stepK_none, stepK_set, putE_some, putE_none, frzD_some, frzD_none, bnd_some, yes_eq, keepE_nil, keepE_cons, cons1_some, List.contains_nil, prim_move, prim_assign, prim_alloc, prim_box, prim_build, prim_load, prim_store, prim_binOp, prim_fieldAddr, prim_len, prim_pick, opnd_tmp, opnd_bool, popnds_nil, nilS_tmp, bin_neq, aget, aset, cond_true, cond_false, decide_true, decide_false, ↓reduceIte, eq_self,
      reduceCtorEq, Nat.reduceEqDiff, Nat.reduceLT, Nat.reduceLeDiff, Nat.reduceBEq, Nat.reduceAdd, Nat.one_ne_zero, fieldAddr, rd, List.length_cons, List.length_nil, List.take_succ_cons, List.take_zero, List.drop_succ_cons, List.drop_zero, List.drop_nil, List.take_nil, List.set_cons_zero, List.nil_append, List.cons_append, Nat.zero_add, Nat.add_zero, Nat.le_refl, ofCells, K.agg, put1, splice, build, buildFill, sto_agg, cel_agg, Bool.true_and, Bool.not_true, Bool.not_false, beq_self_eq_true, St_get, enumE, finK_ret, Ilv.results, resV, all_nil, all_cons, frz14, lv14_0, lv14_1, lv14_2, ty3, ty35, ty36, ty37, ty39, lenl36, lenl37, e0, e1, e2, hrr, keep14, stC, lits, litss, List.length_map, h1, h2, St.empty, zC]
  · simp only [↓x_seq, ↓x_reg, ↓x_cond, execL_ret, thn_normal, thn_ret, regK_mk, condK_tt, inss, ins, List.map_cons, List.map_nil, Option.map_none, Option.map_some, Option.bind_some, List.getElem?_toArray, List.getElem?_cons_zero, List.getElem?_cons_succ,
      runI_nil, i_move, i_assign, i_pick, i_alloc, i_box, i_build, i_load, i_store, i_binOp, i_fieldAddr, i_builtin, runI_guard, guardK_ft, stepK_none, stepK_set, putE_some, putE_none, frzD_some, frzD_none, bnd_some, yes_eq, keepE_nil, keepE_cons, cons1_some, List.contains_nil, prim_move, prim_assign, prim_alloc, prim_box, prim_build, prim_load, prim_store, prim_binOp, prim_fieldAddr, prim_len, prim_pick, opnd_tmp, opnd_bool, popnds_nil, nilS_tmp, bin_neq, aget, aset, cond_true, cond_false, decide_true, decide_false, ↓reduceIte, eq_self,
      reduceCtorEq, Nat.reduceEqDiff, Nat.reduceLT, Nat.reduceLeDiff, Nat.reduceBEq, Nat.reduceAdd, Nat.one_ne_zero, fieldAddr, rd, List.length_cons, List.length_nil, List.take_succ_cons, List.take_zero, List.drop_succ_cons, List.drop_zero, List.drop_nil, List.take_nil, List.set_cons_zero, List.nil_append, List.cons_append, Nat.zero_add, Nat.add_zero, Nat.le_refl, ofCells, K.agg, put1, splice, build, buildFill, sto_agg, cel_agg, Bool.true_and, Bool.not_false, beq_self_eq_true, St_get, enumE, finK_ret, Ilv.results, resV, all_nil, all_cons, frz14, lv14_0, lv14_1, lv14_2, ty3, ty35, ty36, ty39, lenl36, e0, e1, e2, hrr, keep14, stC, lits, litss, List.length_map, h1, St.empty, zC]
def Told14 (is : List I6) (s : SS) : Prop :=
    ∃ ok r s', callL cfg 14 [.agg [.int .i64 s.regs.length, .lit (is.map I6.v)], .agg (stC s)] St.empty = some (.tup [r, .bool ok], s') ∧
      reify s' 40 (.tup [r, .bool ok]) = some (.tup [.agg (stC (match settleL is is.length s with | some s' => s' | none => zS)), .bool (settleL is is.length s).isSome])
theorem call14_good {U : List Int} {M : Nat} (hU : U.length ≤ M) (hM : M ≤ 20000000) (is : List I6) (s : SS) (hlen : is.length ≤ 50000000) (hr : s.regs.length ≤ 50000000) (hl : s.taint.length = s.regs.length) (hs : Short U M s.taint) : Told14 is s := by
  have hc : code14 = Code.seq (sub code14 [0]) (Code.seq (Code.seq (sub code14 [1, 0, 0]) (sub code14 [1, 0, 1])) (Code.seq (sub code14 [1, 1, 0]) (Code.seq (Code.seq (sub code14 [1, 1, 1, 0, 0]) (Code.block 0 (sub code14 [1, 1, 1, 0, 1, 0]))) (sub code14 [1, 1, 1, 1])))) := rfl
  have e0 : sub code14 [0] = Code.region _ _ _ := rfl
  have e1 : sub code14 [1, 0, 0] = Code.region _ _ _ := rfl
  have e2 : sub code14 [1, 0, 1] = Code.cond _ _ _ := rfl
  have e3 : sub code14 [1, 1, 0] = Code.region _ _ _ := rfl
  have e4 : sub code14 [1, 1, 1, 0, 0] = Code.region _ _ _ := rfl
  have hrr : fi14.fn.results.toList = [_, _] := rfl
  have hf0 : Fresh 3 [(0, (⟨2, 0, true, [[.int .i64 s.regs.length, .lit (is.map I6.v)]]⟩ : Ilv.Obj)), (1, ⟨4, 0, true, [[.int .i64 s.pc, .lit (s.regs.map iV), .lit (s.taint.map lits), .int .i64 s.ev]]⟩), (2, ⟨4, 0, true, [[.int .i64 0, .nils, .nils, .int .i64 0]]⟩)] := by
    intro j hj
    simp only [aget]
    rw [if_neg (by omega), if_neg (by omega), if_neg (by omega)]
  have hsm : ∀ t ∈ s.taint, t.length ≤ 100000000 := fun t ht => by have := (hs t ht).1; omega
  have hA0 : AllT (s.taint.map lits) s.taint := ⟨by simp, fun i hi => by
    rw [List.getD_eq_getElem?_getD, List.getElem?_map, List.getD_eq_getElem?_getD, List.getElem?_eq_getElem hi]; exact IsT.lits _⟩
  have hrow : s.taint.map tRow = (s.taint.map lits).map row1 := by rw [List.map_map]; rfl
  have key : ∀ (m rid : Nat) (rv tv : V) (l' : List (Nat × Ilv.Obj)), callL cfg 25 [.agg (stC s)] ⟨3, [(0, (⟨2, 0, true, [[.int .i64 s.regs.length, .lit (is.map I6.v)]]⟩ : Ilv.Obj)), (1, ⟨4, 0, true, [[.int .i64 s.pc, .lit (s.regs.map iV), .lit (s.taint.map lits), .int .i64 s.ev]]⟩), (2, ⟨4, 0, true, [[.int .i64 0, .nils, .nils, .int .i64 0]]⟩)]⟩ = some (.agg [.int .i64 s.pc, rv, tv, .int .i64 s.ev], ⟨m, l'⟩) →
      Fresh m l' → Regs l' rid rv s.regs → IsL l' 1 tv (s.taint.map tRow) → 3 ≤ rid → rid < m → tv.own ≠ some rid → (∀ j, tv.own = some j → 3 ≤ j) → 16 ≤ m →
      aget l' 0 = some ⟨2, 0, true, [[.int .i64 s.regs.length, .lit (is.map I6.v)]]⟩ → aget l' 1 = some ⟨4, 0, true, [[.int .i64 s.pc, .lit (s.regs.map iV), .lit (s.taint.map lits), .int .i64 s.ev]]⟩ → aget l' 2 = some ⟨4, 0, true, [zC]⟩ → Told14 is s := by
    intro m rid rv tv l' hcl hf hR hT r3 hrm hne hown hm3 a0 a1 a2
    obtain ⟨tid, t3, htm, hrt, hTn⟩ : ∃ tid, 3 ≤ tid ∧ tid < m ∧ rid ≠ tid ∧ Tnts l' tid tv (s.taint.map lits) := by
      rw [hrow] at hT
      generalize hR' : (s.taint.map lits).map row1 = rows at hT
      cases hT with
      | nil =>
        have he : s.taint.map lits = [] := List.map_eq_nil_iff.1 hR'
        by_cases e : rid = 3
        · exact ⟨4, by omega, by omega, by omega, .inr ⟨rfl, he⟩⟩
        · exact ⟨3, by omega, by omega, by omega, .inr ⟨rfl, he⟩⟩
      | ref id ver _ h hrs =>
        have hlt : id < m := by
          rcases Nat.lt_or_ge id m with h1 | h1
          · exact h1
          · rw [hf id h1] at h; cases h
        refine ⟨id, hown id rfl, hlt, fun e => hne (by rw [e]; rfl), .inl ⟨ver, ?_, by rw [hR']; exact h⟩⟩
        rw [← hR']; simp only [List.length_map]
    have hI : Inv2 U M (aset l' 1 (Sbox s.pc rv tv s.ev)) m rid tid rv tv (s.taint.map lits) s :=
      ⟨by omega, hf.set (Nat.le_refl _) (by omega), hR.set (by omega), hTn.set (by omega), hA0, hl, hrm, htm, hrt, hs⟩
    obtain ⟨ok, n2, l2, g1, g2⟩ := loop14 hU hM is s.regs.length hlen r3 t3 is.length 0 m _ s _ (by omega) hI (by rw [aget_ne (by omega)]; exact a0) aget_self (by rw [aget_ne (by omega)]; exact a2)
    simp only [Int.cast_ofNat_Int, Sbox] at g1
    have q1 : (1 = m) = False := eq_false (by omega)
    have hrs := rv_st hR
    have hts := tv_st hTn
    have hcl' := hcl
    simp only [stC, lits, litss] at hcl'
    have fin : ∀ (cells : List V), aget l2 2 = some ⟨4, 0, true, [cells]⟩ → cells.length = 4 → callL cfg 14 [.agg [.int .i64 s.regs.length, .lit (is.map I6.v)], .agg (stC s)] St.empty = some (.tup [.agg cells, .bool ok], St.killVars ⟨n2, l2⟩ 0) := by
      intro cells ha hcl4
      match cells, hcl4 with
      | [x1, x2, x3, x4], _ =>
        rw [call14, hc]
        simp only [↓x_seq, ↓x_reg, ↓x_cond, ↓x_block, execL_skip, thn_normal, thn_ret, regK_mk, condK_ff, outB_ret, inss, ins, List.map_cons, List.map_nil, Option.map_none, Option.map_some, Option.bind_some, List.getElem?_toArray, List.getElem?_cons_zero, List.getElem?_cons_succ,
      runI_nil, i_move, i_assign, i_pick, i_alloc, i_box, i_load, i_store, i_binOp, i_fieldAddr, i_builtin, runI_call, runI_guard, guardK_ff, stepK_none, stepK_set, callK_mk,
      putE_some, putE_none, frzD_some, frzD_none, bnd_some, yes_eq, keepE_nil, keepE_cons, cons1_some, List.contains_nil, prim_move, prim_assign, prim_alloc, prim_box, prim_load, prim_store, prim_binOp, prim_fieldAddr, prim_len, prim_pick, opnd_tmp, opnd_int, opnd_bool, opnds_nil, opnds_cons, nilS_tmp, bin_neq, aget, aset, cond_true, cond_false, decide_true, ↓reduceIte, eq_self,
      reduceCtorEq, Nat.reduceEqDiff, Nat.reduceLT, Nat.reduceLeDiff, Nat.reduceBEq, Nat.reduceAdd, Nat.one_ne_zero, fieldAddr, rd, List.length_cons, List.length_nil, List.take_succ_cons, List.take_zero, List.drop_succ_cons, List.drop_zero, List.drop_nil, List.take_nil, List.set_cons_zero, List.nil_append, List.cons_append, Nat.zero_add, Nat.add_zero, Nat.le_refl, ofCells, K.agg, put1, splice, sto_agg, cel_agg, Bool.true_and, Bool.not_true, beq_self_eq_true, St_get, enumE, callI_func, finK_ret, Ilv.results, resV, all_nil, all_cons, frz14, lv14_0, lv14_1, lv14_3, lv14_4, ty3, ty35, ty36, ty37, ty39, lenl36, lenl37, e0, e1, e2, e3, e4, hrr, keep14, stC, lits, litss, List.length_map, hl, St.empty, fn25, pure25, callV_f, hcl', q1, a1, g1, ha]
    cases hset : settleL is is.length s with
    | none =>
      rw [hset] at g2
      obtain ⟨rfl, o2⟩ := g2
      exact ⟨false, _, _, fin zC o2 rfl, by rw [hset]; rfl⟩
    | some s' =>
      rw [hset] at g2
      obtain ⟨rfl, o2, oR, tcs, oT, oA⟩ := g2
      exact ⟨true, _, _, fin _ o2 rfl, by rw [hset]; exact reify_out2 (base := 0) oR oT oA⟩
  by_cases hreg : s.regs = []
  · obtain ⟨m, l', tv, k1, k2, k3, k4, k5, k6, k7⟩ := call25b hf0 s hr (by omega) hsm hreg
    exact key m 12 .nils tv l' k1 k3 (.inr ⟨rfl, hreg⟩) k4 (by omega) (by omega) k5 k6 (by omega) (k7 0 (by omega)) (k7 1 (by omega)) (k7 2 (by omega))
  · obtain ⟨m, l', tv, k1, k2, k3, k3', k4, k5, k6, k7⟩ := call25a hf0 s hr (by omega) hsm hreg
    exact key m 12 _ tv l' k1 k3 (.inl ⟨rfl, k3'⟩) k4 (by omega) (by omega) k5 k6 (by omega) (k7 0 (by omega)) (k7 1 (by omega)) (k7 2 (by omega))
/-- What both are told as. -/
def resV' (is : List I6) (cr : Int) (s : SS) : V := .tup [.agg (stC (settleR is cr s).1), .bool (settleR is cr s).2]
theorem args_reify (is : List I6) (cr : Int) (s : SS) (σ : St) : allSome (reify σ 40) [.agg [.int .i64 cr, .lit (is.map I6.v)], .agg (stC s)] = some [.agg [.int .i64 cr, .lit (is.map I6.v)], .agg (stC s)] := rfl
theorem settleR_bad {is : List I6} {cr : Int} {s : SS} (h : ¬ ((s.regs.length : Int) = cr ∧ (s.taint.length : Int) = cr)) : settleR is cr s = (zS, false) := if_neg h
theorem settleR_good {is : List I6} {cr : Int} {s : SS} (h : (s.regs.length : Int) = cr ∧ (s.taint.length : Int) = cr) : settleR is cr s = ((match settleL is is.length s with | some s' => s' | none => zS), (settleL is is.length s).isSome) := by
  unfold settleR
  rw [if_pos h]
  cases settleL is is.length s <;> rfl
theorem told13 {U : List Int} {M : Nat} (hU : U.length ≤ M) (hM : M ≤ 20000000) (is : List I6) (cr : Int) (s : SS) (hlen : is.length ≤ 50000000) (hr : s.regs.length ≤ 50000000) (hs : Short U M s.taint) (σ : St) :
    callV (callL cfg) true 13 [.agg [.int .i64 cr, .lit (is.map I6.v)], .agg (stC s)] σ = some (resV' is cr s, σ) := by
  by_cases h : (s.regs.length : Int) = cr ∧ (s.taint.length : Int) = cr
  · obtain ⟨h1, h2⟩ := h
    subst h1
    obtain ⟨ok, r, s', g1, g2⟩ := call13_good hU (by omega) is s hlen hr (by omega) hs
    refine callV_told (args_reify is _ s σ) g1 ?_ rfl
    rw [g2, resV', settleR_good ⟨rfl, h2⟩]
    rfl
  · obtain ⟨s', g1⟩ := call13_bad is cr s h
    refine callV_told (args_reify is _ s σ) g1 ?_ rfl
    rw [resV', settleR_bad h]; rfl
theorem told14 {U : List Int} {M : Nat} (hU : U.length ≤ M) (hM : M ≤ 20000000) (is : List I6) (cr : Int) (s : SS) (hlen : is.length ≤ 50000000) (hr : s.regs.length ≤ 50000000) (hs : Short U M s.taint) (σ : St) :
    callV (callL cfg) true 14 [.agg [.int .i64 cr, .lit (is.map I6.v)], .agg (stC s)] σ = some (resV' is cr s, σ) := by
  by_cases h : (s.regs.length : Int) = cr ∧ (s.taint.length : Int) = cr
  · obtain ⟨h1, h2⟩ := h
    subst h1
    obtain ⟨ok, r, s', g1, g2⟩ := call14_good hU hM is s hlen hr (by omega) hs
    refine callV_told (args_reify is _ s σ) g1 ?_ rfl
    rw [g2, resV', settleR_good ⟨rfl, h2⟩]
  · obtain ⟨s', g1⟩ := call14_bad is cr s h
    refine callV_told (args_reify is _ s σ) g1 ?_ rfl
    rw [resV', settleR_bad h]; rfl
end Go.Proofs.YtdCfgT

/- The law SilentTells. -/
set_option maxRecDepth 100000
set_option linter.unusedSimpArgs false
set_option linter.unusedVariables false
namespace Go.Proofs.YtdCfgT
open Go Go.Ilv
theorem loop19 (t : List Int) (hl : t.length ≤ 50000000) (s : St) : ∀ (m k : Nat), k + m = t.length →
    execL cfg fi19 (sub code19 [1, 1, 0, 1, 0]) [(0, .lit (t.map iV)), (1, .lit (t.map iV)), (5, .int .i64 k)] s = some (.exit 0, [(0, .lit (t.map iV)), (1, .lit (t.map iV)), (5, .int .i64 t.length), (14, .bool false)], s) := by
  have hcode : sub code19 [1, 1, 0, 1, 0] = Code.loop (sub code19 [1, 1, 0, 1, 0, 0]) := rfl
  have hbody : sub code19 [1, 1, 0, 1, 0, 0] = Code.seq _ _ := rfl
  intro m
  induction m with
  | zero =>
    intro k hk
    obtain rfl : k = t.length := by omega
    rw [hcode, x_loop, hbody]
    simp only [↓x_seq, ↓x_reg, ↓x_cond, execL_exit, thn_normal, thn_exit, regK_mk, condK_ff, inss, ins, List.map_cons, List.map_nil, Option.map_none, List.getElem?_toArray, runI_nil, i_move, i_binOp, i_builtin, stepK_none, putE_some, frzD_some, bnd_some, yes_eq, keepE_nil, keepE_cons, cons1_some, List.contains_nil, prim_move, prim_binOp, prim_len, opnd_tmp, nilS_tmp, bin_lss, aget, aset, cond_false, decide_false, ↓reduceIte, eq_self,
      reduceCtorEq, Nat.reduceEqDiff, Nat.reduceLT, Nat.one_ne_zero, frz19, lv19_4, lenl26, List.length_map, Int.lt_irrefl]
  | succ m ih =>
    intro k hk
    have hp : k < t.length := by omega
    have hki : (k : Int) < (t.length : Int) := by omega
    have hg := get_lits hp
    have hw := wrap_next8 (k := k) (by omega)
    rw [hcode, x_loop, ← hcode, hbody]
    simp only [↓x_seq, ↓x_reg, ↓x_drawK, drawK_f, bumps, makes, goCall, writes, List.any_cons, List.any_nil, ↓x_cond, ↓x_block, execL_skip, thn_normal, regK_mk, condK_tt, condK_ff, outB_normal, inss, ins, List.map_cons, List.map_nil, Option.map_none, List.getElem?_toArray, runI_nil, i_move, i_assign, i_binOp, i_builtin, stepK_none, runDI_nil, d_move, d_load, d_binOp, d_indexAddr, stepD_none, putE_some, frzD_some, bnd_some, yes_eq, keepE_nil, keepE_cons, cons1_some, List.contains_nil, Bool.or_false, prim_move, prim_assign, prim_load, prim_binOp, prim_indexAddr, prim_len, true_and, opnd_tmp, opnd_int, nilS_tmp, nilS_int, bin_neq, bin_lss, bin_add, aget, aset, cond_false, decide_true, ↓reduceIte, eq_self,
      reduceCtorEq, Nat.reduceEqDiff, Nat.reduceLT, Nat.reduceAdd, Nat.one_ne_zero, indexAddr, rd, Int.natCast_nonneg, Int.toNat_natCast, List.length_cons, List.length_nil, List.take_succ_cons, List.take_nil, Nat.zero_add, Nat.add_zero, Nat.le_refl, ofCells, K.agg, cel_int, Bool.and_false, Bool.not_true, Bool.or_false, frz19, lv19_4, lv19_6, cf19_6, lv19_5, ty3, ty26, lenl26, List.length_map, hki, hg, hw]
    exact ih (k + 1) (by omega)
theorem told19 (t : List Int) (hl : t.length ≤ 50000000) (s : St) : callV (callL cfg) true 19 [.lit (t.map iV), .lit (t.map iV)] s = some (.bool true, s) := by
  have hc : code19 = Code.seq (sub code19 [0]) (Code.seq (Code.seq (sub code19 [1, 0, 0]) (sub code19 [1, 0, 1])) (Code.seq (Code.seq (sub code19 [1, 1, 0, 0]) (Code.block 0 (sub code19 [1, 1, 0, 1, 0]))) (sub code19 [1, 1, 1]))) := rfl
  have e0 : sub code19 [0] = Code.region _ _ _ := rfl
  have e1 : sub code19 [1, 0, 0] = Code.region _ _ _ := rfl
  have e2 : sub code19 [1, 0, 1] = Code.cond _ _ _ := rfl
  have e3 : sub code19 [1, 1, 0, 0] = Code.region _ _ _ := rfl
  have e4 : sub code19 [1, 1, 1] = Code.seq _ _ := rfl
  have hrr : fi19.fn.results.toList = [_] := rfl
  have g := loop19 t hl ⟨0, []⟩ t.length 0 (by omega)
  simp only [Int.cast_ofNat_Int] at g
  have key : callL cfg 19 [.lit (t.map iV), .lit (t.map iV)] St.empty = some (.bool true, St.empty) := by
    rw [call19, hc]
    simp only [↓x_seq, ↓x_reg, ↓x_cond, ↓x_block, execL_skip, execL_ret, thn_normal, regK_mk, condK_ff, outB_exit, inss, ins, List.map_cons, List.map_nil, Option.map_none, List.getElem?_toArray, runI_nil, i_move, i_assign, i_binOp, i_builtin, stepK_none, putE_some, frzD_some, bnd_some, yes_eq, keepE_nil, keepE_cons, cons1_some, List.contains_nil, prim_move, prim_assign, prim_binOp, prim_len, Nat.zero_le, opnd_tmp, opnd_int, opnd_bool, nilS_tmp, bin_neq, aget, aset, cond_true, cond_false, decide_true, ↓reduceIte, eq_self,
      reduceCtorEq, Nat.reduceEqDiff, Nat.reduceLT, Nat.one_ne_zero, Nat.zero_add, Bool.and_false, Bool.not_true, Bool.not_false, beq_self_eq_true, enumE, finK_ret, Ilv.results, resV, all_nil, all_cons, frz19, lv19_0, lv19_1, lv19_3, lv19_8, lenl26, St.killVars, St.kills, List.filter_nil, e0, e1, e2, e3, e4, hrr, keep19, List.length_map, g, St.empty]
  exact callV_told (show allSome (reify s 40) [.lit (t.map iV), .lit (t.map iV)] = some [.lit (t.map iV), .lit (t.map iV)] from rfl) key rfl rfl
def bxS (s : SS) : Ilv.Obj := ⟨4, 0, true, [[.int .i64 s.pc, .lit (s.regs.map iV), .lit (s.taint.map lits), .int .i64 s.ev]]⟩
theorem loop15a (s : SS) (hr : s.regs.length ≤ 50000000) : ∀ (m k : Nat), k + m = s.regs.length →
    execL cfg fi15 (sub code15 [1, 1, 0, 1, 0]) [(2, .ptr 0 0 0 0), (3, .ptr 1 0 0 0), (5, .int .i64 k)] ⟨2, [(0, bxS s), (1, bxS s)]⟩ = some (.exit 0, [(2, .ptr 0 0 0 0), (3, .ptr 1 0 0 0), (5, .int .i64 s.regs.length), (41, .bool false)], ⟨2, [(0, bxS s), (1, bxS s)]⟩) := by
  have hcode : sub code15 [1, 1, 0, 1, 0] = Code.loop (sub code15 [1, 1, 0, 1, 0, 0]) := rfl
  have hbody : sub code15 [1, 1, 0, 1, 0, 0] = Code.seq _ _ := rfl
  intro m
  induction m with
  | zero =>
    intro k hk
    obtain rfl : k = s.regs.length := by omega
    rw [hcode, x_loop, hbody]
    simp only [↓x_seq, ↓x_reg, ↓x_cond, execL_exit, thn_normal, thn_exit, regK_mk, condK_ff, inss, ins, List.map_cons, List.map_nil, Option.map_none, List.getElem?_toArray, List.getElem?_cons_zero, List.getElem?_cons_succ,
      runI_nil, i_move, i_load, i_binOp, i_fieldAddr, i_builtin, stepK_none, putE_some, frzD_some, bnd_some, yes_eq, keepE_nil, keepE_cons, cons1_some, List.contains_nil, prim_move, prim_load, prim_binOp, prim_fieldAddr, prim_len, opnd_tmp, nilS_tmp, bin_lss, aget, aset, cond_false, decide_false, ↓reduceIte, eq_self,
      reduceCtorEq, Nat.reduceEqDiff, Nat.reduceLT, Nat.reduceLeDiff, Nat.reduceAdd, Nat.one_ne_zero, fieldAddr, rd, List.length_cons, List.length_nil, List.take_succ_cons, List.take_zero, List.drop_succ_cons, List.drop_zero, Nat.zero_add, ofCells, K.agg, St_get, frz15, lv15_4, ty36, ty39, lenl36, List.length_map, Int.lt_irrefl, bxS]
  | succ m ih =>
    intro k hk
    have hp : k < s.regs.length := by omega
    have hki : (k : Int) < (s.regs.length : Int) := by omega
    have hg := get_lits hp
    have hw := wrap_next8 (k := k) (by omega)
    have g := ih (k + 1) (by omega)
    simp only [bxS] at g ⊢
    rw [hcode, x_loop, ← hcode, hbody]
    simp only [↓x_seq, ↓x_reg, ↓x_drawK, drawK_f, bumps, makes, goCall, writes, List.any_cons, List.any_nil, ↓x_cond, ↓x_block, execL_skip, thn_normal, regK_mk, condK_tt, condK_ff, outB_normal, inss, ins, List.map_cons, List.map_nil, Option.map_none, List.getElem?_toArray, List.getElem?_cons_zero, List.getElem?_cons_succ,
      runI_nil, i_move, i_assign, i_load, i_binOp, i_fieldAddr, i_builtin, stepK_none, runDI_nil, d_move, d_load, d_binOp, d_fieldAddr, d_indexAddr, stepD_none, putE_some, frzD_some, bnd_some, yes_eq, keepE_nil, keepE_cons, cons1_some, List.contains_nil, Bool.or_false, prim_move, prim_assign, prim_load, prim_binOp, prim_fieldAddr, prim_indexAddr, prim_len, true_and, opnd_tmp, opnd_int, nilS_tmp, nilS_int, bin_neq, bin_lss, bin_add, aget, aset, cond_false, decide_true, ↓reduceIte, eq_self,
      reduceCtorEq, Nat.reduceEqDiff, Nat.reduceLT, Nat.reduceLeDiff, Nat.reduceAdd, Nat.one_ne_zero, indexAddr, fieldAddr, rd, Int.natCast_nonneg, Int.toNat_natCast, List.length_cons, List.length_nil, List.take_succ_cons, List.take_zero, List.drop_succ_cons, List.drop_zero, List.take_nil, Nat.zero_add, Nat.add_zero, Nat.le_refl, ofCells, K.agg, cel_int, Bool.and_false, Bool.not_true, St_get, Bool.or_false, frz15, lv15_4, lv15_6, cf15_6, lv15_5, ty2, ty36, ty39, lenl36, List.length_map, hki, hg, hw]
    exact g
theorem loop15b (s : SS) (hl : s.taint.length ≤ 50000000) (hs : ∀ t ∈ s.taint, t.length ≤ 50000000) : ∀ (m k : Nat), k + m = s.taint.length →
    execL cfg fi15 (sub code15 [1, 1, 1, 0, 1, 0]) [(2, .ptr 0 0 0 0), (3, .ptr 1 0 0 0), (6, .int .i64 k)] ⟨2, [(0, bxS s), (1, bxS s)]⟩ = some (.exit 2, [(2, .ptr 0 0 0 0), (3, .ptr 1 0 0 0), (6, .int .i64 s.taint.length), (59, .bool false)], ⟨2, [(0, bxS s), (1, bxS s)]⟩) := by
  have hcode : sub code15 [1, 1, 1, 0, 1, 0] = Code.loop (sub code15 [1, 1, 1, 0, 1, 0, 0]) := rfl
  have hbody : sub code15 [1, 1, 1, 0, 1, 0, 0] = Code.seq _ _ := rfl
  intro m
  induction m with
  | zero =>
    intro k hk
    obtain rfl : k = s.taint.length := by omega
    rw [hcode, x_loop, hbody]
    simp only [↓x_seq, ↓x_reg, ↓x_cond, execL_exit, thn_normal, thn_exit, regK_mk, condK_ff, inss, ins, List.map_cons, List.map_nil, Option.map_none, List.getElem?_toArray, List.getElem?_cons_zero, List.getElem?_cons_succ,
      runI_nil, i_move, i_load, i_binOp, i_fieldAddr, i_builtin, stepK_none, putE_some, frzD_some, bnd_some, yes_eq, keepE_nil, keepE_cons, cons1_some, List.contains_nil, prim_move, prim_load, prim_binOp, prim_fieldAddr, prim_len, opnd_tmp, nilS_tmp, bin_lss, aget, aset, cond_false, decide_false, ↓reduceIte, eq_self,
      reduceCtorEq, Nat.reduceEqDiff, Nat.reduceLT, Nat.reduceLeDiff, Nat.reduceAdd, Nat.one_ne_zero, fieldAddr, rd, List.length_cons, List.length_nil, List.take_succ_cons, List.take_zero, List.drop_succ_cons, List.drop_zero, Nat.zero_add, ofCells, K.agg, St_get, frz15, lv15_9, ty37, ty39, lenl37, List.length_map, Int.lt_irrefl, bxS]
  | succ m ih =>
    intro k hk
    have hp : k < s.taint.length := by omega
    have hki : (k : Int) < (s.taint.length : Int) := by omega
    have hg : (s.taint.map lits)[k]? = some (.lit (s.taint[k].map iV)) := by rw [List.getElem?_map, List.getElem?_eq_getElem hp]; rfl
    have hw := wrap_next8 (k := k) (by omega)
    have ht := fun σ => told19 s.taint[k] (hs _ (List.getElem_mem hp)) σ
    have g := ih (k + 1) (by omega)
    simp only [bxS] at g ⊢
    rw [hcode, x_loop, ← hcode, hbody]
    simp only [↓x_seq, ↓x_reg, ↓x_drawK, drawK_f, bumps, makes, goCall, writes, List.any_cons, List.any_nil, ↓x_cond, ↓x_block, execL_skip, thn_normal, regK_mk, condK_tt, condK_ff, outB_normal, inss, ins, List.map_cons, List.map_nil, Option.map_none, List.getElem?_toArray, List.getElem?_cons_zero, List.getElem?_cons_succ,
      runI_nil, i_move, i_assign, i_load, i_binOp, i_fieldAddr, i_builtin, stepK_none, runDI_nil, d_move, d_load, d_unOp, d_fieldAddr, d_indexAddr, runDI_call, stepD_none, callD_mk,
      putE_some, frzD_some, bnd_some, yes_eq, keepE_nil, keepE_cons, cons1_some, List.contains_nil, Bool.or_false, prim_move, prim_assign, prim_load, prim_binOp, prim_unOp, prim_fieldAddr, prim_indexAddr, prim_len, true_and, opnd_tmp, opnd_int, opnds_nil, opnds_cons, nilS_tmp, nilS_int, bin_lss, bin_add, un_not, aget, aset, cond_false, decide_true, ↓reduceIte, eq_self,
      reduceCtorEq, Nat.reduceEqDiff, Nat.reduceLT, Nat.reduceLeDiff, Nat.reduceAdd, Nat.one_ne_zero, indexAddr, fieldAddr, rd, Int.natCast_nonneg, Int.toNat_natCast, List.length_cons, List.length_nil, List.take_succ_cons, List.take_zero, List.drop_succ_cons, List.drop_zero, List.take_nil, Nat.zero_add, Nat.add_zero, Nat.le_refl, ofCells, K.agg, cel_lit, Bool.and_false, Bool.not_true, St_get, callI_func, Bool.or_false, frz15, lv15_9, lv15_11, cf15_11, lv15_10, ty26, ty37, ty39, lenl37, List.length_map, hki, hg, hw, fn19, pure19, ht]
    exact g
theorem told15 (s : SS) (hr : s.regs.length ≤ 50000000) (hl : s.taint.length ≤ 50000000) (hs : ∀ t ∈ s.taint, t.length ≤ 50000000) (σ : St) : callV (callL cfg) true 15 [.agg (stC s), .agg (stC s)] σ = some (.bool true, σ) := by
  have hc : code15 = Code.seq (sub code15 [0]) (Code.seq (Code.seq (sub code15 [1, 0, 0]) (sub code15 [1, 0, 1])) (Code.seq (Code.seq (sub code15 [1, 1, 0, 0]) (Code.block 0 (sub code15 [1, 1, 0, 1, 0]))) (Code.seq (Code.seq (sub code15 [1, 1, 1, 0, 0]) (Code.block 2 (sub code15 [1, 1, 1, 0, 1, 0]))) (sub code15 [1, 1, 1, 1])))) := rfl
  have e0 : sub code15 [0] = Code.region _ _ _ := rfl
  have e1 : sub code15 [1, 0, 0] = Code.region _ _ _ := rfl
  have e2 : sub code15 [1, 0, 1] = Code.cond _ _ _ := rfl
  have e3 : sub code15 [1, 1, 0, 0] = Code.region _ _ _ := rfl
  have e4 : sub code15 [1, 1, 1, 0, 0] = Code.region _ _ _ := rfl
  have e5 : sub code15 [1, 1, 1, 1] = Code.seq _ _ := rfl
  have hrr : fi15.fn.results.toList = [_] := rfl
  have g1 := loop15a s hr s.regs.length 0 (by omega)
  have g2 := loop15b s hl hs s.taint.length 0 (by omega)
  simp only [Int.cast_ofNat_Int, bxS] at g1 g2
  have key : ∃ s', callL cfg 15 [.agg (stC s), .agg (stC s)] St.empty = some (.bool true, s') := by
    refine told_of ?_
    rw [call15, hc]
    simp only [↓x_seq, ↓x_reg, ↓x_cond, ↓x_block, execL_skip, execL_ret, thn_normal, regK_mk, condK_ff, outB_exit, inss, ins, List.map_cons, List.map_nil, Option.map_none, Option.map_some, Option.bind_some, List.getElem?_toArray, List.getElem?_cons_zero, List.getElem?_cons_succ,
      runI_nil, i_move, i_assign, i_pick, i_box, i_load, i_binOp, i_fieldAddr, i_builtin, runI_guard, guardK_ff, stepK_none, stepK_set, putE_some, frzD_some, bnd_some, yes_eq, keepE_nil, keepE_cons, cons1_some, List.contains_nil, prim_move, prim_assign, prim_box, prim_load, prim_binOp, prim_fieldAddr, prim_len, prim_pick, opnd_tmp, opnd_int, opnd_bool, nilS_tmp, bin_neq, aget, aset, cond_true, cond_false, decide_true, ↓reduceIte, eq_self,
      reduceCtorEq, Nat.reduceEqDiff, Nat.reduceLT, Nat.reduceLeDiff, Nat.reduceBEq, Nat.reduceAdd, Nat.one_ne_zero, fieldAddr, rd, List.length_cons, List.length_nil, List.take_succ_cons, List.take_zero, List.drop_succ_cons, List.drop_zero, List.take_nil, Nat.zero_add, Nat.add_zero, Nat.le_refl, ofCells, K.agg, sto_agg, cel_agg, Bool.true_and, Bool.not_true, beq_self_eq_true, St_get, enumE, finK_ret, Ilv.results, resV, all_nil, all_cons, frz15, lv15_0, lv15_1, lv15_3, lv15_8, lv15_13, ty3, ty36, ty37, ty39, lenl36, lenl37, e0, e1, e2, e3, e4, e5, hrr, keep15, stC, lits, litss, List.length_map, g1, g2, St.empty]
  obtain ⟨s', key⟩ := key
  exact callV_told (show allSome (reify σ 40) [.agg (stC s), .agg (stC s)] = some [.agg (stC s), .agg (stC s)] from rfl) key rfl rfl
theorem told16 (σ : St) : callV (callL cfg) true 16 [] σ = some (.bool true, σ) := by
  obtain ⟨s', key⟩ := closed_ok (C := cfg) (M := noMem) (noMem_ok cfg) (n := 1000000) (f := 16) (args := []) (v := .bool true) (isT_ok (by decide +kernel))
  exact callV_told (show allSome (reify σ 40) [] = some [] from rfl) key rfl rfl
/-- What comes out is as long as what went in. -/
theorem stepS_len {U : List Int} {M : Nat} (hU : U.length ≤ M) {op a b c nn : Int} {s s' : SS} (h : stepS op a b c nn s = some s') (hl : s.taint.length = s.regs.length) (hs : Short U M s.taint) : s'.regs.length = s.regs.length ∧ s'.taint.length = s.taint.length ∧ Short U M s'.taint := by
  unfold stepS at h
  split at h
  · cases h; exact ⟨rfl, rfl, hs⟩
  · split at h
    · cases h
    · rename_i v t hv
      split at h
      · rename_i ha
        cases h
        refine ⟨by simp, by simp, hs.set ?_⟩
        have hin : ∀ r, inR s.regs r = true → r.toNat < s.taint.length := fun r hr => by rw [hl]; exact (inR_spec hr).2.2
        unfold valS at hv
        split at hv
        · cases hv; exact ⟨by simp, by simp⟩
        · split at hv
          · cases hv
          · rename_i hb
            have hb' : inR s.regs b = true := by simpa using hb
            split at hv
            · cases hv; exact hs.get (hin b hb')
            · split at hv
              · cases hu : (evU nn (s.regs.getD b.toNat 0)).2 with
                | false => rw [hu] at hv; cases hv
                | true => rw [hu] at hv; cases hv; exact hs.get (hin b hb')
              · split at hv
                · cases hv
                · rename_i hc
                  have hc' : inR s.regs c = true := by simpa using hc
                  cases hu : (evB nn (s.regs.getD b.toNat 0) (s.regs.getD c.toNat 0)).2 with
                  | false => rw [hu] at hv; cases hv
                  | true => rw [hu] at hv; cases hv; exact uni_short hU (hs.get (hin b hb')).2 (hs.get (hin c hc')).2
      · cases h
theorem settleL_len {U : List Int} {M : Nat} (hU : U.length ≤ M) (is : List I6) : ∀ (m : Nat) {s s' : SS}, settleL is m s = some s' → s.taint.length = s.regs.length → Short U M s.taint → s'.regs.length = s.regs.length ∧ s'.taint.length = s.taint.length ∧ Short U M s'.taint
  | 0, s, s', h, hl, hs => by
    simp only [settleL] at h
    split at h
    · split at h
      · cases h
      · split at h
        · cases h
        · cases h; exact ⟨rfl, rfl, hs⟩
    · cases h
  | m + 1, s, s', h, hl, hs => by
    simp only [settleL] at h
    split at h
    · split at h
      · cases h
      · split at h
        · split at h
          · cases h
          · rename_i s1 hst
            obtain ⟨h1, h2, h3⟩ := stepS_len hU hst hl hs
            obtain ⟨g1, g2, g3⟩ := settleL_len hU is m h (by omega) h3
            exact ⟨by omega, by omega, g3⟩
        · cases h; exact ⟨rfl, rfl, hs⟩
    · cases h
theorem law {U : List Int} {M : Nat} (hU : U.length ≤ M) (hM : M ≤ 20000000) (is : List I6) (cr : Int) (s : SS) (hlen : is.length ≤ 50000000) (hr : s.regs.length ≤ 50000000) (hs : Short U M s.taint) :
    ∃ σ : St, callL cfg 5 [.agg [.int .i64 cr, .lit (is.map I6.v)], .agg (stC s)] St.empty = some (.bool true, σ) := by
  have hc : code5 = Code.seq _ _ := rfl
  have hrr : fi5.fn.results.toList = [_] := rfl
  have t13 := fun σ => told13 hU hM is cr s hlen hr hs σ
  have t14 := fun σ => told14 hU hM is cr s hlen hr hs σ
  have hres : ((settleR is cr s).1.regs.length ≤ 50000000 ∧ (settleR is cr s).1.taint.length ≤ 50000000) ∧ ∀ t ∈ (settleR is cr s).1.taint, t.length ≤ 50000000 := by
    by_cases h : (s.regs.length : Int) = cr ∧ (s.taint.length : Int) = cr
    · rw [settleR_good h]
      cases hst : settleL is is.length s with
      | none => exact ⟨⟨by simp [zS], by simp [zS]⟩, by simp [zS]⟩
      | some s' =>
        obtain ⟨h1, h2, h3⟩ := settleL_len hU is _ hst (by omega) hs
        exact ⟨⟨by show s'.regs.length ≤ _; omega, by show s'.taint.length ≤ _; omega⟩, fun t ht => by have := (h3 t ht).1; omega⟩
    · rw [settleR_bad h]; exact ⟨⟨by simp [zS], by simp [zS]⟩, by simp [zS]⟩
  have t15 := fun σ => told15 (settleR is cr s).1 hres.1.1 hres.1.2 hres.2 σ
  simp only [resV', stC, lits, litss] at t13 t14 t15
  have bt : bin cfg .eql 4 (.bool true) (.bool true) = some (.bool true) := rfl
  have bf : bin cfg .eql 4 (.bool false) (.bool false) = some (.bool true) := rfl
  refine told_of ?_
  rw [call5, hc]
  cases hb : (settleR is cr s).2 with
  | false =>
    rw [hb] at t13 t14
    simp only [↓x_seq, ↓x_reg, execL_ret, thn_normal, regK_mk, inss, ins, List.map_cons, List.map_nil, Option.map_none, Option.map_some, Option.bind_some, List.getElem?_toArray, List.getElem?_cons_zero, List.getElem?_cons_succ,
      runI_nil, i_move, i_assign, i_pick, i_alloc, i_box, i_load, i_store, i_binOp, i_extract, runI_call, runI_guard, guardK_tt, stepK_none, stepK_set, callK_mk,
      putE_some, putE_none, frzD_some, frzD_none, bnd_some, yes_eq, keepE_nil, keepE_cons, cons1_some, List.contains_nil, prim_move, prim_assign, prim_alloc, prim_box, prim_load, prim_store, prim_binOp, prim_extract, prim_pick, opnd_tmp, opnd_bool, opnds_nil, opnds_cons, nilS_tmp, aget, aset, cond_true, cond_false, decide_true, ↓reduceIte, eq_self,
      reduceCtorEq, Nat.reduceEqDiff, Nat.reduceLT, Nat.reduceBEq, Nat.reduceAdd, Nat.one_ne_zero, rd, List.length_cons, List.length_nil, List.take_succ_cons, List.take_zero, List.drop_succ_cons, List.drop_zero, List.drop_nil, List.take_nil, List.set_cons_zero, List.nil_append, List.cons_append, Nat.zero_add, Nat.le_refl, ofCells, K.agg, put1, splice, sto_agg, cel_agg, Bool.true_and, beq_self_eq_true, St_get, enumE, callI_func, finK_ret, Ilv.results, resV, all_nil, all_cons, frz5, lv5_0, lv5_1, lv5_2, lv5_3, ty35, ty39, hrr, keep5, stC, lits, litss, St.empty, fn13, pure13, fn14, pure14, fn15, pure15, fn16, pure16, t13, t14, t15, told16, bf]
  | true =>
    rw [hb] at t13 t14
    simp only [↓x_seq, ↓x_reg, execL_ret, thn_normal, regK_mk, inss, ins, List.map_cons, List.map_nil, Option.map_none, Option.map_some, Option.bind_some, List.getElem?_toArray, List.getElem?_cons_zero, List.getElem?_cons_succ,
      runI_nil, i_move, i_assign, i_pick, i_alloc, i_box, i_load, i_store, i_binOp, i_extract, runI_call, runI_guard, guardK_tt, stepK_none, stepK_set, callK_mk,
      putE_some, putE_none, frzD_some, frzD_none, bnd_some, yes_eq, keepE_nil, keepE_cons, cons1_some, List.contains_nil, prim_move, prim_assign, prim_alloc, prim_box, prim_load, prim_store, prim_binOp, prim_extract, prim_pick, opnd_tmp, opnd_bool, opnds_nil, opnds_cons, nilS_tmp, aget, aset, cond_true, cond_false, decide_true, ↓reduceIte, eq_self,
      reduceCtorEq, Nat.reduceEqDiff, Nat.reduceLT, Nat.reduceBEq, Nat.reduceAdd, Nat.one_ne_zero, rd, List.length_cons, List.length_nil, List.take_succ_cons, List.take_zero, List.drop_succ_cons, List.drop_zero, List.drop_nil, List.take_nil, List.set_cons_zero, List.nil_append, List.cons_append, Nat.zero_add, Nat.le_refl, ofCells, K.agg, put1, splice, sto_agg, cel_agg, Bool.true_and, beq_self_eq_true, St_get, enumE, callI_func, finK_ret, Ilv.results, resV, all_nil, all_cons, frz5, lv5_0, lv5_1, lv5_2, lv5_3, ty35, ty39, hrr, keep5, stC, lits, litss, St.empty, fn13, pure13, fn14, pure14, fn15, pure15, fn16, pure16, t13, t14, t15, told16, bt]
end Go.Proofs.YtdCfgT

/- The law SilentTells, said of its arguments' trees. -/
set_option maxRecDepth 100000
set_option linter.unusedVariables false
namespace Go.Proofs.YtdCfgT
open Go Go.Ilv
def shI : Sh := .agg [.int .i64, .int .i64, .int .i64, .int .i64, .int .i64, .int .i64]
theorem shape35 : shOf cfg 6 35 = some (.agg [.int .i64, .slice shI]) := by rfl
theorem shape39 : shOf cfg 6 39 = some (.agg [.int .i64, .slice (.int .i64), .slice (.slice (.int .i64)), .int .i64]) := by rfl

theorem wf_int {v : V} (h : (Sh.int .i64).Wf v) : ∃ n : Int, v = iV n := by
  cases v <;> simp only [Sh.Wf] at h
  rename_i k n
  obtain ⟨rfl, _⟩ := h
  exact ⟨n, rfl⟩
theorem wf_slice {e : Sh} {v : V} (h : (Sh.slice e).Wf v) : ∃ xs : List V, v = .lit xs ∧ ∀ x ∈ xs, e.Wf x := by
  cases v <;> simp only [Sh.Wf] at h
  exact ⟨_, rfl, h.2⟩
theorem wf_agg {l : List Sh} {v : V} (h : (Sh.agg l).Wf v) : ∃ cs : List V, v = .agg cs ∧ Sh.WfL l cs := by
  cases v <;> simp only [Sh.Wf] at h
  exact ⟨_, rfl, h⟩
theorem wf_cons {s : Sh} {l : List Sh} {vs : List V} (h : Sh.WfL (s :: l) vs) : ∃ (v : V) (r : List V), vs = v :: r ∧ s.Wf v ∧ Sh.WfL l r := by
  cases vs with
  | nil => simp [Sh.WfL] at h
  | cons v r => simp only [Sh.WfL] at h; exact ⟨v, r, rfl, h.2⟩
theorem wf_nil {vs : List V} (h : Sh.WfL [] vs) : vs = [] := by
  cases vs with
  | nil => rfl
  | cons v r => simp [Sh.WfL] at h
theorem map_of {α : Type} {f : α → V} : ∀ {xs : List V}, (∀ x ∈ xs, ∃ a, x = f a) → ∃ ys : List α, xs = ys.map f
  | [], _ => ⟨[], rfl⟩
  | x :: xs, h => by
    obtain ⟨a, ha⟩ := h x (by simp)
    obtain ⟨ys, has⟩ := map_of (f := f) (xs := xs) fun y hy => h y (by simp [hy])
    exact ⟨a :: ys, by rw [ha, has]; rfl⟩
theorem wf_ins {v : V} (h : shI.Wf v) : ∃ i : I6, v = i.v := by
  obtain ⟨cs, rfl, h⟩ := wf_agg h
  obtain ⟨a, r, rfl, ha, h⟩ := wf_cons h
  obtain ⟨b, r, rfl, hb, h⟩ := wf_cons h
  obtain ⟨c, r, rfl, hc, h⟩ := wf_cons h
  obtain ⟨d, r, rfl, hd, h⟩ := wf_cons h
  obtain ⟨e, r, rfl, he, h⟩ := wf_cons h
  obtain ⟨f, r, rfl, hf, h⟩ := wf_cons h
  obtain rfl := wf_nil h
  obtain ⟨a, rfl⟩ := wf_int ha
  obtain ⟨b, rfl⟩ := wf_int hb
  obtain ⟨c, rfl⟩ := wf_int hc
  obtain ⟨d, rfl⟩ := wf_int hd
  obtain ⟨e, rfl⟩ := wf_int he
  obtain ⟨f, rfl⟩ := wf_int hf
  exact ⟨⟨a, b, c, d, e, f⟩, rfl⟩
theorem wf_ints {v : V} (h : (Sh.slice (.int .i64)).Wf v) : ∃ zs : List Int, v = lits zs := by
  obtain ⟨xs, rfl, g⟩ := wf_slice h
  obtain ⟨zs, rfl⟩ := map_of (f := iV) fun x hx => wf_int (g x hx)
  exact ⟨zs, rfl⟩
theorem wtL_ints : ∀ zs : List Int, V.wtL (zs.map iV) = zs.length
  | [] => rfl
  | z :: zs => by simp only [List.map_cons, V.wtL, wtL_ints zs, iV, V.wt, List.length_cons]; omega
theorem wtL_len : ∀ {α : Type} (f : α → V) (h : ∀ a, 1 ≤ (f a).wt) (xs : List α), xs.length ≤ V.wtL (xs.map f)
  | _, _, _, [] => by simp
  | _, f, h, x :: xs => by have := wtL_len f h xs; have := h x; simp only [List.map_cons, V.wtL, List.length_cons]; omega
theorem wtL_litss : ∀ ts : List (List Int), ts.flatten.length ≤ V.wtL (ts.map lits)
  | [] => by simp
  | t :: ts => by have := wtL_litss ts; simp only [List.map_cons, V.wtL, lits, V.wt, wtL_ints, List.flatten_cons, List.length_append] at this ⊢; omega

theorem law_wf {x0 x1 : V} (w0 : (Sh.agg [.int .i64, .slice shI]).Wf x0) (w1 : (Sh.agg [.int .i64, .slice (.int .i64), .slice (.slice (.int .i64)), .int .i64]).Wf x1)
    (h0 : x0.wt ≤ 1048576) (h1 : x1.wt ≤ 1048576) : ∃ s' : St, callL cfg 5 [x0, x1] St.empty = some (.bool true, s') := by
  obtain ⟨cs, rfl, h⟩ := wf_agg w0
  obtain ⟨a, r, rfl, ha, h⟩ := wf_cons h
  obtain ⟨b, r, rfl, hb, h⟩ := wf_cons h
  obtain rfl := wf_nil h
  obtain ⟨cr, rfl⟩ := wf_int ha
  obtain ⟨xs, rfl, gb⟩ := wf_slice hb
  obtain ⟨is, rfl⟩ := map_of (f := I6.v) fun x hx => wf_ins (gb x hx)
  obtain ⟨cs, rfl, h⟩ := wf_agg w1
  obtain ⟨a, r, rfl, ha, h⟩ := wf_cons h
  obtain ⟨b, r, rfl, hb, h⟩ := wf_cons h
  obtain ⟨c, r, rfl, hc, h⟩ := wf_cons h
  obtain ⟨d, r, rfl, hd, h⟩ := wf_cons h
  obtain rfl := wf_nil h
  obtain ⟨pc, rfl⟩ := wf_int ha
  obtain ⟨regs, rfl⟩ := wf_ints hb
  obtain ⟨ts, rfl, gc⟩ := wf_slice hc
  obtain ⟨taint, rfl⟩ := map_of (f := lits) fun x hx => wf_ints (gc x hx)
  obtain ⟨ev, rfl⟩ := wf_int hd
  have g0 := wtL_len I6.v (fun i => by simp [I6.v, iC, V.wt, V.wtL]) is
  have g1 := wtL_ints regs
  have g2 := wtL_litss taint
  simp only [V.wt, V.wtL, iV, lits] at h0 h1 g1
  have g2' : taint.flatten.length ≤ V.wtL (taint.map fun z => V.lit (z.map iV)) := g2
  refine law (U := taint.flatten) (M := 1048576) ?_ (by omega) is cr ⟨pc, regs, taint, ev⟩ (by omega) ?_ ?_
  · have e : (taint.map lits) = taint.map fun z => V.lit (z.map iV) := rfl
    simp only [iV] at *
    omega
  · show regs.length ≤ _
    simp only [iV] at *
    omega
  · intro t ht
    have hl : t.length ≤ taint.flatten.length := by
      obtain ⟨a, b, e⟩ := List.append_of_mem ht
      have e : (taint : List (List Int)) = a ++ t :: b := e
      rw [e]; simp; omega
    refine ⟨?_, fun x hx => List.mem_flatten.2 ⟨t, ht, hx⟩⟩
    simp only [iV] at *
    omega
end Go.Proofs.YtdCfgT
