import Derived.Test.YtdofkchhdckomaaLw1
import Derived.Test.YtdofkchhdckomaaLw3
/- silent.Settle, told. -/
set_option maxRecDepth 100000
set_option linter.unusedSimpArgs false
set_option linter.unusedVariables false
namespace Go.Proofs.YtdCfgT
open Go Go.Ilv
def zS : SS := ⟨0, [], [], 0⟩
def settleR (is : List I6) (cr : Int) (s : SS) : SS × Bool :=
  if (s.regs.length : Int) = cr ∧ (s.taint.length : Int) = cr then match settleL is is.length s with
    | some s' => (s', true)
    | none => (zS, false)
  else (zS, false)
theorem reify_T {l : List (Nat × Ilv.Obj)} {n tid m : Nat} {taint : List (List Int)} (h : aget l tid = some (TObj taint)) : reify ⟨n, l⟩ (m + 2) (.ref tid 0 1 0 taint.length) = some (litss taint) := by
  have h2 : (List.take taint.length (taint.map tRow)).map rowV = taint.map lits := by
    rw [List.take_of_length_le (by simp), List.map_map]
    exact List.map_congr_left fun z _ => rfl
  have h3 : allSome (reify ⟨n, l⟩ (m + 1)) (taint.map lits) = some (taint.map lits) := allSome_id fun x hx => by
    obtain ⟨z, _, rfl⟩ := List.mem_map.1 hx
    rfl
  rw [rf_ref]
  simp only [elems, St.get, h, TObj, if_true, List.length_map, Nat.zero_add, Nat.le_refl, List.drop_zero, h2, bnd_some, h3, litss]
theorem reify_R {l : List (Nat × Ilv.Obj)} {n rid m : Nat} {rv : V} {regs : List Int} (h : Regs l rid rv regs) : reify ⟨n, l⟩ (m + 2) rv = some (lits regs) := by
  rcases h with ⟨rfl, h⟩ | ⟨rfl, rfl⟩
  · have h2 : (List.take regs.length (regs.map intRow)).map rowV = regs.map iV := by
      rw [List.take_of_length_le (by simp), List.map_map]
      exact List.map_congr_left fun z _ => rfl
    have h3 : allSome (reify ⟨n, l⟩ (m + 1)) (regs.map iV) = some (regs.map iV) := allSome_id fun x hx => by
      obtain ⟨z, _, rfl⟩ := List.mem_map.1 hx
      rfl
    rw [rf_ref]
    simp only [elems, St.get, h, if_true, List.length_map, Nat.zero_add, Nat.le_refl, List.drop_zero, h2, bnd_some, h3, lits]
  · rfl
theorem Regs.kill {l : List (Nat × Ilv.Obj)} {n base rid : Nat} {rv : V} {regs : List Int} (h : Regs l rid rv regs) : Regs (St.killVars ⟨n, l⟩ base).objs rid rv regs := by
  rcases h with ⟨h1, h2⟩ | h
  · exact .inl ⟨h1, aget_kill_some (s := ⟨n, l⟩) h2 rfl⟩
  · exact .inr h
/-- What the result is told as. -/
theorem reify_out {l : List (Nat × Ilv.Obj)} {n n2 base rid tid : Nat} {rv : V} {s : SS} {ok : Bool} (h1 : Regs l rid rv s.regs) (h2 : aget l tid = some (TObj s.taint)) :
    reify ⟨n2, (St.killVars ⟨n, l⟩ base).objs⟩ 40 (.tup [.agg [.int .i64 s.pc, rv, .ref tid 0 1 0 s.taint.length, .int .i64 s.ev], .bool ok]) = some (.tup [.agg (stC s), .bool ok]) := by
  have e1 := reify_R (n := n2) (m := 36) (h1.kill (n := n) (base := base))
  have e2 := reify_T (n := n2) (m := 36) (aget_kill_some (s := ⟨n, l⟩) (base := base) h2 rfl)
  simp only [rf_tup, rf_agg, all_cons, all_nil, rf_int, rf_bool, e1, e2, bnd_some, stC]
theorem call13_bad (is : List I6) (cr : Int) (s : SS) (h : ¬ ((s.regs.length : Int) = cr ∧ (s.taint.length : Int) = cr)) :
    ∃ s', callL cfg 13 [.agg [.int .i64 cr, .lit (is.map I6.v)], .agg (stC s)] St.empty = some (.tup [.agg zC, .bool false], s') := by
  have hc : code13 = Code.seq (sub code13 [0]) (Code.seq (Code.seq (sub code13 [1, 0, 0]) (sub code13 [1, 0, 1])) (Code.seq (sub code13 [1, 1, 0]) (Code.seq (Code.seq (sub code13 [1, 1, 1, 0, 0]) (Code.block 0 (sub code13 [1, 1, 1, 0, 1, 0]))) (sub code13 [1, 1, 1, 1])))) := rfl
  have e0 : sub code13 [0] = Code.region _ _ _ := rfl
  have e1 : sub code13 [1, 0, 0] = Code.region _ _ _ := rfl
  have e2 : sub code13 [1, 0, 1] = Code.cond _ _ _ := rfl
  have hrr : fi13.fn.results.toList = [_, _] := rfl
  refine told_of ?_
  rw [call13, hc]
  by_cases h1 : (s.regs.length : Int) = cr
  · have h2 : ¬ ((s.taint.length : Int) = cr) := fun e => h ⟨h1, e⟩
    simp only [↓x_seq, ↓x_reg, ↓x_cond, execL_ret, thn_normal, thn_ret, regK_mk, condK_tt, inss, ins, List.map_cons, List.map_nil, Option.map_none, Option.map_some, Option.bind_some, List.getElem?_toArray, List.getElem?_cons_zero, List.getElem?_cons_succ,
      runI_nil, i_move, i_assign, i_pick, i_alloc, i_box, i_build, i_load, i_store, i_binOp, i_fieldAddr, i_builtin, runI_guard, guardK_ff, stepK_none, stepK_set, putE_some, putE_none, frzD_some, frzD_none, bnd_some, yes_eq, keepE_nil, keepE_cons, cons1_some, List.contains_nil, prim_move, prim_assign, prim_alloc, prim_box, prim_build, prim_load, prim_store, prim_binOp, prim_fieldAddr, prim_len, prim_pick, opnd_tmp, opnd_bool, popnds_nil, nilS_tmp, bin_neq, aget, aset, cond_true, cond_false, decide_true, decide_false, ↓reduceIte, eq_self,
      reduceCtorEq, Nat.reduceEqDiff, Nat.reduceLT, Nat.reduceLeDiff, Nat.reduceBEq, Nat.reduceAdd, Nat.one_ne_zero, fieldAddr, rd, V.cells, List.length_cons, List.length_nil, List.take_succ_cons, List.take_zero, List.drop_succ_cons, List.drop_zero, List.drop_nil, List.take_nil, List.set_cons_zero, List.nil_append, List.cons_append, Nat.zero_add, Nat.add_zero, Nat.le_refl, ofCells, K.agg, put1, splice, build, buildFill, V.storable, Bool.true_and, Bool.not_true, Bool.not_false, beq_self_eq_true, St_get, enumE, finK_ret, Ilv.results, resV, all_nil, all_cons, frz13, lv13_0, lv13_1, lv13_2, ty3, ty35, ty36, ty37, ty39, lenl36, lenl37, e0, e1, e2, hrr, keep13, stC, lits, litss, List.length_map, h1, h2, St.empty, zC]
  · simp only [↓x_seq, ↓x_reg, ↓x_cond, execL_ret, thn_normal, thn_ret, regK_mk, condK_tt, inss, ins, List.map_cons, List.map_nil, Option.map_none, Option.map_some, Option.bind_some, List.getElem?_toArray, List.getElem?_cons_zero, List.getElem?_cons_succ,
      runI_nil, i_move, i_assign, i_pick, i_alloc, i_box, i_build, i_load, i_store, i_binOp, i_fieldAddr, i_builtin, runI_guard, guardK_ft, stepK_none, stepK_set, putE_some, putE_none, frzD_some, frzD_none, bnd_some, yes_eq, keepE_nil, keepE_cons, cons1_some, List.contains_nil, prim_move, prim_assign, prim_alloc, prim_box, prim_build, prim_load, prim_store, prim_binOp, prim_fieldAddr, prim_len, prim_pick, opnd_tmp, opnd_bool, popnds_nil, nilS_tmp, bin_neq, aget, aset, cond_true, cond_false, decide_true, decide_false, ↓reduceIte, eq_self,
      reduceCtorEq, Nat.reduceEqDiff, Nat.reduceLT, Nat.reduceLeDiff, Nat.reduceBEq, Nat.reduceAdd, Nat.one_ne_zero, fieldAddr, rd, V.cells, List.length_cons, List.length_nil, List.take_succ_cons, List.take_zero, List.drop_succ_cons, List.drop_zero, List.drop_nil, List.take_nil, List.set_cons_zero, List.nil_append, List.cons_append, Nat.zero_add, Nat.add_zero, Nat.le_refl, ofCells, K.agg, put1, splice, build, buildFill, V.storable, Bool.true_and, Bool.not_false, beq_self_eq_true, St_get, enumE, finK_ret, Ilv.results, resV, all_nil, all_cons, frz13, lv13_0, lv13_1, lv13_2, ty3, ty35, ty36, ty39, lenl36, e0, e1, e2, hrr, keep13, stC, lits, litss, List.length_map, h1, St.empty, zC]
def Told13 (is : List I6) (s : SS) : Prop :=
    ∃ ok r s', callL cfg 13 [.agg [.int .i64 s.regs.length, .lit (is.map I6.v)], .agg (stC s)] St.empty = some (.tup [r, .bool ok], s') ∧
      reify s' 40 (.tup [r, .bool ok]) = some (.tup [.agg (stC (match settleL is is.length s with | some s' => s' | none => zS)), .bool (settleL is is.length s).isSome])
theorem call13_good {U : List Int} {M : Nat} (hU : U.length ≤ M) (hM : M ≤ 50000000) (is : List I6) (s : SS) (hlen : is.length ≤ 50000000) (hr : s.regs.length ≤ 50000000) (hl : s.taint.length = s.regs.length) (hs : Short U M s.taint) :
    Told13 is s := by
  have hc : code13 = Code.seq (sub code13 [0]) (Code.seq (Code.seq (sub code13 [1, 0, 0]) (sub code13 [1, 0, 1])) (Code.seq (sub code13 [1, 1, 0]) (Code.seq (Code.seq (sub code13 [1, 1, 1, 0, 0]) (Code.block 0 (sub code13 [1, 1, 1, 0, 1, 0]))) (sub code13 [1, 1, 1, 1])))) := rfl
  have e0 : sub code13 [0] = Code.region _ _ _ := rfl
  have e1 : sub code13 [1, 0, 0] = Code.region _ _ _ := rfl
  have e2 : sub code13 [1, 0, 1] = Code.cond _ _ _ := rfl
  have e3 : sub code13 [1, 1, 0] = Code.region _ _ _ := rfl
  have e4 : sub code13 [1, 1, 1, 0, 0] = Code.region _ _ _ := rfl
  have hrr : fi13.fn.results.toList = [_, _] := rfl
  -- the store ahead of the clone
  have hf0 : Fresh 3 [(0, (⟨2, 0, true, [[.int .i64 s.regs.length, .lit (is.map I6.v)]]⟩ : Ilv.Obj)), (1, ⟨4, 0, true, [[.int .i64 s.pc, .lit (s.regs.map iV), .lit (s.taint.map lits), .int .i64 s.ev]]⟩), (2, ⟨4, 0, true, [[.int .i64 0, .nils, .nils, .int .i64 0]]⟩)] := by
    intro j hj
    simp only [aget]
    rw [if_neg (by omega), if_neg (by omega), if_neg (by omega)]
  have hsm : ∀ t ∈ s.taint, t.length ≤ 100000000 := fun t ht => by have := (hs t ht).1; omega
  have key : ∀ (m rid tid : Nat) (rv : V) (l' : List (Nat × Ilv.Obj)), callL cfg 23 [.agg (stC s)] ⟨3, [(0, (⟨2, 0, true, [[.int .i64 s.regs.length, .lit (is.map I6.v)]]⟩ : Ilv.Obj)), (1, ⟨4, 0, true, [[.int .i64 s.pc, .lit (s.regs.map iV), .lit (s.taint.map lits), .int .i64 s.ev]]⟩), (2, ⟨4, 0, true, [[.int .i64 0, .nils, .nils, .int .i64 0]]⟩)]⟩ = some (.agg [.int .i64 s.pc, rv, .ref tid 0 1 0 s.taint.length, .int .i64 s.ev], ⟨m, l'⟩) →
      Fresh m l' → Regs l' rid rv s.regs → aget l' tid = some (TObj s.taint) → 3 ≤ rid → 3 ≤ tid → rid < m → tid < m → rid ≠ tid → 3 ≤ m →
      aget l' 0 = some ⟨2, 0, true, [[.int .i64 s.regs.length, .lit (is.map I6.v)]]⟩ → aget l' 1 = some ⟨4, 0, true, [[.int .i64 s.pc, .lit (s.regs.map iV), .lit (s.taint.map lits), .int .i64 s.ev]]⟩ → aget l' 2 = some ⟨4, 0, true, [zC]⟩ → Told13 is s := by
    intro m rid tid rv l' hcl hf hR hT r3 t3 hrm htm hne hm3 a0 a1 a2
    have hI : Inv U M (aset l' 1 (Sbox s.pc rv (.ref tid 0 1 0 s.taint.length) s.ev)) m rid tid rv s :=
      ⟨by omega, hf.set (Nat.le_refl _) (by omega), aget_self, hR.set (by omega), by rw [aget_ne (by omega)]; exact hT, hl, hrm, htm, by omega, by omega, hne, hs⟩
    obtain ⟨ok, n2, l2, g1, g2⟩ := loop13 hU hM is s.regs.length hlen r3 t3 is.length 0 m _ s (by omega) hI (by rw [aget_ne (by omega)]; exact a0) (by rw [aget_ne (by omega)]; exact a2)
    simp only [Int.cast_ofNat_Int, Sbox, hl] at g1
    have q1 : (1 = m) = False := eq_false (by omega)
    have hrs := rv_st hR
    have hcl' := hcl
    simp only [stC, lits, litss] at hcl'
    have fin : ∀ (cells : List V) (o : Ilv.Obj), aget l2 2 = some ⟨4, 0, true, [cells]⟩ → cells.length = 4 → callL cfg 13 [.agg [.int .i64 s.regs.length, .lit (is.map I6.v)], .agg (stC s)] St.empty = some (.tup [.agg cells, .bool ok], St.killVars ⟨n2, l2⟩ 0) := by
      intro cells o ha hcl4
      match cells, hcl4 with
      | [x1, x2, x3, x4], _ =>
        rw [call13, hc]
        simp only [↓x_seq, ↓x_reg, ↓x_cond, ↓x_block, execL_skip, thn_normal, thn_ret, regK_mk, condK_ff, outB_ret, inss, ins, List.map_cons, List.map_nil, Option.map_none, Option.map_some, Option.bind_some, List.getElem?_toArray, List.getElem?_cons_zero, List.getElem?_cons_succ,
      runI_nil, i_move, i_assign, i_pick, i_alloc, i_box, i_load, i_store, i_binOp, i_fieldAddr, i_builtin, runI_call, runI_guard, guardK_ff, stepK_none, stepK_set, callK_mk,
      putE_some, putE_none, frzD_some, frzD_none, bnd_some, yes_eq, keepE_nil, keepE_cons, cons1_some, List.contains_nil, prim_move, prim_assign, prim_alloc, prim_box, prim_load, prim_store, prim_binOp, prim_fieldAddr, prim_len, prim_pick, opnd_tmp, opnd_int, opnd_bool, opnds_nil, opnds_cons, nilS_tmp, bin_neq, aget, aset, cond_true, cond_false, decide_true, ↓reduceIte, eq_self,
      reduceCtorEq, Nat.reduceEqDiff, Nat.reduceLT, Nat.reduceLeDiff, Nat.reduceBEq, Nat.reduceAdd, Nat.one_ne_zero, fieldAddr, rd, V.cells, List.length_cons, List.length_nil, List.take_succ_cons, List.take_zero, List.drop_succ_cons, List.drop_zero, List.drop_nil, List.take_nil, List.set_cons_zero, List.nil_append, List.cons_append, Nat.zero_add, Nat.add_zero, Nat.le_refl, ofCells, K.agg, put1, splice, V.storable, Bool.true_and, Bool.not_true, beq_self_eq_true, St_get, enumE, callI_func, finK_ret, Ilv.results, resV, all_nil, all_cons, frz13, lv13_0, lv13_1, lv13_3, lv13_4, ty3, ty35, ty36, ty37, ty39, lenl36, lenl37, e0, e1, e2, e3, e4, hrr, keep13, stC, lits, litss, List.length_map, hl, St.empty, fn23, pure23, callV_f, hcl', q1, a1, g1, ha]
    cases hset : settleL is is.length s with
    | none =>
      rw [hset] at g2
      obtain ⟨rfl, o2⟩ := g2
      exact ⟨false, _, _, fin zC default o2 rfl, by rw [hset]; rfl⟩
    | some s' =>
      rw [hset] at g2
      obtain ⟨rfl, o2, oR, oT⟩ := g2
      exact ⟨true, _, _, fin _ default o2 rfl, by rw [hset]; exact reify_out (base := 0) oR oT⟩
  by_cases hreg : s.regs = []
  · obtain ⟨l', k1, k2, k3, k4⟩ := call23b hf0 s hr (by omega) hsm hreg
    exact key 6 3 5 .nils l' k1 k2 (.inr ⟨rfl, hreg⟩) k3 (by omega) (by omega) (by omega) (by omega) (by omega) (by omega) (k4 0 (by omega)) (k4 1 (by omega)) (k4 2 (by omega))
  · obtain ⟨l', k1, k2, k2', k3, k4⟩ := call23a hf0 s hr (by omega) hsm hreg
    exact key 7 5 6 _ l' k1 k2 (.inl ⟨rfl, k2'⟩) k3 (by omega) (by omega) (by omega) (by omega) (by omega) (by omega) (k4 0 (by omega)) (k4 1 (by omega)) (k4 2 (by omega))
end Go.Proofs.YtdCfgT

/- The reference's Put and Union. -/
set_option maxRecDepth 100000
set_option linter.unusedSimpArgs false
set_option linter.unusedVariables false
namespace Go.Proofs.YtdCfgT
open Go Go.Ilv
/-- Where a number belongs. -/
def pos (n : Int) : List Int → Nat
  | [] => 0
  | x :: r => if x < n then pos n r + 1 else 0
def putL (l : List Int) (n : Int) : List Int := if l[pos n l]? = some n then l else l.take (pos n l) ++ n :: l.drop (pos n l)
theorem pos_le (n : Int) (l : List Int) : pos n l ≤ l.length := by
  induction l with
  | nil => exact Nat.le_refl _
  | cons x r ih => simp only [pos]; split <;> simp <;> omega
theorem pos_lt (n : Int) (l : List Int) : ∀ k (h : k < l.length), k < pos n l → l[k] < n := by
  induction l with
  | nil => intro k h; simp at h
  | cons x r ih =>
    intro k h hk
    simp only [pos] at hk
    split at hk
    · cases k with
      | zero => assumption
      | succ k => exact ih k (by simpa using h) (by omega)
    · omega
theorem pos_at (n : Int) (l : List Int) : ∀ (h : pos n l < l.length), ¬ l[pos n l] < n := by
  induction l with
  | nil => intro h; simp [pos] at h
  | cons x r ih =>
    intro h
    by_cases hx : x < n
    · have e : pos n (x :: r) = pos n r + 1 := by simp only [pos, if_pos hx]
      have h2 : pos n r < r.length := by rw [e] at h; simpa using h
      have := ih h2
      simp only [e, List.getElem_cons_succ]
      exact this
    · have e : pos n (x :: r) = 0 := by simp only [pos, if_neg hx]
      simp only [e, List.getElem_cons_zero]
      exact hx
/-! ### the plain law -/
theorem putL_spec {l : List Int} (hp : l.Pairwise (· < ·)) (n : Int) : (putL l n).Pairwise (· < ·) ∧ ∀ x, x ∈ putL l n ↔ x ∈ l ∨ x = n := by
  have h1 := pos_lt n l
  have h2 := pos_at n l
  have h3 := pos_le n l
  unfold putL
  by_cases he : l[pos n l]? = some n
  · rw [if_pos he]
    refine ⟨hp, fun x => ⟨.inl, fun h => ?_⟩⟩
    rcases h with h | rfl
    · exact h
    · exact List.mem_of_getElem? he
  · rw [if_neg he]
    refine ⟨?_, fun x => ?_⟩
    · rw [List.pairwise_append]
      refine ⟨hp.sublist (List.take_sublist _ _), ?_, ?_⟩
      · rw [List.pairwise_cons]
        refine ⟨fun y hy => ?_, hp.sublist (List.drop_sublist _ _)⟩
        obtain ⟨i, hi, rfl⟩ := List.getElem_of_mem hy
        rw [List.getElem_drop]
        have hlt : pos n l < l.length := by simp at hi; omega
        have ha := h2 hlt
        have hne : l[pos n l] ≠ n := fun e => he (by rw [List.getElem?_eq_getElem hlt, e])
        rcases Nat.eq_zero_or_pos i with rfl | hpos
        · simp only [Nat.add_zero]; omega
        · have := List.pairwise_iff_getElem.1 hp (pos n l) (pos n l + i) hlt (by simp at hi; omega) (by omega)
          omega
      · intro x hx y hy
        obtain ⟨i, hi, rfl⟩ := List.getElem_of_mem hx
        rw [List.getElem_take]
        have hip : i < pos n l := by simp at hi; omega
        have hxl := h1 i (by omega) hip
        rcases List.mem_cons.1 hy with rfl | hy
        · exact hxl
        · obtain ⟨j, hj, rfl⟩ := List.getElem_of_mem hy
          rw [List.getElem_drop]
          have hlt : pos n l < l.length := by simp at hj; omega
          exact List.pairwise_iff_getElem.1 hp i (pos n l + j) (by omega) (by simp at hj; omega) (by omega)
    · rw [List.mem_append, List.mem_cons]
      have hm : x ∈ l ↔ x ∈ l.take (pos n l) ∨ x ∈ l.drop (pos n l) := by
        conv => lhs; rw [← List.take_append_drop (pos n l) l]
        exact List.mem_append
      rw [hm]
      constructor
      · rintro (h | h | h)
        · exact .inl (.inl h)
        · exact .inr h
        · exact .inl (.inr h)
      · rintro ((h | h) | h)
        · exact .inl h
        · exact .inr (.inr h)
        · exact .inr (.inl h)
theorem sorted_ext {a b : List Int} (ha : a.Pairwise (· < ·)) (hb : b.Pairwise (· < ·)) (h : ∀ x, x ∈ a ↔ x ∈ b) : a = b := by
  induction a generalizing b with
  | nil => cases b with
    | nil => rfl
    | cons y r => exact absurd ((h y).2 (by simp)) (by simp)
  | cons x r ih =>
    cases b with
    | nil => exact absurd ((h x).1 (by simp)) (by simp)
    | cons y t =>
      rw [List.pairwise_cons] at ha hb
      have hxy : x = y := by
        have h1 := (h x).1 (by simp)
        have h2 := (h y).2 (by simp)
        rcases List.mem_cons.1 h1 with e | e
        · exact e
        · rcases List.mem_cons.1 h2 with e2 | e2
          · exact e2.symm
          · have := ha.1 y e2; have := hb.1 x e; omega
      subst hxy
      rw [ih ha.2 hb.2 fun z => ?_]
      constructor
      · intro hz
        rcases List.mem_cons.1 ((h z).1 (by simp [hz])) with e | e
        · have := ha.1 z hz; omega
        · exact e
      · intro hz
        rcases List.mem_cons.1 ((h z).2 (by simp [hz])) with e | e
        · have := hb.1 z hz; omega
        · exact e
theorem foldPut {zs l : List Int} (hp : l.Pairwise (· < ·)) : (zs.foldl putL l).Pairwise (· < ·) ∧ ∀ x, x ∈ zs.foldl putL l ↔ x ∈ l ∨ x ∈ zs := by
  induction zs generalizing l with
  | nil => exact ⟨hp, fun x => by simp⟩
  | cons z r ih =>
    obtain ⟨h1, h2⟩ := putL_spec hp z
    obtain ⟨h3, h4⟩ := ih h1
    refine ⟨h3, fun x => ?_⟩
    rw [List.foldl_cons, h4, h2, List.mem_cons]
    constructor
    · rintro ((h | h) | h)
      · exact .inl h
      · exact .inr (.inl h)
      · exact .inr (.inr h)
    · rintro (h | h | h)
      · exact .inl (.inl h)
      · exact .inl (.inr h)
      · exact .inr h
theorem fold_uni (xs ys : List Int) : ys.foldl putL (xs.foldl putL []) = uni xs ys := by
  rw [← List.foldl_append]
  obtain ⟨h1, h2⟩ := foldPut (zs := xs ++ ys) (l := []) List.Pairwise.nil
  obtain ⟨h3, h4⟩ := uni_spec xs ys
  exact sorted_ext h1 h3 fun x => by rw [h2, h4, List.mem_append]; simp
end Go.Proofs.YtdCfgT

/- The reference's Put and Union, told. -/
set_option maxRecDepth 100000
set_option linter.unusedSimpArgs false
set_option linter.unusedVariables false
namespace Go.Proofs.YtdCfgT
open Go Go.Ilv
theorem get_lits {zs : List Int} {k : Nat} (h : k < zs.length) : (zs.map iV)[k]? = some (.int .i64 zs[k]) := by rw [List.getElem?_map, List.getElem?_eq_getElem h]; rfl
theorem loop66 (l : List Int) (x : Int) (hl : l.length ≤ 50000000) (s : St) : ∀ (m k : Nat), k + m = pos x l →
    execL cfg fi66 (sub code66 [1, 1, 0, 0]) [(0, .lit (l.map iV)), (1, .int .i64 x), (5, .int .i64 k)] s = some (.exit 0, [(0, .lit (l.map iV)), (1, .int .i64 x), (5, .int .i64 (pos x l)), (18, .bool false)], s) := by
  have hcode : sub code66 [1, 1, 0, 0] = Code.loop (sub code66 [1, 1, 0, 0, 0]) := rfl
  have hbody : sub code66 [1, 1, 0, 0, 0] = Code.seq _ _ := rfl
  intro m
  have hle := pos_le x l
  induction m with
  | zero =>
    intro k hk
    obtain rfl : k = pos x l := by omega
    rw [hcode, x_loop, hbody]
    by_cases hp : pos x l < l.length
    · have hki : (pos x l : Int) < (l.length : Int) := by omega
      have hg := get_lits hp
      have hn := pos_at x l hp
      simp only [↓x_seq, ↓x_reg, ↓x_cond, execL_exit, thn_normal, thn_exit, regK_mk, condK_ff, inss, ins, List.map_cons, List.map_nil, Option.map_none, Option.map_some, Option.bind_some, List.getElem?_toArray, List.getElem?_cons_zero, List.getElem?_cons_succ,
      runI_nil, i_move, i_pick, i_load, i_binOp, i_indexAddr, i_builtin, runI_guard, guardK_tt, stepK_none, putE_some, frzD_some, bnd_some, yes_eq, keepE_nil, keepE_cons, cons1_some, List.contains_cons, List.contains_nil, Bool.or_false, prim_move, prim_load, prim_binOp, prim_indexAddr, prim_len, prim_pick, true_and, opnd_tmp, opnd_bool, nilS_tmp, bin_lss, aget, aset, cond_false, decide_true, decide_false, ↓reduceIte, eq_self,
      reduceCtorEq, Nat.reduceEqDiff, Nat.reduceLT, Nat.reduceBEq, Nat.one_ne_zero, indexAddr, rd, Int.natCast_nonneg, Int.toNat_natCast, V.cells, List.length_cons, List.length_nil, List.take_succ_cons, List.take_nil, Nat.zero_add, Nat.le_refl, ofCells, K.agg, Bool.or_false, frz66, lv66_2, ty3, ty26, lenl26, List.length_map, hki, hg, hn]
    · have hki : ¬ (pos x l : Int) < (l.length : Int) := by omega
      simp only [↓x_seq, ↓x_reg, ↓x_cond, execL_exit, thn_normal, thn_exit, regK_mk, condK_ff, inss, ins, List.map_cons, List.map_nil, Option.map_none, Option.map_some, Option.bind_some, List.getElem?_toArray, List.getElem?_cons_zero, List.getElem?_cons_succ,
      runI_nil, i_move, i_pick, i_binOp, i_builtin, runI_guard, guardK_tf, stepK_none, putE_some, frzD_some, bnd_some, yes_eq, keepE_nil, keepE_cons, cons1_some, List.contains_cons, List.contains_nil, Bool.or_false, prim_move, prim_binOp, prim_len, prim_pick, opnd_tmp, opnd_bool, nilS_tmp, bin_lss, aget, aset, cond_false, decide_false, ↓reduceIte, eq_self,
      reduceCtorEq, Nat.reduceEqDiff, Nat.reduceLT, Nat.reduceBEq, Nat.one_ne_zero, Bool.or_false, frz66, lv66_2, lenl26, List.length_map, hki]
  | succ m ih =>
    intro k hk
    have hp : k < l.length := by omega
    have hki : (k : Int) < (l.length : Int) := by omega
    have hg := get_lits hp
    have hn := pos_lt x l k hp (by omega)
    have hw := wrap_next8 (k := k) (by omega)
    rw [hcode, x_loop, ← hcode, hbody]
    simp only [↓x_seq, ↓x_reg, ↓x_cond, ↓x_block, execL_skip, thn_normal, regK_mk, condK_tt, outB_normal, inss, ins, List.map_cons, List.map_nil, Option.map_none, Option.map_some, Option.bind_some, List.getElem?_toArray, List.getElem?_cons_zero, List.getElem?_cons_succ,
      runI_nil, i_move, i_assign, i_pick, i_load, i_binOp, i_indexAddr, i_builtin, runI_guard, guardK_tt, stepK_none, putE_some, frzD_some, bnd_some, yes_eq, keepE_nil, keepE_cons, cons1_some, List.contains_cons, List.contains_nil, Bool.or_false, prim_move, prim_assign, prim_load, prim_binOp, prim_indexAddr, prim_len, prim_pick, true_and, opnd_tmp, opnd_int, opnd_bool, nilS_tmp, nilS_int, bin_lss, bin_add, aget, aset, cond_false, decide_true, ↓reduceIte, eq_self,
      reduceCtorEq, Nat.reduceEqDiff, Nat.reduceLT, Nat.reduceBEq, Nat.one_ne_zero, indexAddr, rd, Int.natCast_nonneg, Int.toNat_natCast, V.cells, List.length_cons, List.length_nil, List.take_succ_cons, List.take_nil, Nat.zero_add, Nat.le_refl, ofCells, K.agg, Bool.or_false, frz66, lv66_2, lv66_3, ty3, ty26, lenl26, List.length_map, hki, hg, hn, hw]
    exact ih (k + 1) (by omega)
theorem sl_hi {l : List Int} {p : Nat} (hp : p ≤ l.length) : sliceOp cfg 26 (.lit (l.map iV)) none (some (.int .i64 p)) none = some (.lit ((l.take p).map iV)) := by
  have h1 : (0 ≤ (p : Int) ∧ (p : Int) ≤ (l.length : Int)) := ⟨by omega, by omega⟩
  have h2 : (l.map iV).all (fun x => decide (x.cells.length = 1)) = true := by simp [iV, V.cells]
  simp only [sliceOp, ty26, ty3, bound, List.length_map, h1, and_self, if_true, Int.toNat_natCast, h2, List.drop_zero, List.map_take, Option.isSome_none, Bool.false_and, Bool.false_eq_true, if_false]
theorem sl_lo {l : List Int} {p : Nat} (hp : p ≤ l.length) : sliceOp cfg 26 (.lit (l.map iV)) (some (.int .i64 p)) none none = some (.lit ((l.drop p).map iV)) := by
  have h1 : (0 ≤ (p : Int) ∧ (p : Int) ≤ (l.length : Int)) := ⟨by omega, by omega⟩
  have h2 : (l.map iV).all (fun x => decide (x.cells.length = 1)) = true := by simp [iV, V.cells]
  have h3 : List.take l.length (l.map iV) = l.map iV := List.take_of_length_le (by simp)
  simp only [sliceOp, ty26, ty3, bound, List.length_map, h1, and_self, if_true, Int.toNat_natCast, h2, h3, List.map_drop, Option.isSome_none, Bool.false_and, Bool.false_eq_true, if_false]
theorem app_nils {zs : List Int} (hz : zs ≠ []) {id n : Nat} {L : List (Nat × Ilv.Obj)} (hr : roomOk zs.length 8 = true) : appendOp cfg false ⟨n, L⟩ id 3 .nils (.lit (zs.map iV)) = some (.ref id 0 1 0 zs.length, .set id ⟨1, 0, false, zs.map intRow⟩) := by
  have h1 : (zs.map iV).all (fun v => v.storable && decide (v.cells.length = 1)) = true := by simp [iV, V.storable, V.cells]
  have h2 : (zs.map iV).map V.cells = zs.map intRow := by simp [iV, V.cells, intRow]
  have h3 : (zs.map iV).isEmpty = false := by simpa using hz
  simp only [appendOp, ty3, elems, h3, Nat.one_ne_zero, Bool.false_eq_true, if_false, List.length_map, hr, if_true, sliceOfRows, h1, h2]
theorem room8 {n : Nat} (h : n ≤ 100000000) : roomOk n 8 = true := by simp only [roomOk, Bool.and_eq_true, decide_eq_true_eq]; omega
theorem put_eq (l : List Int) (x : Int) (hl : l.length ≤ 50000000) : ∃ r s', callL cfg 66 [.lit (l.map iV), .int .i64 x] St.empty = some (r, s') ∧ reify s' 40 r = some (lits (putL l x)) := by
  have hc : code66 = Code.seq (sub code66 [0]) (Code.seq (sub code66 [1, 0]) (Code.seq (Code.block 0 (sub code66 [1, 1, 0, 0])) (Code.seq (Code.seq (sub code66 [1, 1, 1, 0, 0]) (sub code66 [1, 1, 1, 0, 1])) (sub code66 [1, 1, 1, 1])))) := rfl
  have e0 : sub code66 [0] = Code.region _ _ _ := rfl
  have e1 : sub code66 [1, 0] = Code.region _ _ _ := rfl
  have e2 : sub code66 [1, 1, 1, 0, 0] = Code.region _ _ _ := rfl
  have e3 : sub code66 [1, 1, 1, 0, 1] = Code.cond _ _ _ := rfl
  have e4 : sub code66 [1, 1, 1, 1] = Code.seq _ _ := rfl
  have hrr : fi66.fn.results.toList = [_] := rfl
  have hle := pos_le x l
  have g := loop66 l x hl ⟨0, []⟩ (pos x l) 0 (by omega)
  simp only [Int.cast_ofNat_Int] at g
  by_cases he : l[pos x l]? = some x
  · -- it's there
    have hp : pos x l < l.length := (List.getElem?_eq_some_iff.1 he).1
    have hg := get_lits hp
    have hx : l[pos x l] = x := (List.getElem?_eq_some_iff.1 he).2
    rw [hx] at hg
    have hki : (pos x l : Int) < (l.length : Int) := by omega
    refine ⟨.lit (l.map iV), St.empty, ?_, by rw [putL, if_pos he]; rfl⟩
    rw [call66, hc]
    simp only [↓x_seq, ↓x_reg, ↓x_cond, ↓x_block, execL_ret, thn_normal, thn_ret, regK_mk, condK_tt, outB_exit, inss, ins, List.map_cons, List.map_nil, Option.map_none, Option.map_some, Option.bind_some, List.getElem?_toArray, List.getElem?_cons_zero, List.getElem?_cons_succ,
      runI_nil, i_move, i_assign, i_pick, i_load, i_binOp, i_indexAddr, i_builtin, runI_guard, guardK_tt, stepK_none, putE_some, frzD_some, bnd_some, yes_eq, keepE_nil, keepE_cons, cons1_some, List.contains_cons, List.contains_nil, Bool.or_false, prim_move, prim_assign, prim_load, prim_binOp, prim_indexAddr, prim_len, prim_pick, Nat.zero_le, true_and, opnd_tmp, opnd_int, opnd_bool, opnd_nils, nilS_tmp, bin_eql, bin_lss, aget, aset, cond_true, cond_false, decide_true, ↓reduceIte, eq_self,
      reduceCtorEq, Nat.reduceEqDiff, Nat.reduceLT, Nat.reduceBEq, Nat.one_ne_zero, indexAddr, rd, Int.natCast_nonneg, Int.toNat_natCast, V.cells, List.length_cons, List.length_nil, List.take_succ_cons, List.take_nil, Nat.zero_add, Nat.le_refl, ofCells, K.agg, Bool.and_false, Bool.not_false, beq_self_eq_true, St_get, enumE, finK_ret, Ilv.results, resV, all_nil, all_cons, Bool.or_false, frz66, lv66_0, lv66_1, lv66_4, lv66_5, ty3, ty26, lenl26, St.killVars, St.kills, List.filter_nil, List.length_map, e0, e1, e2, e3, e4, hrr, keep66, g, hki, hg, St.empty]
  · have s1 := sl_hi hle
    have s2 := sl_lo hle
    have a0 := fun n L id => app_nils (n := n) (L := L) (id := id) (zs := [x]) (by simp) (room8 (by simp))
    simp only [List.map_cons, List.map_nil, iV, List.length_cons, List.length_nil, Nat.zero_add] at a0
    have hres : putL l x = l.take (pos x l) ++ x :: l.drop (pos x l) := by rw [putL, if_neg he]
    have htl : (l.take (pos x l)).length = pos x l := by simp; omega
    -- the test is false
    have key : ∀ (P : Prop), (∀ (q : ¬ (pos x l : Int) < (l.length : Int)), P) → (∀ (q : (pos x l : Int) < (l.length : Int)) (y : Int) (q2 : (l.map iV)[pos x l]? = some (.int .i64 y)) (q3 : ¬ y = x), P) → P := by
      intro P h1 h2
      by_cases hp : pos x l < l.length
      · refine h2 (by omega) l[pos x l] (get_lits hp) fun e => he (by rw [List.getElem?_eq_getElem hp, e])
      · exact h1 (by omega)
    rcases Nat.eq_zero_or_pos (pos x l) with h0 | h0
    · -- in front
      have ht : l.take (pos x l) = [] := by rw [h0]; rfl
      have ae : ∀ s id, appendOp cfg false s id 3 .nils (.lit []) = some (.nils, .none) := fun s id => app0 (zs := []) rfl
      have a2 := app1 (zs := l.drop (pos x l)) (rows := [intRow x]) (ver := 0) (id := 1) (n := 1) (k := 1) rfl (room8 (by simp; omega))
      rw [ht] at s1
      simp only [List.map_nil, intRow] at s1 a2
      have hrows : [[V.int .i64 x]] ++ (l.drop (pos x l)).map intRow = (x :: l.drop (pos x l)).map intRow := rfl
      rw [hrows] at a2
      have hcl : ∃ s', callL cfg 66 [.lit (l.map iV), .int .i64 x] St.empty = some (.ref 0 1 1 0 (x :: l.drop (pos x l)).length, ⟨s', [(0, ⟨1, 1, false, ((x :: l.drop (pos x l)) ++ []).map intRow⟩)]⟩) := by
        refine ⟨1, ?_⟩
        rw [call66, hc, List.append_nil, List.length_cons]
        refine key _ (fun q => ?_) (fun q y q2 q3 => ?_)
        · simp only [↓x_seq, ↓x_reg, ↓x_cond, ↓x_block, execL_skip, execL_ret, thn_normal, regK_mk, condK_ff, outB_exit, inss, ins, List.map_cons, List.map_nil, Option.map_none, Option.map_some, Option.bind_some, List.getElem?_toArray, List.getElem?_cons_zero, List.getElem?_cons_succ,
      runI_nil, i_move, i_assign, i_pick, i_buildSlice, i_binOp, i_slice, i_builtin, runI_guard, guardK_tf, stepK_none, stepK_set, putE_some, frzD_some, bnd_some, yes_eq, keepE_nil, keepE_cons, cons1_some, List.contains_cons, List.contains_nil, Bool.or_false, prim_move, prim_assign, prim_binOp, prim_slice, prim_len, prim_append, prim_pick, prim_buildSlice, prim_buildSlice0, Nat.zero_le, opnd_tmp, opnd_int, opnd_bool, opnd_nils, popnds_nil, popnds_cons, oopnd_none, oopnd_some, nilS_tmp, bin_lss, aget, aset, cond_true, cond_false, decide_true, decide_false, ↓reduceIte, eq_self,
      reduceCtorEq, Nat.reduceEqDiff, Nat.reduceLT, Nat.reduceLeDiff, Nat.reduceBEq, Nat.reduceMul, Nat.one_ne_zero, V.cells, List.length_cons, List.length_nil, List.length_drop, Nat.zero_add, V.storable, Bool.true_and, Bool.and_true, Bool.not_false, beq_self_eq_true, partsIn, sliceOfRows, List.all_cons, List.all_nil, V.flat, V.norm, V.norm1, elemTy, enumE, finK_ret, Ilv.results, resV, all_nil, all_cons, Bool.or_false, frz66, lv66_0, lv66_1, lv66_4, lv66_6, lv66_7, lv66_8, ty3, ty26, lenl26, St.killVars, St.kills, List.filter_cons, List.filter_nil, List.length_map, List.length_cons, e0, e1, e2, e3, e4, hrr, keep66, g, q, s1, s2, ae, a0, a2, intRow, Nat.add_comm 1, St.empty]
        · simp only [↓x_seq, ↓x_reg, ↓x_cond, ↓x_block, execL_skip, execL_ret, thn_normal, regK_mk, condK_ff, outB_exit, inss, ins, List.map_cons, List.map_nil, Option.map_none, Option.map_some, Option.bind_some, List.getElem?_toArray, List.getElem?_cons_zero, List.getElem?_cons_succ,
      runI_nil, i_move, i_assign, i_pick, i_buildSlice, i_load, i_binOp, i_slice, i_indexAddr, i_builtin, runI_guard, guardK_tt, stepK_none, stepK_set, putE_some, frzD_some, bnd_some, yes_eq, keepE_nil, keepE_cons, cons1_some, List.contains_cons, List.contains_nil, Bool.or_false, prim_move, prim_assign, prim_load, prim_binOp, prim_slice, prim_indexAddr, prim_len, prim_append, prim_pick, prim_buildSlice, prim_buildSlice0, Nat.zero_le, true_and, opnd_tmp, opnd_int, opnd_bool, opnd_nils, popnds_nil, popnds_cons, oopnd_none, oopnd_some, nilS_tmp, bin_eql, bin_lss, aget, aset, cond_true, cond_false, decide_true, decide_false, ↓reduceIte, eq_self,
      reduceCtorEq, Nat.reduceEqDiff, Nat.reduceLT, Nat.reduceLeDiff, Nat.reduceBEq, Nat.reduceMul, Nat.one_ne_zero, indexAddr, rd, Int.natCast_nonneg, Int.toNat_natCast, V.cells, List.length_cons, List.length_nil, List.length_drop, List.take_succ_cons, List.take_nil, Nat.zero_add, Nat.le_refl, ofCells, K.agg, V.storable, Bool.true_and, Bool.and_true, Bool.not_false, beq_self_eq_true, St_get, partsIn, sliceOfRows, List.all_cons, List.all_nil, V.flat, V.norm, V.norm1, elemTy, enumE, finK_ret, Ilv.results, resV, all_nil, all_cons, Bool.or_false, frz66, lv66_0, lv66_1, lv66_4, lv66_6, lv66_7, lv66_8, ty3, ty26, lenl26, St.killVars, St.kills, List.filter_cons, List.filter_nil, List.length_map, List.length_cons, e0, e1, e2, e3, e4, hrr, keep66, g, q, q2, q3, s1, s2, ae, a0, a2, intRow, Nat.add_comm 1, St.empty]
      obtain ⟨s', hcl⟩ := hcl
      refine ⟨_, _, hcl, ?_⟩
      rw [hres, ht, List.nil_append]
      exact reify1 (x :: l.drop (pos x l)) [] s' 1
    · have hne : l.take (pos x l) ≠ [] := fun e => by rw [e] at htl; simp at htl; omega
      have ae := fun n L id => app_nils (n := n) (L := L) (id := id) hne (room8 (by omega))
      rw [htl] at ae
      have a1 := app1 (zs := [x]) (rows := (l.take (pos x l)).map intRow) (ver := 0) (id := 1) (n := 1) (k := pos x l) (by rw [List.length_map, htl]) (room8 (by simp; omega))
      have a2 := app1 (zs := l.drop (pos x l)) (rows := (l.take (pos x l)).map intRow ++ [[V.int .i64 x]]) (ver := 1) (id := 1) (n := 1) (k := pos x l + 1) (by simp; omega) (room8 (by simp; omega))
      simp only [List.map_cons, List.map_nil, iV, intRow, List.length_map, htl, List.length_cons, List.length_nil, Nat.zero_add, List.length_append] at a1 a2
      have hrows : (l.take (pos x l)).map intRow ++ [[V.int .i64 x]] ++ (l.drop (pos x l)).map intRow = (l.take (pos x l) ++ x :: l.drop (pos x l)).map intRow := by simp [intRow]
      rw [hrows] at a2
      have hlen : pos x l + 1 + (l.drop (pos x l)).length = (l.take (pos x l) ++ x :: l.drop (pos x l)).length := by simp only [List.length_append, List.length_cons, htl]; omega
      rw [hlen] at a2
      have hcl : ∃ s', callL cfg 66 [.lit (l.map iV), .int .i64 x] St.empty = some (.ref 0 2 1 0 (l.take (pos x l) ++ x :: l.drop (pos x l)).length, ⟨s', [(0, ⟨1, 2, false, ((l.take (pos x l) ++ x :: l.drop (pos x l)) ++ []).map intRow⟩)]⟩) := by
        refine ⟨1, ?_⟩
        generalize hR : l.take (pos x l) ++ x :: l.drop (pos x l) = R at *
        rw [call66, hc, List.append_nil]
        refine key _ (fun q => ?_) (fun q y q2 q3 => ?_)
        · simp only [↓x_seq, ↓x_reg, ↓x_cond, ↓x_block, execL_skip, execL_ret, thn_normal, regK_mk, condK_ff, outB_exit, inss, ins, List.map_cons, List.map_nil, Option.map_none, Option.map_some, Option.bind_some, List.getElem?_toArray, List.getElem?_cons_zero, List.getElem?_cons_succ,
      runI_nil, i_move, i_assign, i_pick, i_buildSlice, i_binOp, i_slice, i_builtin, runI_guard, guardK_tf, stepK_none, stepK_set, putE_some, frzD_some, bnd_some, yes_eq, keepE_nil, keepE_cons, cons1_some, List.contains_cons, List.contains_nil, Bool.or_false, prim_move, prim_assign, prim_binOp, prim_slice, prim_len, prim_append, prim_pick, prim_buildSlice, prim_buildSlice0, Nat.zero_le, opnd_tmp, opnd_int, opnd_bool, opnd_nils, popnds_nil, popnds_cons, oopnd_none, oopnd_some, nilS_tmp, bin_lss, aget, aset, cond_true, cond_false, decide_true, decide_false, ↓reduceIte, eq_self,
      reduceCtorEq, Nat.reduceEqDiff, Nat.reduceLT, Nat.reduceLeDiff, Nat.reduceBEq, Nat.reduceAdd, Nat.reduceMul, Nat.one_ne_zero, V.cells, List.length_cons, List.length_nil, Nat.zero_add, V.storable, Bool.true_and, Bool.and_true, Bool.not_false, beq_self_eq_true, partsIn, sliceOfRows, List.all_cons, List.all_nil, V.flat, V.norm, V.norm1, elemTy, enumE, finK_ret, Ilv.results, resV, all_nil, all_cons, Bool.or_false, frz66, lv66_0, lv66_1, lv66_4, lv66_6, lv66_7, lv66_8, ty3, ty26, lenl26, St.killVars, St.kills, List.filter_cons, List.filter_nil, List.length_map, e0, e1, e2, e3, e4, hrr, keep66, g, q, s1, s2, ae, a1, a2, St.empty]
        · simp only [↓x_seq, ↓x_reg, ↓x_cond, ↓x_block, execL_skip, execL_ret, thn_normal, regK_mk, condK_ff, outB_exit, inss, ins, List.map_cons, List.map_nil, Option.map_none, Option.map_some, Option.bind_some, List.getElem?_toArray, List.getElem?_cons_zero, List.getElem?_cons_succ,
      runI_nil, i_move, i_assign, i_pick, i_buildSlice, i_load, i_binOp, i_slice, i_indexAddr, i_builtin, runI_guard, guardK_tt, stepK_none, stepK_set, putE_some, frzD_some, bnd_some, yes_eq, keepE_nil, keepE_cons, cons1_some, List.contains_cons, List.contains_nil, Bool.or_false, prim_move, prim_assign, prim_load, prim_binOp, prim_slice, prim_indexAddr, prim_len, prim_append, prim_pick, prim_buildSlice, prim_buildSlice0, Nat.zero_le, true_and, opnd_tmp, opnd_int, opnd_bool, opnd_nils, popnds_nil, popnds_cons, oopnd_none, oopnd_some, nilS_tmp, bin_eql, bin_lss, aget, aset, cond_true, cond_false, decide_true, decide_false, ↓reduceIte, eq_self,
      reduceCtorEq, Nat.reduceEqDiff, Nat.reduceLT, Nat.reduceLeDiff, Nat.reduceBEq, Nat.reduceAdd, Nat.reduceMul, Nat.one_ne_zero, indexAddr, rd, Int.natCast_nonneg, Int.toNat_natCast, V.cells, List.length_cons, List.length_nil, List.take_succ_cons, List.take_nil, Nat.zero_add, Nat.le_refl, ofCells, K.agg, V.storable, Bool.true_and, Bool.and_true, Bool.not_false, beq_self_eq_true, St_get, partsIn, sliceOfRows, List.all_cons, List.all_nil, V.flat, V.norm, V.norm1, elemTy, enumE, finK_ret, Ilv.results, resV, all_nil, all_cons, Bool.or_false, frz66, lv66_0, lv66_1, lv66_4, lv66_6, lv66_7, lv66_8, ty3, ty26, lenl26, St.killVars, St.kills, List.filter_cons, List.filter_nil, List.length_map, e0, e1, e2, e3, e4, hrr, keep66, g, q, q2, q3, s1, s2, ae, a1, a2, St.empty]
      obtain ⟨s', hcl⟩ := hcl
      refine ⟨_, _, hcl, ?_⟩
      rw [hres]
      exact reify1 (l.take (pos x l) ++ x :: l.drop (pos x l)) [] s' 2
theorem told66 {v : V} {l : List Int} (hv : IsT v l) (x : Int) (hl : l.length ≤ 50000000) (s : St) : callV (callL cfg) true 66 [v, .int .i64 x] s = some (lits (putL l x), s) := by
  obtain ⟨r, s', h1, h2⟩ := put_eq l x hl
  exact callV_told (show allSome (reify s 40) [v, .int .i64 x] = some [lits l, .int .i64 x] by simp only [allSome, hv.reify]; rfl) h1 h2 (by simp only [List.all_cons, List.all_nil, hv.flat]; rfl)
end Go.Proofs.YtdCfgT

/- The reference's Union, operator, Registers, Silent, told. -/
set_option maxRecDepth 100000
set_option linter.unusedSimpArgs false
set_option linter.unusedVariables false
namespace Go.Proofs.YtdCfgT
open Go Go.Ilv
theorem putL_len (l : List Int) (x : Int) : (putL l x).length ≤ l.length + 1 := by
  have := pos_le x l
  unfold putL
  split
  · omega
  · simp only [List.length_append, List.length_take, List.length_cons, List.length_drop]; omega
theorem loop42a (xs ys : List Int) (s : St) (hx : xs.length ≤ 20000000) : ∀ (m k : Nat) (v : V) (acc : List Int), k + m = xs.length → IsT v acc → acc.length + m ≤ 50000000 →
    ∃ v', execL cfg fi42 (sub code42 [1, 1, 0, 1, 0]) [(0, .lit (xs.map iV)), (1, .lit (ys.map iV)), (5, v), (6, .int .i64 k)] s = some (.exit 0, [(0, .lit (xs.map iV)), (1, .lit (ys.map iV)), (5, v'), (6, .int .i64 xs.length), (11, .bool false)], s) ∧ IsT v' ((xs.drop k).foldl putL acc) := by
  have hcode : sub code42 [1, 1, 0, 1, 0] = Code.loop (sub code42 [1, 1, 0, 1, 0, 0]) := rfl
  have hbody : sub code42 [1, 1, 0, 1, 0, 0] = Code.seq _ _ := rfl
  intro m
  induction m with
  | zero =>
    intro k v acc hk hv hb
    obtain rfl : k = xs.length := by omega
    refine ⟨v, ?_, by rw [List.drop_length]; exact hv⟩
    rw [hcode, x_loop, hbody]
    simp only [↓x_seq, ↓x_reg, ↓x_cond, execL_exit, thn_normal, thn_exit, regK_mk, condK_ff, inss, ins, List.map_cons, List.map_nil, Option.map_none, List.getElem?_toArray, runI_nil, i_move, i_binOp, i_builtin, stepK_none, putE_some, frzD_some, bnd_some, yes_eq, keepE_nil, keepE_cons, cons1_some, List.contains_nil, prim_move, prim_binOp, prim_len, opnd_tmp, nilS_tmp, bin_lss, aget, aset, cond_false, decide_false, ↓reduceIte, eq_self,
      reduceCtorEq, Nat.reduceEqDiff, Nat.reduceLT, Nat.one_ne_zero, frz42, lv42_3, lenl26, List.length_map, Int.lt_irrefl]
  | succ m ih =>
    intro k v acc hk hv hb
    have hp : k < xs.length := by omega
    have hki : (k : Int) < (xs.length : Int) := by omega
    have hg := get_lits hp
    have hw := wrap_next8 (k := k) (by omega)
    have ht := fun s => told66 hv xs[k] (by omega) s
    have hpl := putL_len acc xs[k]
    obtain ⟨v', g1, g2⟩ := ih (k + 1) (lits (putL acc xs[k])) (putL acc xs[k]) (by omega) (IsT.lits _) (by omega)
    refine ⟨v', ?_, by rw [List.drop_eq_getElem_cons hp, List.foldl_cons]; exact g2⟩
    rw [hcode, x_loop, ← hcode, hbody]
    simp only [↓x_seq, ↓x_reg, ↓x_cond, ↓x_block, execL_skip, thn_normal, regK_mk, condK_tt, outB_normal, inss, ins, List.map_cons, List.map_nil, Option.map_none, List.getElem?_toArray, runI_nil, i_move, i_assign, i_load, i_binOp, i_indexAddr, i_builtin, runI_call, stepK_none, callK_mk,
      putE_some, frzD_some, bnd_some, yes_eq, keepE_nil, keepE_cons, cons1_some, List.contains_nil, prim_move, prim_assign, prim_load, prim_binOp, prim_indexAddr, prim_len, true_and, opnd_tmp, opnd_int, opnds_nil, opnds_cons, nilS_tmp, nilS_int, bin_lss, bin_add, aget, aset, cond_false, decide_true, ↓reduceIte, eq_self,
      reduceCtorEq, Nat.reduceEqDiff, Nat.reduceLT, Nat.one_ne_zero, indexAddr, rd, Int.natCast_nonneg, Int.toNat_natCast, V.cells, List.length_cons, List.length_nil, List.take_succ_cons, List.take_nil, Nat.zero_add, Nat.le_refl, ofCells, K.agg, callI_func, frz42, lv42_3, lv42_5, lv42_4, ty3, ty26, lenl26, List.length_map, hki, hg, hw, fn66, pure66, ht]
    exact g1
theorem loop42b (ys : List Int) (s : St) (hy : ys.length ≤ 20000000) : ∀ (m k : Nat) (v : V) (acc : List Int), k + m = ys.length → IsT v acc → acc.length + m ≤ 50000000 →
    ∃ v', execL cfg fi42 (sub code42 [1, 1, 1, 0, 1, 0]) [(1, .lit (ys.map iV)), (5, v), (7, .int .i64 k)] s = some (.exit 2, [(1, .lit (ys.map iV)), (5, v'), (7, .int .i64 ys.length), (23, .bool false)], s) ∧ IsT v' ((ys.drop k).foldl putL acc) := by
  have hcode : sub code42 [1, 1, 1, 0, 1, 0] = Code.loop (sub code42 [1, 1, 1, 0, 1, 0, 0]) := rfl
  have hbody : sub code42 [1, 1, 1, 0, 1, 0, 0] = Code.seq _ _ := rfl
  intro m
  induction m with
  | zero =>
    intro k v acc hk hv hb
    obtain rfl : k = ys.length := by omega
    refine ⟨v, ?_, by rw [List.drop_length]; exact hv⟩
    rw [hcode, x_loop, hbody]
    simp only [↓x_seq, ↓x_reg, ↓x_cond, execL_exit, thn_normal, thn_exit, regK_mk, condK_ff, inss, ins, List.map_cons, List.map_nil, Option.map_none, List.getElem?_toArray, runI_nil, i_move, i_binOp, i_builtin, stepK_none, putE_some, frzD_some, bnd_some, yes_eq, keepE_nil, keepE_cons, cons1_some, List.contains_nil, prim_move, prim_binOp, prim_len, opnd_tmp, nilS_tmp, bin_lss, aget, aset, cond_false, decide_false, ↓reduceIte, eq_self,
      Nat.reduceEqDiff, Nat.reduceLT, frz42, lv42_7, lenl26, List.length_map, Int.lt_irrefl]
  | succ m ih =>
    intro k v acc hk hv hb
    have hp : k < ys.length := by omega
    have hki : (k : Int) < (ys.length : Int) := by omega
    have hg := get_lits hp
    have hw := wrap_next8 (k := k) (by omega)
    have ht := fun s => told66 hv ys[k] (by omega) s
    have hpl := putL_len acc ys[k]
    obtain ⟨v', g1, g2⟩ := ih (k + 1) (lits (putL acc ys[k])) (putL acc ys[k]) (by omega) (IsT.lits _) (by omega)
    refine ⟨v', ?_, by rw [List.drop_eq_getElem_cons hp, List.foldl_cons]; exact g2⟩
    rw [hcode, x_loop, ← hcode, hbody]
    simp only [↓x_seq, ↓x_reg, ↓x_cond, ↓x_block, execL_skip, thn_normal, regK_mk, condK_tt, outB_normal, inss, ins, List.map_cons, List.map_nil, Option.map_none, List.getElem?_toArray, runI_nil, i_move, i_assign, i_load, i_binOp, i_indexAddr, i_builtin, runI_call, stepK_none, callK_mk,
      putE_some, frzD_some, bnd_some, yes_eq, keepE_nil, keepE_cons, cons1_some, List.contains_nil, prim_move, prim_assign, prim_load, prim_binOp, prim_indexAddr, prim_len, true_and, opnd_tmp, opnd_int, opnds_nil, opnds_cons, nilS_tmp, nilS_int, bin_lss, bin_add, aget, aset, cond_false, decide_true, ↓reduceIte, eq_self,
      reduceCtorEq, Nat.reduceEqDiff, Nat.reduceLT, indexAddr, rd, Int.natCast_nonneg, Int.toNat_natCast, V.cells, List.length_cons, List.length_nil, List.take_succ_cons, List.take_nil, Nat.zero_add, Nat.le_refl, ofCells, K.agg, callI_func, frz42, lv42_7, lv42_9, lv42_8, ty3, ty26, lenl26, List.length_map, hki, hg, hw, fn66, pure66, ht]
    exact g1
theorem foldPut_len (zs l : List Int) : (zs.foldl putL l).length ≤ l.length + zs.length := by
  induction zs generalizing l with
  | nil => simp
  | cons z r ih =>
    have := ih (putL l z)
    have := putL_len l z
    simp only [List.foldl_cons, List.length_cons]; omega
theorem told42 {x y : V} {xs ys : List Int} (hx : IsT x xs) (hy : IsT y ys) (bx : xs.length ≤ 20000000) (bY : ys.length ≤ 20000000) (s : St) : callV (callL cfg) true 42 [x, y] s = some (lits (uni xs ys), s) := by
  have hc : code42 = Code.seq (sub code42 [0]) (Code.seq (sub code42 [1, 0]) (Code.seq (Code.seq (sub code42 [1, 1, 0, 0]) (Code.block 0 (sub code42 [1, 1, 0, 1, 0]))) (Code.seq (Code.seq (sub code42 [1, 1, 1, 0, 0]) (Code.block 2 (sub code42 [1, 1, 1, 0, 1, 0]))) (sub code42 [1, 1, 1, 1])))) := rfl
  have e0 : sub code42 [0] = Code.region _ _ _ := rfl
  have e1 : sub code42 [1, 0] = Code.region _ _ _ := rfl
  have e2 : sub code42 [1, 1, 0, 0] = Code.region _ _ _ := rfl
  have e3 : sub code42 [1, 1, 1, 0, 0] = Code.region _ _ _ := rfl
  have e4 : sub code42 [1, 1, 1, 1] = Code.seq _ _ := rfl
  have hrr : fi42.fn.results.toList = [_] := rfl
  obtain ⟨v1, g1, h1⟩ := loop42a xs ys ⟨0, []⟩ bx xs.length 0 .nils [] (by omega) IsT.nils (by simp; omega)
  have hl1 := foldPut_len xs []
  rw [List.drop_zero] at h1
  obtain ⟨v2, g2, h2⟩ := loop42b ys ⟨0, []⟩ bY ys.length 0 v1 _ (by omega) h1 (by simp at hl1; omega)
  rw [List.drop_zero, fold_uni] at h2
  simp only [Int.cast_ofNat_Int] at g1 g2
  have key : callL cfg 42 [lits xs, lits ys] St.empty = some (v2, St.empty) := by
    rw [call42, hc]
    simp only [↓x_seq, ↓x_reg, ↓x_block, execL_ret, thn_normal, regK_mk, outB_exit, inss, ins, List.map_cons, List.map_nil, Option.map_none, List.getElem?_toArray, runI_nil, i_move, i_assign, stepK_none, putE_some, frzD_some, bnd_some, yes_eq, keepE_nil, keepE_cons, cons1_some, List.contains_nil, prim_move, prim_assign, Nat.zero_le, opnd_tmp, opnd_int, opnd_nils, aget, aset, cond_true, cond_false, decide_true, ↓reduceIte, eq_self,
      reduceCtorEq, Nat.reduceEqDiff, Nat.reduceLT, Nat.one_ne_zero, Nat.zero_add, Bool.and_false, Bool.not_false, beq_self_eq_true, enumE, finK_ret, Ilv.results, resV, all_nil, all_cons, frz42, lv42_0, lv42_1, lv42_2, lv42_6, lv42_10, St.killVars, St.kills, List.filter_nil, lits, e0, e1, e2, e3, e4, hrr, keep42, g1, g2, St.empty]
  exact callV_told (show allSome (reify s 40) [x, y] = some [lits xs, lits ys] by simp only [allSome, hx.reify, hy.reify]) key (h2.reify _ _) (by simp only [List.all_cons, List.all_nil, hx.flat, hy.flat]; rfl)
def opr (n : Int) : Int := if n < 1 ∨ n > 100 then 0 else n
theorem told40 (n : Int) (s : St) : callV (callL cfg) true 40 [.int .i64 n] s = some (.int .i64 (opr n), s) := by
  have hs : code40 = Code.seq _ _ := rfl
  have hrr : fi40.fn.results.toList = [_] := rfl
  have key : callL cfg 40 [.int .i64 n] St.empty = some (.int .i64 (opr n), St.empty) := by
    rw [call40, hs]
    by_cases h1 : n < 1
    · have ho : opr n = 0 := if_pos (.inl h1)
      simp only [↓x_seq, ↓x_reg, ↓x_cond, execL_ret, thn_normal, thn_ret, regK_mk, condK_tt, inss, ins, List.map_cons, List.map_nil, Option.map_none, Option.map_some, Option.bind_some, List.getElem?_toArray, List.getElem?_cons_zero, List.getElem?_cons_succ,
      runI_nil, i_move, i_assign, i_pick, i_binOp, runI_guard, guardK_ft, stepK_none, putE_some, frzD_some, bnd_some, yes_eq, keepE_nil, keepE_cons, cons1_some, List.contains_nil, prim_move, prim_assign, prim_binOp, prim_pick, Nat.zero_le, opnd_tmp, opnd_int, opnd_bool, nilS_int, bin_lss, aget, aset, cond_false, decide_true, ↓reduceIte, eq_self,
      reduceCtorEq, Nat.reduceEqDiff, Nat.reduceLT, Bool.and_false, Bool.not_false, enumE, finK_ret, Ilv.results, resV, all_nil, all_cons, frz40, lv40_0, lv40_1, lv40_2, St.killVars, St.kills, List.filter_nil, hrr, keep40, h1, ho, St.empty]
    · by_cases h2 : 100 < n
      · have ho : opr n = 0 := if_pos (.inr h2)
        simp only [↓x_seq, ↓x_reg, ↓x_cond, execL_ret, thn_normal, thn_ret, regK_mk, condK_tt, inss, ins, List.map_cons, List.map_nil, Option.map_none, Option.map_some, Option.bind_some, List.getElem?_toArray, List.getElem?_cons_zero, List.getElem?_cons_succ,
      runI_nil, i_move, i_assign, i_pick, i_binOp, runI_guard, guardK_ff, stepK_none, putE_some, frzD_some, bnd_some, yes_eq, keepE_nil, keepE_cons, cons1_some, List.contains_nil, prim_move, prim_assign, prim_binOp, prim_pick, Nat.zero_le, opnd_tmp, opnd_int, opnd_bool, nilS_int, bin_lss, bin_gtr, aget, aset, cond_false, decide_true, decide_false, ↓reduceIte, eq_self,
      reduceCtorEq, Nat.reduceEqDiff, Nat.reduceLT, Bool.and_false, Bool.not_false, enumE, finK_ret, Ilv.results, resV, all_nil, all_cons, frz40, lv40_0, lv40_1, lv40_2, St.killVars, St.kills, List.filter_nil, gt_iff_lt, hrr, keep40, h1, h2, ho, St.empty]
      · have ho : opr n = n := if_neg (by omega)
        simp only [↓x_seq, ↓x_reg, ↓x_cond, execL_skip, execL_ret, thn_normal, regK_mk, condK_ff, inss, ins, List.map_cons, List.map_nil, Option.map_none, Option.map_some, Option.bind_some, List.getElem?_toArray, List.getElem?_cons_zero, List.getElem?_cons_succ,
      runI_nil, i_move, i_assign, i_pick, i_binOp, runI_guard, guardK_ff, stepK_none, putE_some, frzD_some, bnd_some, yes_eq, keepE_nil, keepE_cons, cons1_some, List.contains_nil, prim_move, prim_assign, prim_binOp, prim_pick, Nat.zero_le, opnd_tmp, opnd_int, opnd_bool, nilS_int, bin_lss, bin_gtr, aget, aset, cond_false, decide_true, decide_false, ↓reduceIte, eq_self,
      reduceCtorEq, Nat.reduceEqDiff, Nat.reduceLT, Bool.and_false, Bool.not_false, enumE, finK_ret, Ilv.results, resV, all_nil, all_cons, frz40, lv40_0, lv40_1, lv40_3, St.killVars, St.kills, List.filter_nil, gt_iff_lt, hrr, keep40, h1, h2, ho, St.empty]
  exact callV_told (ls_int s n) key rfl rfl
theorem evU_opr (n a : Int) : evU (opr n) a = evU n a := by
  unfold opr
  split
  · rename_i h
    simp only [evU]
    rw [if_neg (by omega), if_neg (by omega), if_neg (by omega), if_neg (by omega)]
  · rfl
theorem evB_opr (n a b : Int) : evB (opr n) a b = evB n a b := by
  unfold opr
  split
  · rename_i h
    have hn : ∀ k : Int, 6 ≤ k → k ≤ 18 → ¬ n = k := fun k h1 h2 => by omega
    simp only [evB, hn 6 (by omega) (by omega), hn 7 (by omega) (by omega), hn 8 (by omega) (by omega), hn 9 (by omega) (by omega), hn 10 (by omega) (by omega), hn 11 (by omega) (by omega), hn 12 (by omega) (by omega), hn 13 (by omega) (by omega), hn 14 (by omega) (by omega), hn 15 (by omega) (by omega), hn 16 (by omega) (by omega), hn 17 (by omega) (by omega), hn 18 (by omega) (by omega), if_false]
    rfl
  · rfl
theorem told26 (op : Int) (s : St) : callV (callL cfg) true 26 [.int .i64 op] s = some (.bool (decide (1 ≤ op ∧ op ≤ 5)), s) := by
  have hs : code26 = Code.seq _ _ := rfl
  have hrr : fi26.fn.results.toList = [_] := rfl
  have key : callL cfg 26 [.int .i64 op] St.empty = some (.bool (decide (1 ≤ op ∧ op ≤ 5)), St.empty) := by
    rw [call26, hs]
    by_cases h1 : 1 ≤ op
    · by_cases h2 : op ≤ 5
      · have ho : (1 ≤ op ∧ op ≤ 5) := ⟨h1, h2⟩
        simp only [↓x_seq, ↓x_reg, execL_ret, thn_normal, regK_mk, inss, ins, List.map_cons, List.map_nil, Option.map_none, Option.map_some, Option.bind_some, List.getElem?_toArray, List.getElem?_cons_zero, List.getElem?_cons_succ,
      runI_nil, i_move, i_assign, i_pick, i_binOp, runI_guard, guardK_tt, stepK_none, putE_some, frzD_some, bnd_some, yes_eq, keepE_nil, keepE_cons, cons1_some, List.contains_nil, prim_move, prim_assign, prim_binOp, prim_pick, Nat.zero_le, and_true,
      opnd_tmp, opnd_int, opnd_bool, nilS_int, bin_leq, bin_geq, aget, aset, cond_false, decide_true, ↓reduceIte, eq_self,
      reduceCtorEq, Nat.reduceEqDiff, Nat.reduceLT, Bool.and_false, Bool.not_false, enumE, finK_ret, Ilv.results, resV, all_nil, all_cons, frz26, lv26_0, lv26_1, St.killVars, St.kills, List.filter_nil, ge_iff_le, hrr, keep26, h1, h2, St.empty]
      · simp only [↓x_seq, ↓x_reg, execL_ret, thn_normal, regK_mk, inss, ins, List.map_cons, List.map_nil, Option.map_none, Option.map_some, Option.bind_some, List.getElem?_toArray, List.getElem?_cons_zero, List.getElem?_cons_succ,
      runI_nil, i_move, i_assign, i_pick, i_binOp, runI_guard, guardK_tt, stepK_none, putE_some, frzD_some, bnd_some, yes_eq, keepE_nil, keepE_cons, cons1_some, List.contains_nil, prim_move, prim_assign, prim_binOp, prim_pick, Nat.zero_le, opnd_tmp, opnd_int, opnd_bool, nilS_int, bin_leq, bin_geq, aget, aset, cond_false, decide_true, decide_false, ↓reduceIte, eq_self,
      reduceCtorEq, Nat.reduceEqDiff, Nat.reduceLT, Bool.and_false, Bool.not_false, enumE, finK_ret, Ilv.results, resV, all_nil, all_cons, frz26, lv26_0, lv26_1, St.killVars, St.kills, List.filter_nil, ge_iff_le, hrr, keep26, h1, h2, St.empty, and_false]
    · simp only [↓x_seq, ↓x_reg, execL_ret, thn_normal, regK_mk, inss, ins, List.map_cons, List.map_nil, Option.map_none, Option.map_some, Option.bind_some, List.getElem?_toArray, List.getElem?_cons_zero, List.getElem?_cons_succ,
      runI_nil, i_move, i_assign, i_pick, i_binOp, runI_guard, guardK_tf, stepK_none, putE_some, frzD_some, bnd_some, yes_eq, keepE_nil, keepE_cons, cons1_some, List.contains_nil, prim_move, prim_assign, prim_binOp, prim_pick, Nat.zero_le, opnd_tmp, opnd_int, opnd_bool, nilS_int, bin_geq, aget, aset, cond_false, decide_true, decide_false, ↓reduceIte, eq_self,
      reduceCtorEq, Nat.reduceEqDiff, Nat.reduceLT, Bool.and_false, Bool.not_false, enumE, finK_ret, Ilv.results, resV, all_nil, all_cons, frz26, lv26_0, lv26_1, St.killVars, St.kills, List.filter_nil, ge_iff_le, hrr, keep26, h1, St.empty, false_and]
  exact callV_told (ls_int s op) key rfl rfl
/-- The registers of a silent instruction. -/
def regsOf (op a b c : Int) : List Int := if op = 1 then [a] else if op = 2 ∨ op = 3 then [a, b] else if op = 4 then [a, b, c] else []
theorem told38 {op : Int} (h : 1 ≤ op ∧ op ≤ 5) (a b c nn site : Int) (s : St) : callV (callL cfg) true 38 [.agg (iC op a b c nn site)] s = some (lits (regsOf op a b c), s) := by
  have hs : code38 = Code.seq _ _ := rfl
  have hrr : fi38.fn.results.toList = [_] := rfl
  have key : ∃ r s', callL cfg 38 [.agg (iC op a b c nn site)] St.empty = some (r, s') ∧ reify s' 40 r = some (lits (regsOf op a b c)) := by
    have : op = 1 ∨ op = 2 ∨ op = 3 ∨ op = 4 ∨ op = 5 := by omega
    rcases this with rfl | rfl | rfl | rfl | rfl
    · refine ⟨.ref 1 0 1 0 1, ⟨2, [(1, ⟨1, 0, false, [[.int .i64 a]]⟩)]⟩, ?_, rfl⟩
      rw [call38, hs]
      simp only [↓x_seq, ↓x_reg, ↓x_cond, ↓x_block, execL_skip, execL_ret, thn_normal, thn_ret, regK_mk, condK_tt, outB_ret, inss, ins, List.map_cons, List.map_nil, Option.map_none, List.getElem?_toArray, List.getElem?_cons_zero, List.getElem?_cons_succ,
      runI_nil, i_assign, i_box, i_buildSlice, i_load, i_binOp, i_fieldAddr, stepK_none, stepK_set, putE_some, frzD_some, bnd_some, yes_eq, keepE_nil, keepE_cons, cons1_some, List.contains_nil, prim_assign, prim_box, prim_load, prim_binOp, prim_fieldAddr, prim_buildSlice, Nat.zero_le, opnd_tmp, opnd_int, opnd_nils, popnds_nil, popnds_cons, nilS_int, bin_eql, aget, aset, cond_true, cond_false, decide_true, ↓reduceIte, eq_self,
      reduceCtorEq, Nat.reduceEqDiff, Nat.reduceLT, Nat.reduceLeDiff, Nat.reduceBEq, Nat.reduceAdd, Nat.reduceMul, Nat.one_ne_zero, fieldAddr, rd, V.cells, List.length_cons, List.length_nil, List.take_succ_cons, List.take_zero, List.drop_succ_cons, List.drop_zero, Nat.zero_add, Nat.add_zero, ofCells, K.agg, V.storable, Bool.true_and, Bool.and_true, Bool.not_true, Bool.not_false, beq_self_eq_true, St_get, partsIn, sliceOfRows, List.all_cons, List.all_nil, elemTy, enumE, finK_ret, Ilv.results, resV, all_nil, all_cons, frz38, lv38_0, lv38_1, lv38_2, lv38_6, ty3, ty26, ty60, St.killVars, St.kills, List.filter_cons, List.filter_nil, hrr, keep38, iC, St.empty]
    · refine ⟨.ref 1 0 1 0 2, ⟨2, [(1, ⟨1, 0, false, [[.int .i64 a], [.int .i64 b]]⟩)]⟩, ?_, rfl⟩
      rw [call38, hs]
      simp only [↓x_seq, ↓x_reg, ↓x_cond, ↓x_block, execL_skip, execL_ret, thn_normal, thn_ret, regK_mk, condK_tt, condK_ff, outB_ret, inss, ins, List.map_cons, List.map_nil, Option.map_none, List.getElem?_toArray, List.getElem?_cons_zero, List.getElem?_cons_succ,
      runI_nil, i_assign, i_box, i_buildSlice, i_load, i_binOp, i_fieldAddr, stepK_none, stepK_set, putE_some, frzD_some, bnd_some, yes_eq, keepE_nil, keepE_cons, cons1_some, List.contains_nil, prim_assign, prim_box, prim_load, prim_binOp, prim_fieldAddr, prim_buildSlice, Nat.zero_le, opnd_tmp, opnd_int, opnd_nils, popnds_nil, popnds_cons, nilS_int, bin_eql, aget, aset, cond_true, cond_false, decide_true, decide_false, ↓reduceIte, eq_self,
      reduceCtorEq, Nat.reduceEqDiff, Nat.reduceLT, Nat.reduceLeDiff, Nat.reduceBEq, Nat.reduceAdd, Nat.reduceMul, Nat.one_ne_zero, fieldAddr, rd, V.cells, List.length_cons, List.length_nil, List.take_succ_cons, List.take_zero, List.drop_succ_cons, List.drop_zero, Nat.zero_add, Nat.add_zero, ofCells, K.agg, V.storable, Bool.true_and, Bool.and_true, Bool.not_true, Bool.not_false, beq_self_eq_true, St_get, partsIn, sliceOfRows, List.all_cons, List.all_nil, elemTy, enumE, finK_ret, Ilv.results, resV, all_nil, all_cons, frz38, lv38_0, lv38_1, lv38_2, lv38_3, lv38_4, lv38_5, lv38_7, lv38_9, ty3, ty26, ty60, St.killVars, St.kills, List.filter_cons, List.filter_nil, Int.reduceEq, hrr, keep38, iC, St.empty]
    · refine ⟨.ref 1 0 1 0 2, ⟨2, [(1, ⟨1, 0, false, [[.int .i64 a], [.int .i64 b]]⟩)]⟩, ?_, rfl⟩
      rw [call38, hs]
      simp only [↓x_seq, ↓x_reg, ↓x_cond, ↓x_block, execL_ret, thn_normal, thn_ret, regK_mk, condK_tt, condK_ff, outB_ret, inss, ins, List.map_cons, List.map_nil, Option.map_none, List.getElem?_toArray, List.getElem?_cons_zero, List.getElem?_cons_succ,
      runI_nil, i_assign, i_box, i_buildSlice, i_load, i_binOp, i_fieldAddr, stepK_none, stepK_set, putE_some, frzD_some, bnd_some, yes_eq, keepE_nil, keepE_cons, cons1_some, List.contains_nil, prim_assign, prim_box, prim_load, prim_binOp, prim_fieldAddr, prim_buildSlice, Nat.zero_le, opnd_tmp, opnd_int, opnd_nils, popnds_nil, popnds_cons, nilS_int, bin_eql, aget, aset, cond_true, cond_false, decide_true, decide_false, ↓reduceIte, eq_self,
      reduceCtorEq, Nat.reduceEqDiff, Nat.reduceLT, Nat.reduceLeDiff, Nat.reduceBEq, Nat.reduceAdd, Nat.reduceMul, Nat.one_ne_zero, fieldAddr, rd, V.cells, List.length_cons, List.length_nil, List.take_succ_cons, List.take_zero, List.drop_succ_cons, List.drop_zero, Nat.zero_add, Nat.add_zero, ofCells, K.agg, V.storable, Bool.true_and, Bool.and_true, Bool.not_true, Bool.not_false, beq_self_eq_true, St_get, partsIn, sliceOfRows, List.all_cons, List.all_nil, elemTy, enumE, finK_ret, Ilv.results, resV, all_nil, all_cons, frz38, lv38_0, lv38_1, lv38_2, lv38_3, lv38_4, lv38_5, lv38_7, lv38_8, lv38_9, ty3, ty26, ty60, St.killVars, St.kills, List.filter_cons, List.filter_nil, Int.reduceEq, hrr, keep38, iC, St.empty]
    · refine ⟨.ref 1 0 1 0 3, ⟨2, [(1, ⟨1, 0, false, [[.int .i64 a], [.int .i64 b], [.int .i64 c]]⟩)]⟩, ?_, rfl⟩
      rw [call38, hs]
      simp only [↓x_seq, ↓x_reg, ↓x_cond, ↓x_block, execL_ret, thn_normal, thn_ret, regK_mk, condK_tt, condK_ff, outB_ret, inss, ins, List.map_cons, List.map_nil, Option.map_none, List.getElem?_toArray, List.getElem?_cons_zero, List.getElem?_cons_succ,
      runI_nil, i_assign, i_box, i_buildSlice, i_load, i_binOp, i_fieldAddr, stepK_none, stepK_set, putE_some, frzD_some, bnd_some, yes_eq, keepE_nil, keepE_cons, cons1_some, List.contains_nil, prim_assign, prim_box, prim_load, prim_binOp, prim_fieldAddr, prim_buildSlice, Nat.zero_le, opnd_tmp, opnd_int, opnd_nils, popnds_nil, popnds_cons, nilS_int, bin_eql, aget, aset, cond_true, cond_false, decide_true, decide_false, ↓reduceIte, eq_self,
      reduceCtorEq, Nat.reduceEqDiff, Nat.reduceLT, Nat.reduceLeDiff, Nat.reduceBEq, Nat.reduceAdd, Nat.reduceMul, Nat.one_ne_zero, fieldAddr, rd, V.cells, List.length_cons, List.length_nil, List.take_succ_cons, List.take_zero, List.drop_succ_cons, List.drop_zero, Nat.zero_add, Nat.add_zero, ofCells, K.agg, V.storable, Bool.true_and, Bool.and_true, Bool.not_true, Bool.not_false, beq_self_eq_true, St_get, partsIn, sliceOfRows, List.all_cons, List.all_nil, elemTy, enumE, finK_ret, Ilv.results, resV, all_nil, all_cons, frz38, lv38_0, lv38_1, lv38_2, lv38_3, lv38_4, lv38_5, lv38_7, lv38_8, lv38_10, lv38_11, ty3, ty26, ty60, St.killVars, St.kills, List.filter_cons, List.filter_nil, Int.reduceEq, hrr, keep38, iC, St.empty]
    · refine ⟨.nils, ⟨1, []⟩, ?_, rfl⟩
      rw [call38, hs]
      simp only [↓x_seq, ↓x_reg, ↓x_cond, ↓x_block, execL_skip, execL_ret, thn_normal, regK_mk, condK_ff, outB_normal, inss, ins, List.map_cons, List.map_nil, Option.map_none, List.getElem?_toArray, List.getElem?_cons_zero, runI_nil, i_assign, i_box, i_load, i_binOp, i_fieldAddr, stepK_none, stepK_set, putE_some, frzD_some, bnd_some, yes_eq, keepE_nil, keepE_cons, cons1_some, List.contains_nil, prim_assign, prim_box, prim_load, prim_binOp, prim_fieldAddr, Nat.zero_le, opnd_tmp, opnd_int, opnd_nils, nilS_int, bin_eql, aget, aset, cond_true, cond_false, decide_true, decide_false, ↓reduceIte, eq_self,
      reduceCtorEq, Nat.reduceEqDiff, Nat.reduceLT, Nat.reduceLeDiff, Nat.reduceBEq, Nat.reduceAdd, Nat.one_ne_zero, fieldAddr, rd, V.cells, List.length_cons, List.length_nil, List.take_succ_cons, List.take_zero, List.drop_zero, Nat.zero_add, Nat.add_zero, ofCells, K.agg, V.storable, Bool.true_and, Bool.not_true, beq_self_eq_true, St_get, enumE, finK_ret, Ilv.results, resV, all_nil, all_cons, frz38, lv38_0, lv38_1, lv38_2, lv38_3, lv38_4, lv38_5, lv38_7, lv38_8, lv38_10, lv38_12, lv38_14, lv38_15, lv38_17, lv38_19, ty3, ty60, St.killVars, St.kills, List.filter_cons, List.filter_nil, Int.reduceEq, hrr, keep38, iC, St.empty]
  obtain ⟨r, s', h1, h2⟩ := key
  exact callV_told (show allSome (reify s 40) [.agg (iC op a b c nn site)] = some [.agg (iC op a b c nn site)] from rfl) h1 h2 rfl
end Go.Proofs.YtdCfgT

/- The reference's Copy. -/
set_option maxRecDepth 100000
set_option linter.unusedSimpArgs false
set_option linter.unusedVariables false
namespace Go.Proofs.YtdCfgT
open Go Go.Ilv
theorem frz_nil (s : St) (id : Nat) : appendOp cfg true s id 3 .nils (.lit []) = some (.nils, .none) := rfl
theorem frz_lit {t : List Int} (ht : t ≠ []) (hl : t.length ≤ 100000000) (s : St) (id : Nat) : appendOp cfg true s id 3 .nils (.lit (t.map iV)) = some (.lit (t.map iV), .none) := by
  have h1 : (t.map iV).all (fun v => v.storable && decide (v.cells.length = 1)) = true := by simp [iV, V.storable, V.cells]
  have h2 : (t.map iV).isEmpty = false := by simpa using ht
  have h3 : (t.map iV).all V.flat = true := by simp [iV, V.flat]
  have h4 : (t.map iV).map V.norm = t.map iV := by simp [iV, V.norm, V.norm1]
  have hr := room8 hl
  simp only [appendOp, ty3, elems, h2, Nat.one_ne_zero, Bool.false_eq_true, if_false, List.length_map, hr, if_true, sliceOfRows, h1, h3, h4]
theorem tRow_take {taint : List (List Int)} {k : Nat} (hk : k < taint.length) : (taint.take k).map tRow ++ [[.lit (taint[k].map iV)]] = (taint.take (k + 1)).map tRow := by
  rw [← List.take_append_getElem hk, List.map_append]; rfl
theorem IsL.own_lt {l : List (Nat × Ilv.Obj)} {sz n : Nat} {v : V} {rows : List (List V)} (h : IsL l sz v rows) (hf : Fresh n l) {j : Nat} (hj : v.own ≠ some j) (hn : j < n) (d : Nat) : j ≠ appI v (n + d) := by
  cases h with
  | nil => show j ≠ n + d; omega
  | ref id ver _ _ _ => exact fun e => hj (by rw [e]; rfl)
theorem appI_lt' {l : List (Nat × Ilv.Obj)} {sz n : Nat} {v : V} {rows : List (List V)} (h : IsL l sz v rows) (hf : Fresh n l) (d : Nat) : appI v (n + d) < n + d + 1 := by
  cases hv : v.own with
  | none => cases v <;> first | exact Nat.lt_succ_self _ | simp [V.own] at hv
  | some i =>
    have := h.lt hf i hv
    cases v <;> simp [V.own] at hv
    subst hv
    show _ < _; simp only [appI]; omega
theorem appV_st {v : V} {id sz n : Nat} : (appV v id sz n).storable = true ∧ (appV v id sz n).cells = [appV v id sz n] := by cases v <;> exact ⟨rfl, rfl⟩
set_option maxHeartbeats 1000000 in
theorem loop25 (s : SS) (hl : s.taint.length ≤ 50000000) (hs : ∀ t ∈ s.taint, t.length ≤ 100000000) (p q o rid : Nat) (rv : V) (hpo : p ≠ o) (hro : rid ≠ o) : ∀ (m k n : Nat) (L : List (Nat × Ilv.Obj)) (tv : V), k + m = s.taint.length → Fresh n L → p < n → o < n → rid < n →
    aget L p = some ⟨4, 0, true, [[.int .i64 s.pc, .lit (s.regs.map iV), .lit (s.taint.map lits), .int .i64 s.ev]]⟩ → aget L o = some ⟨4, 0, true, [[.int .i64 s.pc, rv, tv, .int .i64 s.ev]]⟩ → IsL L 1 tv ((s.taint.take k).map tRow) → tv.own ≠ some p → tv.own ≠ some o → tv.own ≠ some rid →
    ∃ n' L' tv', execL cfg fi25 (sub code25 [1, 1, 0, 1, 0]) [(1, .ptr p 0 0 0), (2, .ptr q 0 0 0), (3, .ptr o 0 0 0), (4, .int .i64 k)] ⟨n, L⟩ =
      some (.exit 0, [(1, .ptr p 0 0 0), (2, .ptr q 0 0 0), (3, .ptr o 0 0 0), (4, .int .i64 s.taint.length), (18, .bool false)], ⟨n', L'⟩) ∧ n ≤ n' ∧ Fresh n' L' ∧
      aget L' o = some ⟨4, 0, true, [[.int .i64 s.pc, rv, tv', .int .i64 s.ev]]⟩ ∧ IsL L' 1 tv' (s.taint.map tRow) ∧ (∀ j, j < n → j ≠ o → tv.own ≠ some j → aget L' j = aget L j) ∧ (∀ j, tv'.own = some j → tv.own = some j ∨ n ≤ j) := by
  have hcode : sub code25 [1, 1, 0, 1, 0] = Code.loop (sub code25 [1, 1, 0, 1, 0, 0]) := rfl
  have hbody : sub code25 [1, 1, 0, 1, 0, 0] = Code.seq _ _ := rfl
  intro m
  induction m with
  | zero =>
    intro k n L tv hk hf hpn hon hrn hp ho ht tp to tr
    obtain rfl : k = s.taint.length := by omega
    refine ⟨n, L, tv, ?_, Nat.le_refl _, hf, ho, by rw [List.take_length] at ht; exact ht, fun _ _ _ _ => rfl, fun j hj => .inl hj⟩
    rw [hcode, x_loop, hbody]
    simp only [↓x_seq, ↓x_reg, ↓x_cond, execL_exit, thn_normal, thn_exit, regK_mk, condK_ff, inss, ins, List.map_cons, List.map_nil, Option.map_none, List.getElem?_toArray, List.getElem?_cons_zero, List.getElem?_cons_succ,
      runI_nil, i_move, i_load, i_binOp, i_fieldAddr, i_builtin, stepK_none, putE_some, frzD_some, bnd_some, yes_eq, keepE_nil, keepE_cons, cons1_some, List.contains_cons, List.contains_nil, Bool.or_false, prim_move, prim_load, prim_binOp, prim_fieldAddr, prim_len, opnd_tmp, nilS_tmp, bin_lss, aget, aset, cond_false, decide_false, ↓reduceIte, eq_self,
      reduceCtorEq, Nat.reduceEqDiff, Nat.reduceLT, Nat.reduceLeDiff, Nat.reduceBEq, Nat.reduceAdd, Nat.one_ne_zero, fieldAddr, rd, List.length_cons, List.length_nil, List.take_succ_cons, List.take_zero, List.drop_succ_cons, List.drop_zero, Nat.zero_add, ofCells, K.agg, St_get, Bool.or_false, frz25, lv25_3, ty37, ty39, lenl37, List.length_map, hp, Int.lt_irrefl]
  | succ m ih =>
    intro k n L tv hk hf hpn hon hrn hp ho ht tp to tr
    have hkl : k < s.taint.length := by omega
    have hki : (k : Int) < (s.taint.length : Int) := by omega
    have hw := wrap_next8 (k := k) (by omega)
    have hg : (s.taint.map lits)[k]? = some (.lit (s.taint[k].map iV)) := by rw [List.getElem?_map, List.getElem?_eq_getElem hkl]; rfl
    have hsk := hs _ (List.getElem_mem hkl)
    have hrows := tRow_take hkl
    have hlen : ((s.taint.take k).map tRow).length = k := by simp; omega
    have hroom : roomOk (((s.taint.take k).map tRow).length + [V.lit (s.taint[k].map iV)].length) 24 = true := by
      simp only [roomOk, Bool.and_eq_true, decide_eq_true_eq, hlen, List.length_cons, List.length_nil]; omega
    have hap : appendOp cfg false ⟨n + 13, L⟩ (n + 10) 26 tv (.lit [.lit (s.taint[k].map iV)]) = some (appV tv (n + 10) 1 (k + 1), .set (appI tv (n + 10)) (appO tv 1 ((s.taint.take (k + 1)).map tRow))) := by
      have := append_eq (C := cfg) (n := n + 13) (id := n + 10) (sz := 1) (y := .lit [.lit (s.taint[k].map iV)]) (ys := [V.lit (s.taint[k].map iV)]) ty26 rfl (by decide) ht rfl (by simp) (by simp [V.storable, V.cells]) hroom
      rw [hlen] at this
      simp only [List.map_cons, List.map_nil, V.cells, hrows, List.length_cons, List.length_nil] at this
      exact this
    have q1 : (o = appI tv (n + 10)) = False := eq_false (IsL.own_lt ht hf to hon 10)
    have hI := appI_lt' ht hf 10
    have ht' : IsL (aset L (appI tv (n + 10)) (appO tv 1 ((s.taint.take (k + 1)).map tRow))) 1 (appV tv (n + 10) 1 (k + 1)) ((s.taint.take (k + 1)).map tRow) := by
      have := IsL.app (id := n + 10) (ys := [V.lit (s.taint[k].map iV)]) ht (by simp [V.storable, V.cells])
      rw [hlen] at this
      simp only [List.map_cons, List.map_nil, V.cells, hrows, List.length_cons, List.length_nil] at this
      exact this
    have hown : (appV tv (n + 10) 1 (k + 1)).own = some (appI tv (n + 10)) := own_appV
    have po := IsL.own_lt ht hf tp hpn 10
    have oo := IsL.own_lt ht hf to hon 10
    have ro := IsL.own_lt ht hf tr hrn 10
    obtain ⟨n', L', tv', g1, g2, g3, g4, g5, g6, g7⟩ := ih (k + 1) (n + 13) (aset (aset L (appI tv (n + 10)) (appO tv 1 ((s.taint.take (k + 1)).map tRow))) o ⟨4, 0, true, [[.int .i64 s.pc, rv, appV tv (n + 10) 1 (k + 1), .int .i64 s.ev]]⟩) (appV tv (n + 10) 1 (k + 1)) (by omega)
      ((hf.set (by omega) (by omega)).set (Nat.le_refl _) (by omega)) (by omega) (by omega) (by omega) (by rw [aget_ne hpo, aget_ne po]; exact hp) aget_self
      (ht'.set (by rw [hown]; exact fun e => oo (Option.some.inj e).symm)) (by rw [hown]; exact fun e => po (Option.some.inj e).symm) (by rw [hown]; exact fun e => oo (Option.some.inj e).symm) (by rw [hown]; exact fun e => ro (Option.some.inj e).symm)
    refine ⟨n', L', tv', ?_, by omega, g3, g4, g5, fun j hj hjo hjt => ?_, fun j hj => ?_⟩
    · have hst := appV_st (v := tv) (id := n + 10) (sz := 1) (n := k + 1)
      generalize appV tv (n + 10) 1 (k + 1) = X at hap g1 hst
      rw [hcode, x_loop, ← hcode, hbody]
      by_cases htk : s.taint[k] = []
      · rw [htk] at hg hap
        have fz := frz_nil
        simp only [List.map_nil] at hg hap
        simp only [↓x_seq, ↓x_reg, ↓x_drawK, drawK_t, bumps, makes, goCall, writes, frzOf, List.any_cons, List.any_nil, List.size_toArray, ↓x_cond, ↓x_block, execL_skip, thn_normal, regK_mk, condK_tt, outB_normal, inss, ins, List.map_cons, List.map_nil, Option.map_none, List.getElem?_toArray, List.getElem?_cons_zero, List.getElem?_cons_succ,
      runI_nil, i_move, i_assign, i_load, i_binOp, i_fieldAddr, i_builtin, stepK_none, runDI_nil, d_move, d_buildSlice, d_load, d_store, d_fieldAddr, d_indexAddr, d_builtin, stepD_none, stepD_set, putE_some, putE_none, frzD_some, frzD_none, bnd_some, yes_eq, keepE_nil, keepE_cons, cons1_some, List.contains_cons, List.contains_nil, Bool.or_false, Bool.or_true, prim_move, prim_assign, prim_load, prim_store, prim_binOp, prim_fieldAddr, prim_indexAddr, prim_len, prim_append, prim_buildSlice, prim_buildSlice0, true_and, opnd_tmp, opnd_int, popnds_nil, popnds_cons, nilS_tmp, nilS_int, bin_lss, bin_add, aget, aset, aget_aset, cond_true, cond_false, decide_true, ↓reduceIte, eq_self,
      reduceCtorEq, Nat.reduceEqDiff, Nat.reduceLT, Nat.reduceLeDiff, Nat.reduceBEq, Nat.reduceAdd, Nat.reduceMul, Nat.one_ne_zero, indexAddr, fieldAddr, rd, Int.natCast_nonneg, Int.toNat_natCast, List.length_cons, List.length_nil, List.take_succ_cons, List.take_zero, List.drop_succ_cons, List.drop_zero, List.take_nil, List.set_cons_zero, List.nil_append, List.cons_append, Nat.zero_add, Nat.add_zero, Nat.le_refl, ofCells, K.agg, put1, splice, sto_nils, cel_lit, cel_nils, Bool.true_and, Bool.and_true, Bool.and_false, Bool.not_true, Bool.not_false, beq_self_eq_true, St_get, partsIn, sliceOfRows, List.all_cons, List.all_nil, V.flat, V.norm, V.norm1, elemTy, Bool.or_false, frz25, lv25_3, lv25_5, cf25_5, lv25_4, ty3, ty26, ty37, ty39, lenl37, List.length_map, hki, hp, ho, hg, fz, hap, q1, hw, hst]
        exact g1
      · have fz := fun s id => frz_lit htk hsk s id
        simp only [↓x_seq, ↓x_reg, ↓x_drawK, drawK_t, bumps, makes, goCall, writes, frzOf, List.any_cons, List.any_nil, List.size_toArray, ↓x_cond, ↓x_block, execL_skip, thn_normal, regK_mk, condK_tt, outB_normal, inss, ins, List.map_cons, List.map_nil, Option.map_none, List.getElem?_toArray, List.getElem?_cons_zero, List.getElem?_cons_succ,
      runI_nil, i_move, i_assign, i_load, i_binOp, i_fieldAddr, i_builtin, stepK_none, runDI_nil, d_move, d_buildSlice, d_load, d_store, d_fieldAddr, d_indexAddr, d_builtin, stepD_none, stepD_set, putE_some, putE_none, frzD_some, frzD_none, bnd_some, yes_eq, keepE_nil, keepE_cons, cons1_some, List.contains_cons, List.contains_nil, Bool.or_false, Bool.or_true, prim_move, prim_assign, prim_load, prim_store, prim_binOp, prim_fieldAddr, prim_indexAddr, prim_len, prim_append, prim_buildSlice, prim_buildSlice0, true_and, opnd_tmp, opnd_int, popnds_nil, popnds_cons, nilS_tmp, nilS_int, bin_lss, bin_add, aget, aset, aget_aset, cond_true, cond_false, decide_true, ↓reduceIte, eq_self,
      reduceCtorEq, Nat.reduceEqDiff, Nat.reduceLT, Nat.reduceLeDiff, Nat.reduceBEq, Nat.reduceAdd, Nat.reduceMul, Nat.one_ne_zero, indexAddr, fieldAddr, rd, Int.natCast_nonneg, Int.toNat_natCast, List.length_cons, List.length_nil, List.take_succ_cons, List.take_zero, List.drop_succ_cons, List.drop_zero, List.take_nil, List.set_cons_zero, List.nil_append, List.cons_append, Nat.zero_add, Nat.add_zero, Nat.le_refl, ofCells, K.agg, put1, splice, sto_lit, cel_lit, Bool.true_and, Bool.and_true, Bool.and_false, Bool.not_true, Bool.not_false, beq_self_eq_true, St_get, partsIn, sliceOfRows, List.all_cons, List.all_nil, V.flat, V.norm, V.norm1, elemTy, Bool.or_false, frz25, lv25_3, lv25_5, cf25_5, lv25_4, ty3, ty26, ty37, ty39, lenl37, List.length_map, hki, hp, ho, hg, fz, hap, q1, hw, hst]
        exact g1
    · rw [g6 j (by omega) hjo (by rw [hown]; exact fun e => IsL.own_lt ht hf hjt hj 10 (Option.some.inj e).symm), aget_ne hjo, aget_ne (IsL.own_lt ht hf hjt hj 10)]
    · rcases g7 j hj with h | h
      · rw [hown] at h
        cases hv : tv.own with
        | none =>
          right
          have : appI tv (n + 10) = n + 10 := by cases tv <;> first | rfl | simp [V.own] at hv
          rw [this] at h; have := Option.some.inj h; omega
        | some i =>
          left
          cases tv <;> simp [V.own] at hv
          subst hv; exact h
      · right; omega
end Go.Proofs.YtdCfgT

/- The reference's Copy. -/
set_option maxRecDepth 100000
set_option linter.unusedSimpArgs false
set_option linter.unusedVariables false
namespace Go.Proofs.YtdCfgT
open Go Go.Ilv
theorem app_nils2 {zs : List Int} (hz : zs ≠ []) {id n : Nat} {L : List (Nat × Ilv.Obj)} (hr : roomOk zs.length 8 = true) : appendOp cfg false ⟨n, L⟩ id 2 .nils (.lit (zs.map iV)) = some (.ref id 0 1 0 zs.length, .set id (RObj zs)) := by
  have h1 : (zs.map iV).all (fun v => v.storable && decide (v.cells.length = 1)) = true := by simp [iV, V.storable, V.cells]
  have h2 : (zs.map iV).map V.cells = zs.map intRow := by simp [iV, V.cells, intRow]
  have h3 : (zs.map iV).isEmpty = false := by simpa using hz
  simp only [appendOp, ty2, elems, h3, Nat.one_ne_zero, Bool.false_eq_true, if_false, List.length_map, hr, if_true, sliceOfRows, h1, h2, RObj]
theorem call25a {l : List (Nat × Ilv.Obj)} {n : Nat} (hf : Fresh n l) (s : SS) (hr : s.regs.length ≤ 50000000) (hl : s.taint.length ≤ 50000000) (hs : ∀ t ∈ s.taint, t.length ≤ 100000000) (hne : s.regs ≠ []) :
    ∃ m l' tv, callL cfg 25 [.agg (stC s)] ⟨n, l⟩ = some (.agg [.int .i64 s.pc, (.ref (n + 9) 0 1 0 s.regs.length), tv, .int .i64 s.ev], ⟨m, l'⟩) ∧ n + 13 ≤ m ∧ Fresh m l' ∧ aget l' (n + 9) = some (RObj s.regs) ∧ IsL l' 1 tv (s.taint.map tRow) ∧ tv.own ≠ some (n + 9) ∧ (∀ j, tv.own = some j → n ≤ j) ∧ (∀ j, j < n → aget l' j = aget l j) := by
  have hc : code25 = Code.seq (sub code25 [0]) (Code.seq (sub code25 [1, 0]) (Code.seq (Code.seq (sub code25 [1, 1, 0, 0]) (Code.block 0 (sub code25 [1, 1, 0, 1, 0]))) (sub code25 [1, 1, 1]))) := rfl
  have e0 : sub code25 [0] = Code.region _ _ _ := rfl
  have e1 : sub code25 [1, 0] = Code.region _ _ _ := rfl
  have e2 : sub code25 [1, 1, 0, 0] = Code.region _ _ _ := rfl
  have e3 : sub code25 [1, 1, 1] = Code.seq _ _ := rfl
  have hrr : fi25.fn.results.toList = [_] := rfl
  have ap := fun m L id => app_nils2 (n := m) (L := L) (id := id) hne (room8 (by omega))
  have hf0 : Fresh (n + 13) (aset (aset (aset (aset l n ⟨4, 0, true, [[.int .i64 s.pc, .lit (s.regs.map iV), .lit (s.taint.map lits), .int .i64 s.ev]]⟩) (n + 1) ⟨4, 0, true, [[.int .i64 0, .nils, .nils, .int .i64 0]]⟩) (n + 9) (RObj s.regs)) (n + 11) ⟨4, 0, true, [[.int .i64 s.pc, (.ref (n + 9) 0 1 0 s.regs.length), .nils, .int .i64 s.ev]]⟩) := ((((hf.set (Nat.le_add_right n 13) (by omega)).set (Nat.le_refl _) (by omega)).set (Nat.le_refl _) (by omega)).set (Nat.le_refl _) (by omega))
  obtain ⟨m, L', tv, g1, g2, g3, g4, g5, g6, g7⟩ := loop25 s hl hs n (n + 1) (n + 11) (n + 9) (.ref (n + 9) 0 1 0 s.regs.length) (by omega) (by omega) s.taint.length 0 (n + 13) (aset (aset (aset (aset l n ⟨4, 0, true, [[.int .i64 s.pc, .lit (s.regs.map iV), .lit (s.taint.map lits), .int .i64 s.ev]]⟩) (n + 1) ⟨4, 0, true, [[.int .i64 0, .nils, .nils, .int .i64 0]]⟩) (n + 9) (RObj s.regs)) (n + 11) ⟨4, 0, true, [[.int .i64 s.pc, (.ref (n + 9) 0 1 0 s.regs.length), .nils, .int .i64 s.ev]]⟩) .nils (by omega) hf0 (by omega) (by omega) (by omega)
    (by rw [aget_ne (by omega), aget_ne (by omega), aget_ne (by omega), aget_self]) aget_self (by rw [List.take_zero, List.map_nil]; exact .nil) (by simp [V.own]) (by simp [V.own]) (by simp [V.own])
  simp only [Int.cast_ofNat_Int] at g1
  have a2 : aget L' (n + 1) = some ⟨4, 0, true, [[.int .i64 0, .nils, .nils, .int .i64 0]]⟩ := by rw [g6 (n + 1) (by omega) (by omega) (by simp [V.own]), aget_ne (by omega), aget_ne (by omega), aget_self]
  have q1 : (n = n + 1) = False := eq_false (by omega)
  have q2 : (n = n + 9) = False := eq_false (by omega)
  have q3 : (n = n + 11) = False := eq_false (by omega)
  have q4 : (n + 1 = n + 11) = False := eq_false (by omega)
  have q5 : (n + 1 = n + 9) = False := eq_false (by omega)
  have q6 : (n + 1 = m) = False := eq_false (by omega)
  have q7 : (n + 11 = n + 9) = False := eq_false (by omega)
  have q8 : (n + 1 = n) = False := eq_false (by omega)
  have b1 : (n == n + 9) = false := beq_eq_false_iff_ne.2 (by omega)
  have b2 : (n + 9 == n) = false := beq_eq_false_iff_ne.2 (by omega)
  have b3 : (n == n + 11) = false := beq_eq_false_iff_ne.2 (by omega)
  have b4 : (n + 11 == n) = false := beq_eq_false_iff_ne.2 (by omega)
  have b5 : (n + 9 == n + 11) = false := beq_eq_false_iff_ne.2 (by omega)
  have b6 : (n + 11 == n + 9) = false := beq_eq_false_iff_ne.2 (by omega)
  have ho7 : tv.own ≠ some (n + 1) := fun e => by rcases g7 _ e with h | h; · simp [V.own] at h
                                                  · omega
  refine ⟨m, (St.killVars ⟨m, aset L' (n + 1) ⟨4, 0, true, [[.int .i64 s.pc, (.ref (n + 9) 0 1 0 s.regs.length), tv, .int .i64 s.ev]]⟩⟩ n).objs, tv, ?_, g2, (g3.set (Nat.le_refl _) (by omega)).kill, ?_, killVars_list (s := ⟨m, _⟩) (g5.set ho7), ?_, ?_, fun j hj => ?_⟩
  · rw [call25, hc]
    simp (config := { maxSteps := 2000000 }) only [↓x_seq, ↓x_reg, ↓x_drawK, bumps, makes, goCall, writes, frzOf, List.any_cons, List.any_nil, List.size_toArray, ↓x_block, execL_ret, thn_normal, regK_mk, outB_exit, inss, ins, List.map_cons, List.map_nil, Option.map_none, Option.map_some, List.getElem?_toArray, List.getElem?_cons_zero, List.getElem?_cons_succ,
      runI_nil, i_assign, i_alloc, i_box, i_load, i_store, stepK_none, stepK_set, putE_some, putE_none, frzD_some, frzD_none, bnd_some, yes_eq, keepE_nil, keepE_cons, cons1_some, List.contains_cons, List.contains_nil, Bool.or_false, Bool.or_true, prim_assign, prim_alloc, prim_box, prim_build, prim_load, prim_store, prim_fieldAddr, prim_append, prim_buildSlice0, opnd_tmp, opnd_int, opnds_nil, opnds_cons, popnds_nil, popnds_cons, aget, aset, aget_aset, aset_aset, cond_true, cond_false, decide_true, ↓reduceIte, eq_self,
      reduceCtorEq, Nat.reduceEqDiff, Nat.reduceLT, Nat.reduceLeDiff, Nat.reduceBEq, Nat.reduceAdd, Nat.add_assoc, Nat.one_ne_zero, fieldAddr, rd, List.length_cons, List.length_nil, List.take_succ_cons, List.take_zero, List.drop_succ_cons, List.drop_zero, List.drop_nil, List.take_nil, List.set_cons_zero, List.nil_append, List.cons_append, List.append_nil, Nat.zero_add, Nat.add_zero, Nat.le_refl, ofCells, K.agg, put1, splice, build, buildFill, sto_int, sto_agg, sto_ref, cel_int, cel_agg, cel_ref, Bool.true_and, Bool.and_true, Bool.and_false, Bool.not_true, Bool.not_false, beq_self_eq_true, St_get, List.all_cons, List.all_nil, elemTy, enumE, finK_ret, Ilv.results, resV, all_nil, all_cons, Bool.or_false, frz25, lv25_0, lv25_1, cf25_1, lv25_2, lv25_6, ty2, ty3, ty36, ty39, drawK_some, runDF_nil, f_alloc, f_build, f_buildSlice, f_load, f_store, f_fieldAddr, f_builtin, stepF_none, stepF_set, footK_mk, footP_load, footP_store, footP_append, footP_alloc, footP_build, footP_buildSlice, footP_fieldAddr, footW_none, footW_set, footR_some, footA_some, idOf, footAt_eq, Option.getD_some, indep_cells, apartL_nil, apartL_cons, List.flatMap_cons, List.flatMap_nil, e0, e1, e2, e3, hrr, keep25, stC, lits, litss, ap, g1, g4, a2, q1, q6, b2, b4, b5]
    rfl
  · rw [aget_kill_some (o := RObj s.regs) ?_ rfl]
    rw [aget_ne (by omega), g6 (n + 9) (by omega) (by omega) (by simp [V.own]), aget_ne (by omega), aget_self]
  · intro e; rcases g7 _ e with h | h
    · simp [V.own] at h
    · omega
  · intro j e; rcases g7 _ e with h | h
    · simp [V.own] at h
    · omega
  · rw [aget_kill hj, aget_ne (by omega), g6 j (by omega) (by omega) (by simp [V.own]), aget_ne (by omega), aget_ne (by omega), aget_ne (by omega), aget_ne (by omega)]
theorem call25b {l : List (Nat × Ilv.Obj)} {n : Nat} (hf : Fresh n l) (s : SS) (hr : s.regs.length ≤ 50000000) (hl : s.taint.length ≤ 50000000) (hs : ∀ t ∈ s.taint, t.length ≤ 100000000) (hne : s.regs = []) :
    ∃ m l' tv, callL cfg 25 [.agg (stC s)] ⟨n, l⟩ = some (.agg [.int .i64 s.pc, .nils, tv, .int .i64 s.ev], ⟨m, l'⟩) ∧ n + 13 ≤ m ∧ Fresh m l' ∧  IsL l' 1 tv (s.taint.map tRow) ∧ tv.own ≠ some (n + 9) ∧ (∀ j, tv.own = some j → n ≤ j) ∧ (∀ j, j < n → aget l' j = aget l j) := by
  have hc : code25 = Code.seq (sub code25 [0]) (Code.seq (sub code25 [1, 0]) (Code.seq (Code.seq (sub code25 [1, 1, 0, 0]) (Code.block 0 (sub code25 [1, 1, 0, 1, 0]))) (sub code25 [1, 1, 1]))) := rfl
  have e0 : sub code25 [0] = Code.region _ _ _ := rfl
  have e1 : sub code25 [1, 0] = Code.region _ _ _ := rfl
  have e2 : sub code25 [1, 1, 0, 0] = Code.region _ _ _ := rfl
  have e3 : sub code25 [1, 1, 1] = Code.seq _ _ := rfl
  have hrr : fi25.fn.results.toList = [_] := rfl
  have ap : ∀ s id, appendOp cfg false s id 2 .nils (.lit []) = some (.nils, .none) := fun _ _ => rfl
  have hreg : s.regs.map iV = [] := by rw [hne]; rfl
  have hf0 : Fresh (n + 13) (aset (aset (aset l n ⟨4, 0, true, [[.int .i64 s.pc, .lit [], .lit (s.taint.map lits), .int .i64 s.ev]]⟩) (n + 1) ⟨4, 0, true, [[.int .i64 0, .nils, .nils, .int .i64 0]]⟩) (n + 11) ⟨4, 0, true, [[.int .i64 s.pc, .nils, .nils, .int .i64 s.ev]]⟩) := (((hf.set (Nat.le_add_right n 13) (by omega)).set (Nat.le_refl _) (by omega)).set (Nat.le_refl _) (by omega))
  obtain ⟨m, L', tv, g1, g2, g3, g4, g5, g6, g7⟩ := loop25 s hl hs n (n + 1) (n + 11) (n + 9) .nils (by omega) (by omega) s.taint.length 0 (n + 13) (aset (aset (aset l n ⟨4, 0, true, [[.int .i64 s.pc, .lit [], .lit (s.taint.map lits), .int .i64 s.ev]]⟩) (n + 1) ⟨4, 0, true, [[.int .i64 0, .nils, .nils, .int .i64 0]]⟩) (n + 11) ⟨4, 0, true, [[.int .i64 s.pc, .nils, .nils, .int .i64 s.ev]]⟩) .nils (by omega) hf0 (by omega) (by omega) (by omega)
    (by rw [aget_ne (by omega), aget_ne (by omega), aget_self]; rw [hreg]) aget_self (by rw [List.take_zero, List.map_nil]; exact .nil) (by simp [V.own]) (by simp [V.own]) (by simp [V.own])
  simp only [Int.cast_ofNat_Int] at g1
  have a2 : aget L' (n + 1) = some ⟨4, 0, true, [[.int .i64 0, .nils, .nils, .int .i64 0]]⟩ := by rw [g6 (n + 1) (by omega) (by omega) (by simp [V.own]), aget_ne (by omega), aget_self]
  have q1 : (n = n + 1) = False := eq_false (by omega)
  have q2 : (n = n + 9) = False := eq_false (by omega)
  have q3 : (n = n + 11) = False := eq_false (by omega)
  have q4 : (n + 1 = n + 11) = False := eq_false (by omega)
  have q5 : (n + 1 = n + 9) = False := eq_false (by omega)
  have q6 : (n + 1 = m) = False := eq_false (by omega)
  have q7 : (n + 11 = n + 9) = False := eq_false (by omega)
  have q8 : (n + 1 = n) = False := eq_false (by omega)
  have b1 : (n == n + 9) = false := beq_eq_false_iff_ne.2 (by omega)
  have b2 : (n + 9 == n) = false := beq_eq_false_iff_ne.2 (by omega)
  have b3 : (n == n + 11) = false := beq_eq_false_iff_ne.2 (by omega)
  have b4 : (n + 11 == n) = false := beq_eq_false_iff_ne.2 (by omega)
  have b5 : (n + 9 == n + 11) = false := beq_eq_false_iff_ne.2 (by omega)
  have b6 : (n + 11 == n + 9) = false := beq_eq_false_iff_ne.2 (by omega)
  have ho7 : tv.own ≠ some (n + 1) := fun e => by rcases g7 _ e with h | h; · simp [V.own] at h
                                                  · omega
  refine ⟨m, (St.killVars ⟨m, aset L' (n + 1) ⟨4, 0, true, [[.int .i64 s.pc, .nils, tv, .int .i64 s.ev]]⟩⟩ n).objs, tv, ?_, g2, (g3.set (Nat.le_refl _) (by omega)).kill, killVars_list (s := ⟨m, _⟩) (g5.set ho7), ?_, ?_, fun j hj => ?_⟩
  · rw [call25, hc]
    simp (config := { maxSteps := 2000000 }) only [↓x_seq, ↓x_reg, ↓x_drawK, bumps, makes, goCall, writes, frzOf, List.any_cons, List.any_nil, List.size_toArray, ↓x_block, execL_ret, thn_normal, regK_mk, outB_exit, inss, ins, List.map_cons, List.map_nil, Option.map_none, Option.map_some, List.getElem?_toArray, List.getElem?_cons_zero, List.getElem?_cons_succ,
      runI_nil, i_assign, i_alloc, i_box, i_load, i_store, stepK_none, stepK_set, putE_some, putE_none, frzD_some, frzD_none, bnd_some, yes_eq, keepE_nil, keepE_cons, cons1_some, List.contains_cons, List.contains_nil, Bool.or_false, Bool.or_true, prim_assign, prim_alloc, prim_box, prim_build, prim_load, prim_store, prim_fieldAddr, prim_append, prim_buildSlice0, opnd_tmp, opnd_int, opnds_nil, opnds_cons, popnds_nil, popnds_cons, aget, aset, aget_aset, aset_aset, cond_true, cond_false, decide_true, ↓reduceIte, eq_self,
      reduceCtorEq, Nat.reduceEqDiff, Nat.reduceLT, Nat.reduceLeDiff, Nat.reduceBEq, Nat.reduceAdd, Nat.add_assoc, Nat.one_ne_zero, fieldAddr, rd, List.length_cons, List.length_nil, List.take_succ_cons, List.take_zero, List.drop_succ_cons, List.drop_zero, List.drop_nil, List.take_nil, List.set_cons_zero, List.nil_append, List.cons_append, List.append_nil, Nat.zero_add, Nat.add_zero, Nat.le_refl, ofCells, K.agg, put1, splice, build, buildFill, sto_int, sto_agg, sto_nils, cel_int, cel_agg, cel_nils, Bool.true_and, Bool.and_true, Bool.and_false, Bool.not_true, Bool.not_false, beq_self_eq_true, St_get, List.all_cons, List.all_nil, elemTy, enumE, finK_ret, Ilv.results, resV, all_nil, all_cons, Bool.or_false, frz25, lv25_0, lv25_1, cf25_1, lv25_2, lv25_6, ty2, ty3, ty36, ty39, drawK_some, runDF_nil, f_alloc, f_build, f_buildSlice, f_load, f_store, f_fieldAddr, f_builtin, stepF_none, stepF_set, footK_mk, footP_load, footP_store, footP_append, footP_alloc, footP_build, footP_buildSlice, footP_fieldAddr, footW_none, footW_set, footR_some, footA_some, idOf, footAt_eq, Option.getD_some, indep_cells, apartL_nil, apartL_cons, List.flatMap_cons, List.flatMap_nil, e0, e1, e2, e3, hrr, keep25, stC, lits, litss, ap, g1, g4, a2, q1, q6, b4, hreg]
    rfl
  · intro e; rcases g7 _ e with h | h
    · simp [V.own] at h
    · omega
  · intro j e; rcases g7 _ e with h | h
    · simp [V.own] at h
    · omega
  · rw [aget_kill hj, aget_ne (by omega), g6 j (by omega) (by omega) (by simp [V.own]), aget_ne (by omega), aget_ne (by omega), aget_ne (by omega)]
end Go.Proofs.YtdCfgT
