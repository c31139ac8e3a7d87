/- append, make, literals, variables, stores. -/
import Derived.Test.YtdofkchhdckomaaIlvWrite2
set_option linter.unusedVariables false
set_option linter.unusedSimpArgs false
namespace Go.Ilv
open Go

/-- What an operation comes to. -/
def OpDone (gl : Nat → Option (List V)) (K : Ctx) (s : St) (w : World) (id : Nat) (v : V) (eff : Eff) (res : Result Value) : Prop :=
  ∃ K' w' u, res = .ok u w' ∧ Stp K w K' w' ∧ RelW gl K' (eff.on s) w' ∧ VRel K' w' v u ∧ ∀ j, K'.al j → K.al j ∨ (j = id ∧ ∃ o, eff = .set id o)

section
variable {C : Cfg} {P : Program} {gl : Nat → Option (List V)} {K : Ctx} {s : St} {w w' : World} {e : Env} {a : Act}

theorem roomOk_spec {n b : Nat} (h : roomOk n b = true) : n ≤ 35184372088832 ∧ n * b ≤ 35184372088832 := by simpa [roomOk] using h

theorem cells_append {n sz : Nat} {vals : Nat → Nat → Value} {us : List Value} {rest : Array Value} {k i j : Nat} (hk : us.length = k * sz) (hi : i < n) (hj : j < sz) :
    (us.toArray ++ (valsList n sz vals).toArray ++ rest)[(k + i) * sz + j]? = some (vals i j) := by
  have hlen := valsList_len n sz vals
  have h1 : i * sz + j < n * sz := by
    have : (i + 1) * sz ≤ n * sz := Nat.mul_le_mul_right _ hi
    rw [Nat.add_mul] at this; omega
  have h2 := valsList_get n sz vals hi hj
  have e : (k + i) * sz + j = us.length + (i * sz + j) := by rw [hk, Nat.add_mul]; omega
  have hsz : us.length + (i * sz + j) < (us.toArray ++ (valsList n sz vals).toArray).size := by simp; rw [hlen]; omega
  rw [e, Array.getElem?_append_left hsz, Array.getElem?_append_right (by simp)]
  simpa using h2

theorem append_rel (hC : CfgOk C P) (hk : RelW gl K s w) {t el tt : TypeId} (ht : P.underlying t = some (.slice el)) {x y v : V} {u u2 : Value} (hx : VRel K w x u) (hy : VRel K w y u2) {frz : Bool} {id : Nat} {eff : Eff}
    (hid : ¬ K.al id) (h : appendOp C frz s id el x y = some (v, eff)) : OpDone gl K s w id v eff ((Builtin.append_ #[t, t] tt #[u, u2]).run P w) := by
  unfold appendOp at h
  split at h
  · rename_i y0 ys hy0 hys
    obtain ⟨i, d, z, h1, h2, h3, h4, h5, h6, h7, h8, h9⟩ := (hC.ty el y0 hy0).ex
    obtain ⟨sz, vals, ad, cap, E⟩ := elems_rel hk hy hys
    split at h
    · cases h
    · rename_i hpos
      have hpos : 0 < y0.size := by omega
      split at h
      · -- nothing there yet
        cases hx with
        | nils ax =>
          split at h
          · rename_i hemp
            simp at h
            obtain ⟨rfl, rfl⟩ := h
            have : ys = [] := by simpa using hemp
            subst this
            refine ⟨K, w, .slice ax 0 0, ?_, Stp.refl _ _, hk, .nils _, fun j h => .inl h⟩
            rw [E.val]
            cases ax <;> cases ad <;> simp [Builtin.append_, r_under ht, sizeOf, r_ty h1, Builtin.lenOf, Builtin.firstCells, loadCells, loadCellsFrom, storeCells]
          · rename_i hemp
            split at h
            · rename_i hroom
              obtain ⟨r1, r2⟩ := roomOk_spec hroom
              have hne : ys ≠ [] := by simpa using hemp
              have hn : 0 < ys.length := List.length_pos_iff.2 hne
              obtain ⟨b, o, rfl, hcell⟩ := E.base hne
              have hall : ∀ x ∈ ys, x.cells.length = y0.size := by
                have h' := h
                unfold sliceOfRows at h'
                split at h'
                · rename_i hall
                  intro x hx
                  have := List.all_eq_true.1 hall x hx
                  simp at this
                  exact this.2
                · cases h'
              have hsz : sz = y0.size := by rw [← E.szs _ (List.getElem_mem hn)]; exact hall _ (List.getElem_mem hn)
              subst hsz
              obtain ⟨hn1, hn2⟩ := E.news
              have hnews := hn1 b o rfl (fun _ => hcell)
              have hfl : ∀ x ∈ ys, x.flat = true → x.noIds = true := by
                intro x hx hf
                obtain ⟨i', hi'⟩ := List.getElem?_of_mem hx
                refine noIds_of_cells (K := K) (w := w) hf fun j c hc => ?_
                exact ⟨_, (E.rel i' x j c hi' hc).2⟩
              have hgo : ∀ (c0 : Nat), ∃ K', Stp K w K' (w.drew.alloc (.cells ((([] : List Value).toArray ++ (valsList ys.length y0.size vals).toArray ++ Builtin.zeroCells z.cells (grownCap w ys.length c0 el - ys.length))) el)) ∧
                  RelW gl K' (eff.on s) (w.drew.alloc (.cells ((([] : List Value).toArray ++ (valsList ys.length y0.size vals).toArray ++ Builtin.zeroCells z.cells (grownCap w ys.length c0 el - ys.length))) el)) ∧
                  VRel K' (w.drew.alloc (.cells ((([] : List Value).toArray ++ (valsList ys.length y0.size vals).toArray ++ Builtin.zeroCells z.cells (grownCap w ys.length c0 el - ys.length))) el)) v (.slice (some ⟨w.heap.size, 0, none⟩) ys.length (grownCap w ys.length c0 el)) ∧
                  (∀ j, K'.al j → K.al j ∨ (j = id ∧ ∃ o, eff = .set id o)) := by
                intro c0
                have hge := grownCap_ge w ys.length c0 el
                refine made hk h hpos hid E.rel hfl (newer_drew _ _) hge ?_ ?_
                · simp only [Array.size_append, List.size_toArray, List.length_nil, Nat.zero_add, valsList_len, size_zeroCells, h7, h2]
                  rw [← Nat.add_mul]
                  exact Nat.mul_le_mul_right _ (by omega)
                · intro i' j' hi' hj'
                  have := cells_append (n := ys.length) (sz := y0.size) (vals := vals) (us := []) (rest := Builtin.zeroCells z.cells (grownCap w ys.length c0 el - ys.length)) (k := 0) (by simp) hi' hj'
                  simpa using this
              have hlen : (valsList ys.length y0.size vals).length = ys.length * i.size := by rw [valsList_len, h2]
              rw [E.val]
              cases ax with
              | none =>
                obtain ⟨K', g1, g2, g3, g4⟩ := hgo 0
                refine ⟨K', _, _, ?_, g1, g2, g3, g4⟩
                have := run_append_nil (P := P) w t tt el i z ht h1 h6 ⟨b, o, none⟩ ys.length cap _ hlen hnews hn (by omega) (by rw [h3]; omega)
                simpa using this
              | some bx =>
                obtain ⟨K', g1, g2, g3, g4⟩ := hgo 0
                refine ⟨K', _, _, ?_, g1, g2, g3, g4⟩
                have := run_append_grow (P := P) w t tt el i z ht h1 h6 bx 0 0 [] (by simp) (by simp) ⟨b, o, none⟩ ys.length cap _ hlen hnews (by omega) (by omega) (growslice_fits (by omega) (by rw [h3, Nat.zero_add]; omega))
                simpa using this
            · cases h
      · rename_i rid ver rsz off len
        split at h
        · cases h
        · split at h
          · rename_i ob hob
            split at h
            · rename_i hcond
              obtain ⟨hver, hosz, rfl, hle, hroom, hall'⟩ := hcond
              obtain ⟨r1, r2⟩ := roomOk_spec hroom
              simp at h
              obtain ⟨rfl, rfl⟩ := h
              obtain ⟨T, hT, hr⟩ := hk.obj rid ob hob
              obtain ⟨c, et, hh, hcs, hrow⟩ := hr.row
              have hall : ∀ x ∈ ys, x.cells.length = y0.size := by
                intro x hx
                have := List.all_eq_true.1 hall' x hx
                simp at this
                exact this.2
              have hsz : ys ≠ [] → sz = y0.size := by
                intro hne
                have hn : 0 < ys.length := List.length_pos_iff.2 hne
                rw [← E.szs _ (List.getElem_mem hn)]; exact hall _ (List.getElem_mem hn)
              have hvl : valsList ys.length sz vals = valsList ys.length y0.size vals := by
                by_cases hne : ys = []
                · subst hne; simp [valsList]
                · rw [hsz hne]
              cases hx with
              | refd _ _ _ _ _ ax capx hal hd hl h0 => exact absurd (hd T hT) (by rw [hr.ver, hver]; omega)
              | ref _ _ _ _ _ T' ax capx hT' hal hv hz hl hc ha =>
                rw [hT] at hT'
                obtain rfl := Option.some.inj hT'
                have hTsz : T.sz = y0.size := hz
                obtain ⟨hn1, hn2⟩ := E.news
                rw [hvl] at hn1 hn2
                -- the rows that are there
                have hold : RowsAt K w ((ob.rows.drop off).take len) y0.size (T.base + off * y0.size) c := by
                  have hget : ∀ i r, ((ob.rows.drop off).take len)[i]? = some r → ob.rows[off + i]? = some r := by
                    intro i r hir
                    rw [List.getElem?_take] at hir
                    split at hir
                    · rwa [List.getElem?_drop] at hir
                    · cases hir
                  refine ⟨fun i r hir => by rw [← hosz]; exact (hrow _ r (hget i r hir)).1, fun i r j x hir hx => ?_⟩
                  obtain ⟨g1, u, g2, g3⟩ := (hrow _ r (hget i r hir)).2 j x hx
                  refine ⟨g1, u, ?_, g3⟩
                  rw [← g2]
                  congr 1
                  rw [hosz, Nat.add_mul]; omega
                have holdlen : ((ob.rows.drop off).take len).length = len := by simp; omega
                have hlenN : (valsList ys.length y0.size vals).length = ys.length * i.size := by rw [valsList_len, h2]
                -- rows one behind the other
                have hjoin : ∀ (c' : Array Value) (base : Nat), RowsAt K w ((ob.rows.drop off).take len) y0.size base c' → (∀ i j, i < ys.length → j < y0.size → c'[base + (len + i) * y0.size + j]? = some (vals i j)) →
                    RowsAt K w ((ob.rows.drop off).take len ++ ys.map V.cells) y0.size base c' := by
                  intro c' base hA hB
                  have hB' : RowsAt K w (ys.map V.cells) y0.size (base + len * y0.size) c' := rowsAt_vals hall E.rel (fun i j hi hj => by rw [← hB i j hi hj]; congr 1; rw [Nat.add_mul]; omega)
                  refine ⟨fun i r hir => ?_, fun i r j x hir hx => ?_⟩
                  · by_cases hi : i < len
                    · rw [List.getElem?_append_left (by omega)] at hir; exact hA.len i r hir
                    · rw [List.getElem?_append_right (by omega)] at hir; exact hB'.len _ r hir
                  · by_cases hi : i < len
                    · rw [List.getElem?_append_left (by omega)] at hir; exact hA.cell i r j x hir hx
                    · rw [List.getElem?_append_right (by omega), holdlen] at hir
                      obtain ⟨g1, u, g2, g3⟩ := hB'.cell _ r j x hir hx
                      refine ⟨g1, u, ?_, g3⟩
                      rw [← g2]
                      congr 1
                      have : i = len + (i - len) := by omega
                      rw [this, Nat.add_mul, Nat.add_sub_cancel_left]; omega
                by_cases hroomy : len + ys.length ≤ capx
                · -- within the capacity
                  have hT'cap : off + capx ≤ T.cap := hc
                  by_cases hcap0 : capx = 0
                  · obtain rfl : len = 0 := by omega
                    have hy0' : ys = [] := List.eq_nil_of_length_eq_zero (by omega)
                    subst hy0'
                    subst hcap0
                    have hrun : (Builtin.append_ #[t, t] tt #[.slice ax 0 0, u2]).run P w = .ok (.slice ax 0 0) w := by
                      rw [E.val]
                      cases ax <;> cases ad <;> simp [Builtin.append_, r_under ht, sizeOf, r_ty h1, Builtin.lenOf, Builtin.firstCells, loadCells, loadCellsFrom, storeCells]
                    have hwo := write_obj hk (T' := ⟨T.blk, T.base + off * T.sz, T.sz, T.cap - off, T.ver + 1⟩) (o' := { ob with ver := ver + 1, rows := (ob.rows.drop off).take 0 ++ ([] : List V).map V.cells }) hT hob rfl (.inr (Nat.lt_succ_self _)) (c' := c) hh hr.sz (by rw [hr.ver, hver]) (by rw [hosz]; exact hpos) (by simp) (by
                        show T.base + off * T.sz + (T.cap - off) * ob.sz ≤ c.size
                        rw [hr.sz, Nat.add_assoc, ← Nat.add_mul]
                        have : off + (T.cap - off) = T.cap := by omega
                        rw [this]; exact hcs) ⟨by simp, by simp⟩
                    rw [setRow_self w T.blk c et (0, 0) hh] at hwo
                    refine ⟨_, w, _, hrun, hwo.1, hwo.2, ?_, fun j h => ?_⟩
                    · exact .ref rid (ver + 1) _ 0 0 ⟨T.blk, T.base + off * T.sz, T.sz, T.cap - off, T.ver + 1⟩ _ 0 (by simp [Ctx.put]) (.inr rfl) (by show T.ver + 1 = ver + 1; rw [hr.ver, hver]) hTsz (by omega) (by simp) (.inr rfl)
                    · rcases h with h | h
                      · exact .inl h
                      · exact .inl (by rw [h]; exact hk.al rid T hT)
                  · rcases ha with rfl | ha
                    · have hfit : T.base + off * T.sz + len * i.size + (valsList ys.length y0.size vals).length ≤ c.size := by
                        rw [hlenN, h2, hTsz]
                        have e : T.base + off * y0.size + len * y0.size + ys.length * y0.size = T.base + (off + (len + ys.length)) * y0.size := by simp only [Nat.add_mul]; omega
                        rw [e]
                        have : (off + (len + ys.length)) * y0.size ≤ T.cap * y0.size := Nat.mul_le_mul_right _ (by omega)
                        rw [hosz] at hcs
                        omega
                      have hst := run_storeCells_at P T.blk (T.base + off * T.sz + len * i.size) et (valsList ys.length y0.size vals) 0 c w hh (by simpa using hfit) hn2
                      simp only [Nat.add_zero] at hst
                      have hfc : (Builtin.firstCells i.size ys.length u2).run P w = .ok (valsList ys.length y0.size vals).toArray w := by
                        rw [E.val]
                        by_cases hne : ys = []
                        · subst hne
                          cases ad <;> simp [Builtin.firstCells, valsList, loadCells, loadCellsFrom]
                        · obtain ⟨b, o, rfl, hcell⟩ := E.base hne
                          exact run_firstCells_some (P := P) w i.size ys.length ⟨b, o, none⟩ ys.length cap _ hlenN (hn1 b o rfl (fun _ => hcell))
                      have hlo : Builtin.lenOf u2 = pure ys.length := by rw [E.val]; rfl
                      have hrun : (Builtin.append_ #[t, t] tt #[.slice (some ⟨T.blk, T.base + off * T.sz, none⟩) len capx, u2]).run P w = .ok (.slice (some ⟨T.blk, T.base + off * T.sz, none⟩) (len + ys.length) capx) (w.setRow T.blk (c.toList.take (T.base + off * T.sz + len * i.size) ++ valsList ys.length y0.size vals ++ c.toList.drop (T.base + off * T.sz + len * i.size + (valsList ys.length y0.size vals).length)).toArray) := by
                        simp [Builtin.append_, r_under ht, sizeOf, r_ty h1, hlo, hroomy, hfc, addr_add, hst]
                      have hpre : (c.toList.take (T.base + off * T.sz + len * i.size)).length = T.base + off * T.sz + len * i.size := by simp; omega
                      have hwo := write_obj hk (T' := ⟨T.blk, T.base + off * T.sz, T.sz, T.cap - off, T.ver + 1⟩) (o' := { ob with ver := ver + 1, rows := (ob.rows.drop off).take len ++ ys.map V.cells }) hT hob rfl (.inr (Nat.lt_succ_self _))
                        (c' := (c.toList.take (T.base + off * T.sz + len * i.size) ++ valsList ys.length y0.size vals ++ c.toList.drop (T.base + off * T.sz + len * i.size + (valsList ys.length y0.size vals).length)).toArray) hh hr.sz (by rw [hr.ver, hver]) (by rw [hosz]; exact hpos) (by simp; omega) (by
                          show T.base + off * T.sz + (T.cap - off) * ob.sz ≤ _
                          have : (c.toList.take (T.base + off * T.sz + len * i.size) ++ valsList ys.length y0.size vals ++ c.toList.drop (T.base + off * T.sz + len * i.size + (valsList ys.length y0.size vals).length)).toArray.size = c.size := by
                            simp; omega
                          rw [this, hr.sz, Nat.add_assoc, ← Nat.add_mul]
                          have : off + (T.cap - off) = T.cap := by omega
                          rw [this]; exact hcs) (by
                          show RowsAt K w _ ob.sz (T.base + off * T.sz) _
                          have hpre' := hpre
                          rw [hTsz] at hpre'
                          rw [hosz, hTsz]
                          refine hjoin _ _ ⟨hold.len, fun i' r j x hir hx => ?_⟩ fun i' j' hi' hj' => ?_
                          · obtain ⟨g1, u, g2, g3⟩ := hold.cell i' r j x hir hx
                            refine ⟨g1, u, ?_, g3⟩
                            have hi' : i' < len := by
                              have := (List.getElem?_eq_some_iff.1 hir).1
                              omega
                            have hj' : j < y0.size := by
                              rw [← hold.len i' r hir]; exact (List.getElem?_eq_some_iff.1 hx).1
                            have hlt : T.base + off * y0.size + i' * y0.size + j < T.base + off * y0.size + len * i.size := by
                              have : (i' + 1) * y0.size ≤ len * y0.size := Nat.mul_le_mul_right _ hi'
                              rw [Nat.add_mul] at this
                              rw [h2]; omega
                            simp only [List.getElem?_toArray, List.append_assoc]
                            rw [List.getElem?_append_left (by rw [hpre']; exact hlt), List.getElem?_take, if_pos hlt]
                            simpa using g2
                          · have h0 : T.base + off * y0.size + len * i.size + (i' * y0.size + j') = T.base + off * y0.size + (len + i') * y0.size + j' := by
                              rw [h2, Nat.add_mul]; omega
                            have hin : i' * y0.size + j' < (valsList ys.length y0.size vals).length := by
                              rw [valsList_len]
                              have : (i' + 1) * y0.size ≤ ys.length * y0.size := Nat.mul_le_mul_right _ hi'
                              rw [Nat.add_mul] at this
                              omega
                            simp only [List.getElem?_toArray, List.append_assoc]
                            rw [← h0, List.getElem?_append_right (by rw [hpre']; omega), hpre', Nat.add_sub_cancel_left, List.getElem?_append_left hin]
                            exact valsList_get _ _ _ hi' hj')
                      refine ⟨_, _, _, hrun, hwo.1, hwo.2, ?_, fun j h => ?_⟩
                      · refine .ref rid (ver + 1) _ 0 (len + ys.length) ⟨T.blk, T.base + off * T.sz, T.sz, T.cap - off, T.ver + 1⟩ _ capx (by simp [Ctx.put]) (.inr rfl) (by show T.ver + 1 = ver + 1; rw [hr.ver, hver]) hTsz hroomy (by simp; omega) (.inl (by simp))
                      · rcases h with h | h
                        · exact .inl h
                        · exact .inl (by rw [h]; exact hk.al rid T hT)
                    · omega
                · -- a new block
                  have hg : capx < len + ys.length := by omega
                  have hne : ys ≠ [] := fun h0 => by rw [h0] at hg; simp at hg; omega
                  have hn : 0 < ys.length := List.length_pos_iff.2 hne
                  obtain ⟨b, o, rfl, hcell⟩ := E.base hne
                  have hnews := hn1 b o rfl (fun _ => hcell)
                  have hin : T.base + off * y0.size + len * y0.size ≤ c.size := by
                    have h0 : (off + len) * y0.size ≤ T.cap * y0.size := Nat.mul_le_mul_right _ (by omega)
                    rw [hosz] at hcs
                    rw [Nat.add_mul] at h0
                    omega
                  generalize hold0 : (List.range (len * y0.size)).map (fun k => (c[T.base + off * y0.size + k]?).getD Go.undef) = olds
                  have holen : olds.length = len * y0.size := by rw [← hold0]; simp
                  have hoget : ∀ k v, olds[k]? = some v → c[T.base + off * y0.size + k]? = some v := by
                    intro k v hv
                    rw [← hold0, List.getElem?_map] at hv
                    have hk' : k < len * y0.size := by
                      rcases Nat.lt_or_ge k (len * y0.size) with h0 | h0
                      · exact h0
                      · simp [List.getElem?_eq_none, h0] at hv
                    simp only [List.getElem?_range hk', Option.map_some, Option.some.injEq] at hv
                    rw [Array.getElem?_eq_getElem (by omega)] at hv ⊢
                    simpa using hv
                  have hoget2 : ∀ k v, k < len * y0.size → c[T.base + off * y0.size + k]? = some v → olds[k]? = some v := by
                    intro k v hk' hv
                    have := hoget k _ (List.getElem?_eq_getElem (by rw [holen]; exact hk'))
                    rw [List.getElem?_eq_getElem (by rw [holen]; exact hk')]
                    rw [this] at hv
                    exact hv
                  have hge := grownCap_ge w (len + ys.length) capx el
                  have hnb : ∀ (c' : Array Value), c' = olds.toArray ++ (valsList ys.length y0.size vals).toArray ++ Builtin.zeroCells z.cells (grownCap w (len + ys.length) capx el - (len + ys.length)) →
                      ∃ K', Stp K w K' (w.drew.alloc (.cells c' el)) ∧ RelW gl K' (s.set rid { ob with ver := ver + 1, rows := (ob.rows.drop off).take len ++ ys.map V.cells }) (w.drew.alloc (.cells c' el)) ∧
                        VRel K' (w.drew.alloc (.cells c' el)) (.ref rid (ver + 1) y0.size 0 (len + ys.length)) (.slice (some ⟨w.heap.size, 0, none⟩) (len + ys.length) (grownCap w (len + ys.length) capx el)) ∧ ∀ j, K'.al j → K.al j ∨ j = rid := by
                    intro c' hc'
                    have hsize : grownCap w (len + ys.length) capx el * y0.size ≤ c'.size := by
                      rw [hc']
                      simp only [Array.size_append, List.size_toArray, holen, valsList_len, size_zeroCells, h7, h2]
                      rw [← Nat.add_mul, ← Nat.add_mul]
                      exact Nat.mul_le_mul_right _ (by omega)
                    have hno := new_obj hk (newer_drew (w := w) c' el) (id := rid) (T := ⟨w.heap.size, 0, y0.size, grownCap w (len + ys.length) capx el, ver + 1⟩) (o := { ob with ver := ver + 1, rows := (ob.rows.drop off).take len ++ ys.map V.cells }) rfl
                      (.inr ⟨T, hT, by show T.ver < ver + 1; rw [hr.ver, hver]; omega⟩) hosz.symm rfl (by rw [hosz]; exact hpos) (by simp; omega) (by
                        show 0 + grownCap w (len + ys.length) capx el * ob.sz ≤ c'.size
                        rw [hosz]; omega) (by
                        show RowsAt K w _ ob.sz 0 c'
                        rw [hosz]
                        refine hjoin c' 0 ⟨hold.len, fun i' r j x hir hx => ?_⟩ fun i' j' hi' hj' => ?_
                        · obtain ⟨g1, u, g2, g3⟩ := hold.cell i' r j x hir hx
                          refine ⟨g1, u, ?_, g3⟩
                          have hi' : i' < len := by
                            have := (List.getElem?_eq_some_iff.1 hir).1
                            omega
                          have hj' : j < y0.size := by
                            rw [← hold.len i' r hir]; exact (List.getElem?_eq_some_iff.1 hx).1
                          have hlt : i' * y0.size + j < len * y0.size := by
                            have : (i' + 1) * y0.size ≤ len * y0.size := Nat.mul_le_mul_right _ hi'
                            rw [Nat.add_mul] at this
                            omega
                          have h0 := hoget2 (i' * y0.size + j) u hlt (by rw [← g2]; congr 1; omega)
                          rw [hc', Nat.zero_add, Array.getElem?_append_left (by simp; omega), Array.getElem?_append_left (by simp; omega)]
                          simpa using h0
                        · rw [hc', Nat.zero_add]
                          exact cells_append holen hi' hj')
                    refine ⟨_, hno.1, hno.2, ?_, fun j h => h⟩
                    exact .ref rid (ver + 1) _ 0 (len + ys.length) ⟨w.heap.size, 0, y0.size, grownCap w (len + ys.length) capx el, ver + 1⟩ _ _ (by simp [Ctx.put]) (.inr rfl) rfl rfl hge (by simp) (.inl (by simp))
                  have hfin : ∀ j, K.al j ∨ j = rid → K.al j ∨ (j = id ∧ ∃ o', Eff.set rid { ob with ver := ver + 1, rows := (ob.rows.drop off).take len ++ ys.map V.cells } = .set id o') := fun j h => by
                    rcases h with h | h
                    · exact .inl h
                    · exact .inl (by rw [h]; exact hk.al rid T hT)
                  rw [E.val]
                  rcases ha with rfl | rfl
                  · obtain ⟨K', g1, g2, g3, g4⟩ := hnb _ rfl
                    refine ⟨K', _, _, ?_, g1, g2, g3, fun j h => hfin j (g4 j h)⟩
                    exact run_append_grow (P := P) w t tt el i z ht h1 h6 ⟨T.blk, T.base + off * T.sz, none⟩ len capx olds (by rw [holen, h2]) (fun k v hv => by
                      rw [addr_add, cell_of_row w T.blk _ c et _ hh, hTsz]; exact hoget k v hv) ⟨b, o, none⟩ ys.length cap _ hlenN hnews hg (by omega) (growslice_fits hg (by rw [h3]; omega))
                  · obtain rfl : len = 0 := by omega
                    have ho0 : olds = [] := List.eq_nil_of_length_eq_zero (by rw [holen]; simp)
                    subst ho0
                    obtain ⟨K', g1, g2, g3, g4⟩ := hnb _ rfl
                    cases ax with
                    | none =>
                      refine ⟨K', _, _, ?_, g1, g2, g3, fun j h => hfin j (g4 j h)⟩
                      have := run_append_nil (P := P) w t tt el i z ht h1 h6 ⟨b, o, none⟩ ys.length cap _ hlenN hnews hn (by omega) (by rw [Nat.zero_add] at r2; rw [h3]; omega)
                      simpa using this
                    | some bx =>
                      refine ⟨K', _, _, ?_, g1, g2, g3, fun j h => hfin j (g4 j h)⟩
                      exact run_append_grow (P := P) w t tt el i z ht h1 h6 bx 0 0 [] (by simp) (by simp) ⟨b, o, none⟩ ys.length cap _ hlenN hnews hg (by omega) (growslice_fits hg (by rw [h3]; omega))
            · cases h
          · cases h
      · cases h
  · cases h

theorem TyOk.z {t : TypeId} {y : Ty} (h : TyOk P t y) : ∃ i z, P.info? t = some i ∧ i.size = y.size ∧ i.bytes = y.bytes ∧ i.zero = some z ∧ z.cells.size = y.size ∧ ZRel y.zero z.cells.toList := by
  obtain ⟨i, d, z, h1, h2, h3, h4, h5, h6, h7, h8, h9⟩ := h.ex
  exact ⟨i, z, h1, h2, h3, h6, by rw [h7, h2], h8⟩

/-- A variable of one row of cells. -/
theorem var_rel (hk : RelW gl K s w) {cs : List V} {us : Array Value} {et : TypeId} {id : Nat} (hid : ¬ K.al id) (hc : CRel K w cs us.toList) (hpos : 0 < cs.length) :
    OpDone gl K s w id (.ptr id 0 0 0) (.set id ⟨cs.length, 0, true, [cs]⟩) (.ok (.pointer (some ⟨w.heap.size, 0, none⟩)) (w.alloc (.cells us et))) := by
  have hlen : cs.length = us.size := by simpa using hc.1
  have hno := new_obj hk (newer_alloc (w := w) us et) (id := id) (T := ⟨w.heap.size, 0, cs.length, 1, 0⟩) (o := ⟨cs.length, 0, true, [cs]⟩) rfl (.inl hid) rfl rfl hpos (by simp) (by simp [hlen])
    ⟨fun i r h => by
      cases i with
      | zero => simp at h; rw [← h]
      | succ i => simp at h, fun i r j x h hx => by
      cases i with
      | zero =>
        simp at h
        subst h
        have hj : j < cs.length := (List.getElem?_eq_some_iff.1 hx).1
        refine ⟨hc.2.1 x (List.mem_of_getElem? hx), us[j], by simp, ?_⟩
        exact hc.2.2 j x _ hx (by simp)
      | succ i => simp at h⟩
  refine ⟨_, _, _, rfl, hno.1, hno.2, ?_, fun j h => ?_⟩
  · have := VRel.ptr (K := K.put id ⟨w.heap.size, 0, cs.length, 1, 0⟩) (w := w.alloc (.cells us et)) id 0 0 0 ⟨w.heap.size, 0, cs.length, 1, 0⟩ (by simp [Ctx.put]) (.inr rfl) rfl
    simpa using this
  · rcases h with h | h
    · exact .inl h
    · exact .inr ⟨h, _, rfl⟩

theorem alloc_rel (hC : CfgOk C P) (hk : RelW gl K s w) {t : TypeId} {y : Ty} (hy : C.ty t = some y) (h0 : y.size ≠ 0) {id : Nat} (hid : ¬ K.al id) :
    OpDone gl K s w id (.ptr id 0 0 0) (.set id ⟨y.size, 0, true, [y.zero]⟩) ((Instr.alloc t true (.tuple #[])).run P w) := by
  obtain ⟨i, z, h1, h2, h3, h4, h5, h6⟩ := (hC.ty t y hy).z
  have hz := h6 K w
  have hl : y.zero.length = y.size := by rw [hz.1]; simpa using h5
  have := var_rel hk (et := t) hid hz (by omega)
  rw [hl] at this
  have e : (Instr.alloc t true (.tuple #[])).run P w = .ok (.pointer (some ⟨w.heap.size, 0, none⟩)) (w.alloc (.cells z.cells t)) := by
    simp [Instr.alloc, r_zero h1 h4, newVar, newRow]
  rw [e]
  exact this

theorem box_rel (hC : CfgOk C P) (hk : RelW gl K s w) {t : TypeId} {x : V} {u : Value} (hx : VRel K w x u) (hs : x.storable = true) (hpos : x.cells.length ≠ 0) {id : Nat} (hid : ¬ K.al id) :
    OpDone gl K s w id (.ptr id 0 0 0) (.set id ⟨x.cells.length, 0, true, [x.cells]⟩) ((Instr.box t u).run P w) := by
  have := var_rel hk (et := t) hid (hx.cells hs) (by omega)
  have e : (Instr.box t u).run P w = .ok (.pointer (some ⟨w.heap.size, 0, none⟩)) (w.alloc (.cells u.cells t)) := by
    simp [Instr.box, newVar, newRow]
  rw [e]
  exact this

theorem store_rel (hC : CfgOk C P) (hk : RelW gl K s w) {t : TypeId} {y : Ty} (hy : C.ty t = some y) {i ver idx off : Nat} {x : V} {up ux : Value} (hp : VRel K w (.ptr i ver idx off) up) (hx : VRel K w x ux)
    (hs : x.storable = true) (hl : x.cells.length = y.size) {o : Obj} (ho : s.get i = some o) (hv : o.ver = ver) {r : List V} (hr : o.rows[idx]? = some r) (hle : off + x.cells.length ≤ r.length) :
    ∃ w', (Instr.storeAt t up ux).run P w = .ok () w' ∧ Stp K w K w' ∧ RelW gl K (s.set i { o with rows := o.rows.set idx (splice r off x.cells) }) w' := by
  obtain ⟨T, hT, hor⟩ := hk.obj i o ho
  obtain ⟨c, et, hh, hcs, hrow⟩ := hor.row
  have hxc := hx.cells hs
  have hlu : x.cells.length = ux.cells.size := by simpa using hxc.1
  cases hp with
  | ptrd _ _ _ _ a hal hd => exact absurd (hd T hT) (by rw [hor.ver, hv]; omega)
  | ptr _ _ _ _ T' hT' hal hv' =>
    rw [hT] at hT'
    obtain rfl := Option.some.inj hT'
    have hrl := (hrow idx r hr).1
    have hidx : idx < o.rows.length := (List.getElem?_eq_some_iff.1 hr).1
    have hcap := hor.cap
    have hin : T.base + idx * o.sz + o.sz ≤ c.size := by
      have h0 : (idx + 1) * o.sz ≤ T.cap * o.sz := Nat.mul_le_mul_right _ (by omega)
      rw [Nat.add_mul] at h0
      omega
    have hst := run_storeCells_at P T.blk (T.base + idx * T.sz + off) et ux.cells.toList 0 c w hh (by rw [hor.sz]; simp; omega) hxc.one
    simp only [Nat.add_zero] at hst
    have hrun : (Instr.storeAt t (.pointer (some ⟨T.blk, T.base + idx * T.sz + off, none⟩)) ux).run P w = .ok () (w.setRow T.blk (c.toList.take (T.base + idx * T.sz + off) ++ ux.cells.toList ++ c.toList.drop (T.base + idx * T.sz + off + ux.cells.toList.length)).toArray) := by
      have e : ux.cells.size = y.size := by omega
      simp only [Instr.storeAt, Instr.sureAddr, Sem.run_bind, Sem.run_pure, Result.andThen_ok, storeVar, (hC.ty t y hy).run_size, ne_eq, e, not_true_eq_false, if_false]
      exact hst
    have hpre : (c.toList.take (T.base + idx * T.sz + off)).length = T.base + idx * T.sz + off := by rw [hor.sz]; simp; omega
    have hsz' : (c.toList.take (T.base + idx * T.sz + off) ++ ux.cells.toList ++ c.toList.drop (T.base + idx * T.sz + off + ux.cells.toList.length)).toArray.size = c.size := by
      have := hor.sz
      simp only [List.size_toArray, List.length_append, hpre, List.length_drop, Array.length_toList]
      rw [this]; omega
    have hrows : RowsAt K w (o.rows.set idx (splice r off x.cells)) o.sz T.base (c.toList.take (T.base + idx * T.sz + off) ++ ux.cells.toList ++ c.toList.drop (T.base + idx * T.sz + off + ux.cells.toList.length)).toArray :=
      ⟨fun i' r' h => by
        rw [List.getElem?_set] at h
        split at h
        · simp at h; rw [← h]; simp [splice]; omega
        · exact (hrow i' r' h).1, fun i' r' j x' h hx' => by
        have hold : ∀ (u : Value) (k : Nat), c[k]? = some u → (k < T.base + idx * T.sz + off ∨ T.base + idx * T.sz + off + ux.cells.toList.length ≤ k) →
            (c.toList.take (T.base + idx * T.sz + off) ++ ux.cells.toList ++ c.toList.drop (T.base + idx * T.sz + off + ux.cells.toList.length)).toArray[k]? = some u := by
          intro u k hk hor'
          simp only [List.getElem?_toArray, List.append_assoc]
          rcases hor' with h1 | h1
          · rw [List.getElem?_append_left (by rw [hpre]; exact h1), List.getElem?_take, if_pos h1]; simpa using hk
          · rw [List.getElem?_append_right (by rw [hpre]; omega), hpre, List.getElem?_append_right (by omega), List.getElem?_drop]
            have e : T.base + idx * T.sz + off + ux.cells.toList.length + (k - (T.base + idx * T.sz + off) - ux.cells.toList.length) = k := by omega
            rw [e]; simpa using hk
        rw [List.getElem?_set] at h
        split at h
        · rename_i hii
          subst hii
          · simp at h
            subst h
            unfold splice at hx'
            rw [List.append_assoc] at hx'
            by_cases h1 : j < off
            · rw [List.getElem?_append_left (by simp; omega), List.getElem?_take, if_pos h1] at hx'
              obtain ⟨g1, u, g2, g3⟩ := (hrow idx r hr).2 j x' hx'
              exact ⟨g1, u, hold u _ g2 (.inl (by rw [hor.sz]; omega)), g3⟩
            · rw [List.getElem?_append_right (by simp; omega)] at hx'
              have e1 : (r.take off).length = off := by simp; omega
              rw [e1] at hx'
              by_cases h2 : j - off < x.cells.length
              · rw [List.getElem?_append_left h2] at hx'
                refine ⟨hxc.2.1 _ (List.mem_of_getElem? hx'), ux.cells[j - off]'(by omega), ?_, hxc.2.2 _ _ _ hx' (by simp)⟩
                simp only [List.getElem?_toArray, List.append_assoc]
                rw [List.getElem?_append_right (by rw [hpre, hor.sz]; omega), hpre]
                have e : T.base + idx * o.sz + j - (T.base + idx * T.sz + off) = j - off := by rw [hor.sz]; omega
                rw [e, List.getElem?_append_left (by simp; omega)]
                simp
              · rw [List.getElem?_append_right (by omega), List.getElem?_drop] at hx'
                have e2 : off + x.cells.length + (j - off - x.cells.length) = j := by omega
                rw [e2] at hx'
                obtain ⟨g1, u, g2, g3⟩ := (hrow idx r hr).2 j x' hx'
                exact ⟨g1, u, hold u _ g2 (.inr (by rw [hor.sz, Array.length_toList]; omega)), g3⟩
        · rename_i hii
          obtain ⟨g0, g⟩ := hrow i' r' h
          obtain ⟨g1, u, g2, g3⟩ := g j x' hx'
          have hj : j < o.sz := by rw [← g0]; exact (List.getElem?_eq_some_iff.1 hx').1
          refine ⟨g1, u, hold u _ g2 ?_, g3⟩
          rw [hor.sz]
          rcases Nat.lt_or_gt_of_ne hii with h1 | h1
          · right
            have : (idx + 1) * o.sz ≤ i' * o.sz := Nat.mul_le_mul_right _ h1
            rw [Nat.add_mul] at this
            rw [Array.length_toList]
            omega
          · left
            have : (i' + 1) * o.sz ≤ idx * o.sz := Nat.mul_le_mul_right _ h1
            rw [Nat.add_mul] at this
            omega⟩
    have hwo := write_obj hk (T' := T) (o' := { o with rows := o.rows.set idx (splice r off x.cells) }) hT ho rfl (.inl rfl) hh hor.sz hor.ver hor.pos (by simpa using hor.cap) (by rw [hsz']; exact hcs)
      (c' := (c.toList.take (T.base + idx * T.sz + off) ++ ux.cells.toList ++ c.toList.drop (T.base + idx * T.sz + off + ux.cells.toList.length)).toArray) hrows
    have hK : K.put i T = K := by
      unfold Ctx.put
      have e1 : (fun j => if j = i then some T else K.φ j) = K.φ := by
        funext j
        split
        · rename_i h; rw [h, hT]
        · rfl
      have e2 : (fun j => K.al j ∨ j = i) = K.al := by
        funext j
        apply propext
        exact ⟨fun h => h.elim id (fun h => by rw [h]; exact hal), .inl⟩
      rw [e1, e2]
    rw [hK] at hwo
    exact ⟨_, hrun, hwo.1, hwo.2⟩
end
end Go.Ilv
