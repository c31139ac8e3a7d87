/- The operations that make or change objects, one by one. -/
import Derived.Test.YtdofkchhdckomaaIlvWrite
set_option linter.unusedVariables false
set_option linter.unusedSimpArgs false
namespace Go.Ilv
open Go

def valsList (n sz : Nat) (vals : Nat → Nat → Value) : List Value := ((List.range n).map fun i => (List.range sz).map (vals i)).flatten
theorem valsList_len (n sz : Nat) (vals : Nat → Nat → Value) : (valsList n sz vals).length = n * sz := by
  unfold valsList
  rw [rows_len (sz := sz)]
  · simp
  · intro r hr
    obtain ⟨i, _, rfl⟩ := List.mem_map.1 hr
    simp
theorem valsList_get (n sz : Nat) (vals : Nat → Nat → Value) {i j : Nat} (hi : i < n) (hj : j < sz) : (valsList n sz vals)[i * sz + j]? = some (vals i j) := by
  unfold valsList
  rw [rows_get (sz := sz) _ _ i j hj]
  · simp [hi, hj]
  · intro r hr
    obtain ⟨i, _, rfl⟩ := List.mem_map.1 hr
    simp
theorem valsList_at {n sz : Nat} {vals : Nat → Nat → Value} {k : Nat} {v : Value} (h : (valsList n sz vals)[k]? = some v) : ∃ i j, i < n ∧ j < sz ∧ k = i * sz + j ∧ v = vals i j := by
  have hk : k < n * sz := by rw [← valsList_len n sz vals]; exact (List.getElem?_eq_some_iff.1 h).1
  have hsz : 0 < sz := by
    rcases Nat.eq_zero_or_pos sz with h0 | h0
    · rw [h0] at hk; simp at hk
    · exact h0
  have h1 : k / sz < n := Nat.div_lt_of_lt_mul (by rw [Nat.mul_comm]; exact hk)
  have h2 : k % sz < sz := Nat.mod_lt _ hsz
  have h3 : k = k / sz * sz + k % sz := by rw [Nat.mul_comm]; exact (Nat.div_add_mod k sz).symm
  refine ⟨k / sz, k % sz, h1, h2, h3, ?_⟩
  rw [h3, valsList_get n sz vals h1 h2] at h
  exact (Option.some.inj h).symm

section
variable {C : Cfg} {P : Program} {gl : Nat → Option (List V)} {K : Ctx} {s : St} {w w' : World} {e : Env} {a : Act}

/-- The elements of a slice, where they lie. -/
structure Elems (K : Ctx) (w : World) (ys : List V) (sz : Nat) (u : Value) (vals : Nat → Nat → Value) (ad : Option Addr) (cap : Nat) : Prop where
  val : u = .slice ad ys.length cap
  le : ys.length ≤ cap
  szs : ∀ y ∈ ys, y.cells.length = sz
  base : ys ≠ [] → ∃ b o, ad = some ⟨b, o, none⟩ ∧ ∀ (i : Nat) (x : V) (j : Nat) (c : V), ys[i]? = some x → x.cells[j]? = some c → w.cell? ⟨b, o + i * sz + j, none⟩ = some (vals i j)
  rel : ∀ (i : Nat) (x : V) (j : Nat) (c : V), ys[i]? = some x → x.cells[j]? = some c → c.leaf = true ∧ VRel K w c (vals i j)

theorem rowV_cells {r : List V} (h : ∀ x ∈ r, x.leaf = true) : (rowV r).cells = r := by
  match r, h with
  | [v], h => exact V.leaf_cells (h v (by simp))
  | [], _ => rfl
  | _ :: _ :: _, _ => rfl

theorem elems_rel (hk : RelW gl K s w) {y : V} {u : Value} (hy : VRel K w y u) {ys : List V} (h : elems s y = some ys) : ∃ sz vals ad cap, Elems K w ys sz u vals ad cap := by
  cases y <;> simp only [elems, reduceCtorEq] at h
  case lit xs =>
    simp at h; subst h
    cases hy with
    | lit0 ad cap => exact ⟨0, fun _ _ => Go.undef, ad, cap, rfl, by simp, by simp, by simp, by simp⟩
    | lit _ b o sz cap vals hb hc hx hcell hrel =>
      exact ⟨sz, vals, _, cap, rfl, hc, fun y hy => (hx y hy).1, fun _ => ⟨b, o, rfl, fun i x j c h1 h2 => (hcell i x j c h1 h2).2⟩, fun i x j c h1 h2 => ⟨(hcell i x j c h1 h2).1, hrel i x j c h1 h2⟩⟩
  case nils =>
    simp at h; subst h
    cases hy with
    | nils ad => exact ⟨0, fun _ _ => Go.undef, ad, 0, rfl, by simp, by simp, by simp, by simp⟩
  case ref id ver sz off len =>
    split at h
    · rename_i o ho
      split at h
      · rename_i hver
        split at h
        · rename_i hle
          simp only [Option.some.injEq] at h
          subst h
          obtain ⟨T, hT, hr⟩ := hk.obj id o ho
          obtain ⟨c, et, hh, hsz, hrow⟩ := hr.row
          cases hy with
          | refd _ _ _ _ _ ad cap hal hd hl h0 => exact absurd (hd T hT) (by rw [hr.ver, hver]; omega)
          | ref _ _ _ _ _ T' ad cap hT' hal hv hz hl hc ha =>
            rw [hT] at hT'
            obtain rfl := Option.some.inj hT'
            have hlen : (((o.rows.drop off).take len).map rowV).length = len := by simp; omega
            have hget : ∀ (i : Nat) (x : V), (((o.rows.drop off).take len).map rowV)[i]? = some x → ∃ r, o.rows[off + i]? = some r ∧ i < len ∧ x.cells = r := by
              intro i x hx
              rw [List.getElem?_map] at hx
              cases hq : ((o.rows.drop off).take len)[i]? with
              | none => simp [hq] at hx
              | some r =>
                simp only [hq, Option.map_some, Option.some.injEq] at hx
                rw [List.getElem?_take] at hq
                split at hq
                · rename_i hi
                  rw [List.getElem?_drop] at hq
                  refine ⟨r, hq, hi, ?_⟩
                  rw [← hx]
                  refine rowV_cells fun x' hx' => ?_
                  obtain ⟨j, hj⟩ := List.getElem?_of_mem hx'
                  exact ((hrow _ r hq).2 j x' hj).1
                · cases hq
            refine ⟨o.sz, fun i j => (c[T.base + (off + i) * o.sz + j]?).getD Go.undef, ad, cap, ?_, by rw [hlen]; exact hl, ?_, ?_, ?_⟩
            · rw [hlen]
            · intro y hy
              obtain ⟨i, hi⟩ := List.getElem?_of_mem hy
              obtain ⟨r, h1, _, h2⟩ := hget i y hi
              rw [h2]
              exact (hrow _ r h1).1
            · intro hne
              have hpos : 0 < len := by
                rcases Nat.eq_zero_or_pos len with h0 | h0
                · exact absurd (List.eq_nil_of_length_eq_zero (by rw [hlen, h0])) hne
                · exact h0
              rcases ha with rfl | rfl
              · refine ⟨_, _, rfl, fun i x j c' h1 h2 => ?_⟩
                obtain ⟨r, g1, g2, g3⟩ := hget i x h1
                rw [g3] at h2
                obtain ⟨_, u, g4, _⟩ := (hrow _ r g1).2 j c' h2
                rw [cell_of_row w T.blk _ c et _ hh]
                rw [hr.sz, g4, show T.base + off * o.sz + i * o.sz + j = T.base + (off + i) * o.sz + j by rw [Nat.add_mul]; omega, g4]
                rfl
              · omega
            · intro i x j c' h1 h2
              obtain ⟨r, g1, g2, g3⟩ := hget i x h1
              rw [g3] at h2
              obtain ⟨g5, u, g4, g6⟩ := (hrow _ r g1).2 j c' h2
              refine ⟨g5, ?_⟩
              rw [g4]
              exact g6
        · cases h
      · cases h
    · cases h

theorem Elems.news {ys : List V} {sz : Nat} {u : Value} {vals : Nat → Nat → Value} {ad : Option Addr} {cap : Nat} (h : Elems K w ys sz u vals ad cap) :
    (∀ b o, ad = some ⟨b, o, none⟩ → (ys ≠ [] → ∀ (i : Nat) (x : V) (j : Nat) (c : V), ys[i]? = some x → x.cells[j]? = some c → w.cell? ⟨b, o + i * sz + j, none⟩ = some (vals i j)) →
      ∀ k v, (valsList ys.length sz vals)[k]? = some v → w.cell? ((⟨b, o, none⟩ : Addr).add k) = some v) ∧ ∀ v ∈ valsList ys.length sz vals, v.oneCell' = true := by
  have hg : ∀ i j, i < ys.length → j < sz → ∃ x c, ys[i]? = some x ∧ x.cells[j]? = some c := by
    intro i j hi hj
    have := h.szs _ (List.getElem_mem hi)
    exact ⟨_, _, List.getElem?_eq_getElem hi, List.getElem?_eq_getElem (by rw [this]; exact hj)⟩
  refine ⟨fun b o _ hc k v hv => ?_, fun v hv => ?_⟩
  · obtain ⟨i, j, hi, hj, rfl, rfl⟩ := valsList_at hv
    obtain ⟨x, c, h1, h2⟩ := hg i j hi hj
    rw [addr_add, ← Nat.add_assoc]
    exact hc (List.ne_nil_of_length_pos (by omega)) i x j c h1 h2
  · obtain ⟨k, hk⟩ := List.getElem?_of_mem hv
    obtain ⟨i, j, hi, hj, rfl, rfl⟩ := valsList_at hk
    obtain ⟨x, c, h1, h2⟩ := hg i j hi hj
    obtain ⟨g1, g2⟩ := h.rel i x j c h1 h2
    exact (g2.one g1).1

/-- Values as rows in a list of cells. -/
theorem rowsAt_vals {ys : List V} {sz : Nat} {vals : Nat → Nat → Value} (hsz : ∀ y ∈ ys, y.cells.length = sz)
    (hrel : ∀ (i : Nat) (x : V) (j : Nat) (c : V), ys[i]? = some x → x.cells[j]? = some c → c.leaf = true ∧ VRel K w c (vals i j)) {base : Nat} {c : Array Value}
    (hc : ∀ i j, i < ys.length → j < sz → c[base + i * sz + j]? = some (vals i j)) : RowsAt K w (ys.map V.cells) sz base c where
  len := fun i r h => by
    rw [List.getElem?_map] at h
    cases hq : ys[i]? with
    | none => simp [hq] at h
    | some x => simp [hq] at h; rw [← h]; exact hsz x (List.mem_of_getElem? hq)
  cell := fun i r j x h h2 => by
    rw [List.getElem?_map] at h
    cases hq : ys[i]? with
    | none => simp [hq] at h
    | some y =>
      simp [hq] at h
      subst h
      obtain ⟨g1, g2⟩ := hrel i y j x hq h2
      have hi : i < ys.length := (List.getElem?_eq_some_iff.1 hq).1
      have hj : j < sz := by rw [← hsz y (List.mem_of_getElem? hq)]; exact (List.getElem?_eq_some_iff.1 h2).1
      exact ⟨g1, _, hc i j hi hj, g2⟩

/-- A slice that has just been made. -/
theorem made (hk : RelW gl K s w) {frz : Bool} {id sz : Nat} {xs : List V} {v : V} {eff : Eff} (h : sliceOfRows frz id sz xs = some (v, eff)) (hsz : 0 < sz) (hid : ¬ K.al id)
    {vals : Nat → Nat → Value} (hrel : ∀ (i : Nat) (x : V) (j : Nat) (c : V), xs[i]? = some x → x.cells[j]? = some c → c.leaf = true ∧ VRel K w c (vals i j))
    (hfl : ∀ x ∈ xs, x.flat = true → x.noIds = true)
    {c : Array Value} {et : TypeId} (hw : Newer w w' c et) {cap : Nat} (hcap : xs.length ≤ cap) (hcs : cap * sz ≤ c.size) (hc : ∀ i j, i < xs.length → j < sz → c[i * sz + j]? = some (vals i j)) :
    ∃ K', Stp K w K' w' ∧ RelW gl K' (eff.on s) w' ∧ VRel K' w' v (.slice (some ⟨w.heap.size, 0, none⟩) xs.length cap) ∧ (∀ j, K'.al j → K.al j ∨ (j = id ∧ ∃ o, eff = .set id o)) := by
  unfold sliceOfRows at h
  split at h
  · rename_i hall
    have hst : ∀ x ∈ xs, x.storable = true ∧ x.cells.length = sz := by
      intro x hx
      have := List.all_eq_true.1 hall x hx
      simpa using this
    split at h
    · split at h
      · rename_i hflat
        simp at h
        obtain ⟨rfl, rfl⟩ := h
        refine ⟨K, hw.stp, hk.same hw.stp (fun id T hT => hw.old _ (hk.blk_lt hT)), ?_, fun j h => .inl h⟩
        have hlen : (xs.map V.norm).length = xs.length := by simp
        have hget : ∀ (i : Nat) (x : V) (j : Nat) (c : V), (xs.map V.norm)[i]? = some x → x.cells[j]? = some c → ∃ x' c', xs[i]? = some x' ∧ x'.cells[j]? = some c' ∧ c = c'.norm1 := by
          intro i x j c' h1 h2
          rw [List.getElem?_map] at h1
          cases hq : xs[i]? with
          | none => simp [hq] at h1
          | some x' =>
            simp [hq] at h1
            subst h1
            rw [(norm_cells (hst x' (List.mem_of_getElem? hq)).1).1, List.getElem?_map] at h2
            cases hq2 : x'.cells[j]? with
            | none => simp [hq2] at h2
            | some c0 => simp [hq2] at h2; exact ⟨x', c0, rfl, hq2, h2.symm⟩
        have hlit := VRel.lit (K := K) (w := w') (xs.map V.norm) w.heap.size 0 sz cap vals ⟨by rw [hw.size]; omega, fun hx => by have := hk.Xlt _ hx; omega, fun j T hT => by have := hk.blk_lt hT; omega⟩ (by rw [hlen]; exact hcap) (fun x hx => by
            obtain ⟨x', h1, rfl⟩ := List.mem_map.1 hx
            obtain ⟨h2, h3⟩ := norm_cells (hst x' h1).1
            exact ⟨by rw [h2]; simpa using (hst x' h1).2, h3, norm_noIds (hfl x' h1 (List.all_eq_true.1 hflat x' h1))⟩) (fun i x j c' h1 h2 => by
            obtain ⟨x', c0, q1, q2, rfl⟩ := hget i x j c' h1 h2
            have hi : i < xs.length := (List.getElem?_eq_some_iff.1 q1).1
            have hj : j < sz := by rw [← (hst x' (List.mem_of_getElem? q1)).2]; exact (List.getElem?_eq_some_iff.1 q2).1
            refine ⟨norm1_leaf (hrel i x' j c0 q1 q2).1, ?_⟩
            rw [cell_of_row w' _ _ c et _ hw.new, Nat.zero_add]
            exact hc i j hi hj) (fun i x j c' h1 h2 => by
            obtain ⟨x', c0, q1, q2, rfl⟩ := hget i x j c' h1 h2
            exact norm1_rel ((hrel i x' j c0 q1 q2).2.mono hw.stp))
        rw [hlen] at hlit
        exact hlit
      · cases h
    · simp at h
      obtain ⟨rfl, rfl⟩ := h
      have hno := new_obj hk hw (id := id) (T := ⟨w.heap.size, 0, sz, cap, 0⟩) (o := ⟨sz, 0, false, xs.map V.cells⟩) rfl (.inl hid) rfl rfl hsz (by simpa using hcap) (by simpa using hcs)
        (rowsAt_vals (fun y hy => (hst y hy).2) hrel (fun i j hi hj => by simpa using hc i j hi hj))
      refine ⟨_, hno.1, hno.2, ?_, fun j h => ?_⟩
      · refine .ref id 0 sz 0 xs.length ⟨w.heap.size, 0, sz, cap, 0⟩ _ cap (by simp [Ctx.put]) (.inr rfl) rfl rfl hcap (by simp) (.inl (by simp))
      · rcases h with h | h
        · exact .inl h
        · exact .inr ⟨h, _, rfl⟩
  · cases h
end
end Go.Ilv
