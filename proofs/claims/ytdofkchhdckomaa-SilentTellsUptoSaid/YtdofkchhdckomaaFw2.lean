import Derived.Test.YtdofkchhdckomaaFw1
/- The operations that make or change objects. -/
set_option linter.unusedVariables false
set_option linter.unusedSimpArgs false
namespace Go.Ilv
open Go

theorem rows_get {α : Type} {sz : Nat} : ∀ (L : List (List α)), (∀ r ∈ L, r.length = sz) → ∀ (i j : Nat), j < sz → L.flatten[i * sz + j]? = (L[i]?).bind (·[j]?)
  | [], _, i, j, _ => by simp
  | r :: L, h, 0, j, hj => by
    have : r.length = sz := h r (by simp)
    simp only [Nat.zero_mul, Nat.zero_add, List.flatten_cons, List.getElem?_cons_zero, Option.bind_some]
    exact List.getElem?_append_left (by omega)
  | r :: L, h, i + 1, j, hj => by
    have h1 : r.length = sz := h r (by simp)
    have ih := rows_get L (fun x hx => h x (by simp [hx])) i j hj
    simp only [List.flatten_cons, List.getElem?_cons_succ]
    rw [List.getElem?_append_right (by rw [h1, Nat.add_mul]; omega), ← ih]
    congr 1
    rw [h1, Nat.add_mul]
    omega
theorem rows_len {α : Type} {sz : Nat} : ∀ (L : List (List α)), (∀ r ∈ L, r.length = sz) → L.flatten.length = L.length * sz
  | [], _ => by simp
  | r :: L, h => by
    have h1 : r.length = sz := h r (by simp)
    simp only [List.flatten_cons, List.length_append, rows_len L (fun x hx => h x (by simp [hx])), h1, List.length_cons, Nat.add_mul]
    omega

section
variable {C : Cfg} {P : Program} {gl : Nat → Option (List V)} {K : Ctx} {s : St} {w w' : World} {e : Env} {a : Act}

theorem VRel.flat_noIds {x : V} {u : Value} (h : VRel K w x u) (hf : x.flat = true) : x.noIds = true := by
  cases h with
  | agg cs us hl hfl hh =>
    rw [V.noIds]
    refine V.noIdsL_of fun c hc => ?_
    simp only [V.flat, List.all_eq_true] at hf
    have h1 := hf c hc
    obtain ⟨i, hi, rfl⟩ := List.getElem_of_mem hc
    have h2 := hh i _ _ (List.getElem?_eq_getElem hi) (List.getElem?_eq_getElem (by rw [← hl]; exact hi))
    generalize cs[i] = c at *
    generalize us[i] = u at *
    cases h2 <;> first
      | rfl
      | (simp at h1; done)
      | (rename_i hx _ _; rw [V.noIds]; exact V.noIdsL_of fun x hx' => (hx x hx').2.2)
      | (rename_i hn _ _; rw [V.noIds]; exact V.noIdsL_of fun x hx' => (hn x hx').2)
  | lit xs b o sz cap vals hb hc hx hcell hrel => rw [V.noIds]; exact V.noIdsL_of fun x hx' => (hx x hx').2.2
  | cptr cs b o vals hb hn hcell hrel => rw [V.noIds]; exact V.noIdsL_of fun x hx' => (hn x hx').2
  | _ => first | rfl | (simp [V.flat] at hf)

theorem norm1_rel {x : V} {u : Value} (h : VRel K w x u) : VRel K w x.norm1 u := by
  by_cases hn : x = .nils
  · subst hn
    cases h
    exact .lit0 _ _
  · have : x.norm1 = x := by cases x <;> first | rfl | exact absurd rfl hn
    rw [this]
    exact h
theorem norm1_leaf {x : V} (h : x.leaf = true) : x.norm1.leaf = true := by cases x <;> first | exact h | rfl
theorem norm1_noIds {x : V} (h : x.noIds = true) : x.norm1.noIds = true := by cases x <;> first | exact h | rfl
theorem norm_cells {x : V} (h : x.storable = true) : x.norm.cells = x.cells.map V.norm1 ∧ x.norm.storable = true := by
  rcases V.leaf_or h with hl | ⟨cs, rfl⟩
  · cases x <;> first | exact ⟨rfl, rfl⟩ | (simp [V.leaf] at hl)
  · exact ⟨rfl, rfl⟩
theorem norm_noIds {x : V} (h : x.noIds = true) : x.norm.noIds = true := by
  by_cases ha : ∃ cs, x = .agg cs
  · obtain ⟨cs, rfl⟩ := ha
    simp only [V.norm]
    rw [V.noIds] at h ⊢
    refine V.noIdsL_of fun c hc => ?_
    obtain ⟨c', h1, rfl⟩ := List.mem_map.1 hc
    exact norm1_noIds (V.noIdsL_mem h c' h1)
  · cases x <;> first | exact h | exact absurd ⟨_, rfl⟩ ha | rfl

/-- A value's rows, where they lie in a block. -/
structure RowsAt (K : Ctx) (w : World) (rows : List (List V)) (sz base : Nat) (c : Array Value) : Prop where
  len : ∀ (i : Nat) (r : List V), rows[i]? = some r → r.length = sz
  cell : ∀ (i : Nat) (r : List V) (j : Nat) (x : V), rows[i]? = some r → r[j]? = some x → x.leaf = true ∧ ∃ u, c[base + i * sz + j]? = some u ∧ VRel K w x u
theorem RowsAt.mono {K' : Ctx} (hs : Stp K w K' w') {rows : List (List V)} {sz base : Nat} {c : Array Value} (h : RowsAt K w rows sz base c) : RowsAt K' w' rows sz base c :=
  ⟨h.len, fun i r j x h1 h2 => let ⟨g1, u, g2, g3⟩ := h.cell i r j x h1 h2; ⟨g1, u, g2, g3.mono hs⟩⟩

/-- The world has a new block. -/
structure Newer (w w' : World) (c : Array Value) (et : TypeId) : Prop where
  heap : w'.heap = w.heap.push (.cells c et (0, 0))
  os : w'.os = w.os
  tape : w'.tape = w.tape
  output : w'.output = w.output
theorem Newer.new {c : Array Value} {et : TypeId} (h : Newer w w' c et) : w'.heap[w.heap.size]? = some (.cells c et (0, 0)) := by rw [h.heap]; simp
theorem Newer.old {c : Array Value} {et : TypeId} (h : Newer w w' c et) (b : Nat) (hb : b < w.heap.size) : w'.heap[b]? = w.heap[b]? := by
  rw [h.heap, Array.getElem?_push, if_neg (by omega)]
theorem Newer.size {c : Array Value} {et : TypeId} (h : Newer w w' c et) : w'.heap.size = w.heap.size + 1 := by rw [h.heap]; simp
theorem Newer.stp {c : Array Value} {et : TypeId} (h : Newer w w' c et) : Stp K w K w' :=
  ⟨rfl, fun _ h => h, fun _ _ T' h => ⟨T', h, .inl rfl⟩, by rw [h.size]; omega, h.os, h.tape, h.output, fun b hb hn => ⟨h.old b hb, hn⟩⟩
theorem newer_alloc (c : Array Value) (et : TypeId) : Newer w (w.alloc (.cells c et)) c et := ⟨rfl, rfl, rfl, rfl⟩
theorem newer_drew (c : Array Value) (et : TypeId) : Newer w (w.drew.alloc (.cells c et)) c et := ⟨rfl, rfl, rfl, rfl⟩

theorem noIds_of_cells {x : V} (hf : x.flat = true) (h : ∀ (j : Nat) (c : V), x.cells[j]? = some c → ∃ u, VRel K w c u) : x.noIds = true := by
  cases x <;> first
    | rfl
    | (simp [V.flat] at hf; done)
    | (obtain ⟨u, hu⟩ := h 0 _ rfl; exact hu.flat_noIds hf)
    | skip
  rename_i cs
  rw [V.noIds]
  refine V.noIdsL_of fun c hc => ?_
  obtain ⟨j, hj⟩ := List.getElem?_of_mem hc
  obtain ⟨u, hu⟩ := h j c hj
  refine hu.flat_noIds ?_
  simp only [V.flat, List.all_eq_true] at hf
  have := hf c hc
  cases c <;> first | rfl | (simp at this)

/-- A store of the evaluator's behind a step that leaves its objects where they are. -/
theorem RelW.same (hk : RelW gl K s w) (hs : Stp K w K w') (hb : ∀ id T, K.φ id = some T → w'.heap[T.blk]? = w.heap[T.blk]?) : RelW gl K s w' where
  obj := fun id o ho => by
    obtain ⟨T, hT, hr⟩ := hk.obj id o ho
    obtain ⟨c, et, h1, h2, h3⟩ := hr.row
    exact ⟨T, hT, hr.sz, hr.ver, hr.pos, hr.cap, c, et, by rw [hb id T hT]; exact h1, h2, fun i r hir => ⟨(h3 i r hir).1, fun j x hx => let ⟨g1, u, g2, g3⟩ := (h3 i r hir).2 j x hx; ⟨g1, u, g2, g3.mono hs⟩⟩⟩
  dom := hk.dom
  al := hk.al
  inj := hk.inj
  X := hk.X
  Xlt := fun b hx => Nat.lt_of_lt_of_le (hk.Xlt b hx) hs.size
  glob := fun g cs h => (hk.glob g cs h).mono hs

/-- Object 'id' lies anew: in a block of its own that no other object lies in. -/
theorem RelW.put (hk : RelW gl K s w) {id : Nat} {T : Terr} {o : Obj} {K' : Ctx} (hφ : ∀ j, K'.φ j = if j = id then some T else K.φ j) (hal : ∀ j, K'.al j ↔ K.al j ∨ j = id) (hX : K'.X = K.X)
    (hs : Stp K w K' w') (hr : ORel K' w' o T) (hblk : ∀ j Tj, j ≠ id → K.φ j = some Tj → Tj.blk ≠ T.blk) (hTX : ¬ K.X T.blk) (hb : ∀ j Tj, j ≠ id → K.φ j = some Tj → w'.heap[Tj.blk]? = w.heap[Tj.blk]?) :
    RelW gl K' (s.set id o) w' where
  obj := fun j oj hoj => by
    by_cases hj : j = id
    · subst hj
      rw [St.get_set_self] at hoj
      obtain rfl := Option.some.inj hoj
      exact ⟨T, by rw [hφ, if_pos rfl], hr⟩
    · rw [St.get_set_ne _ _ hj] at hoj
      obtain ⟨Tj, hTj, hrj⟩ := hk.obj j oj hoj
      obtain ⟨c, et, h1, h2, h3⟩ := hrj.row
      exact ⟨Tj, by rw [hφ, if_neg hj]; exact hTj, hrj.sz, hrj.ver, hrj.pos, hrj.cap, c, et, by rw [hb j Tj hj hTj]; exact h1, h2, fun i r hir => ⟨(h3 i r hir).1, fun q x hx => let ⟨g1, u, g2, g3⟩ := (h3 i r hir).2 q x hx; ⟨g1, u, g2, g3.mono hs⟩⟩⟩
  dom := fun j Tj hTj => by
    by_cases hj : j = id
    · subst hj; exact ⟨o, St.get_set_self _ _ _⟩
    · rw [hφ, if_neg hj] at hTj
      rw [St.get_set_ne _ _ hj]
      exact hk.dom j Tj hTj
  al := fun j Tj hTj => by
    rw [hal]
    by_cases hj : j = id
    · exact .inr hj
    · rw [hφ, if_neg hj] at hTj
      exact .inl (hk.al j Tj hTj)
  inj := fun i j Ti Tj hi hj he => by
    rw [hφ] at hi hj
    by_cases h1 : i = id <;> by_cases h2 : j = id
    · rw [h1, h2]
    · rw [if_pos h1] at hi; rw [if_neg h2] at hj
      obtain rfl := Option.some.inj hi
      exact absurd he.symm (hblk j Tj h2 hj)
    · rw [if_neg h1] at hi; rw [if_pos h2] at hj
      obtain rfl := Option.some.inj hj
      exact absurd he (hblk i Ti h1 hi)
    · rw [if_neg h1] at hi; rw [if_neg h2] at hj
      exact hk.inj i j Ti Tj hi hj he
  X := fun j Tj hTj => by
    rw [hX]
    rw [hφ] at hTj
    by_cases hj : j = id
    · rw [if_pos hj] at hTj; obtain rfl := Option.some.inj hTj; exact hTX
    · rw [if_neg hj] at hTj; exact hk.X j Tj hTj
  Xlt := fun b hx => Nat.lt_of_lt_of_le (hk.Xlt b (by rwa [hX] at hx)) hs.size
  glob := fun g cs h => (hk.glob g cs h).mono hs

def Ctx.put (K : Ctx) (id : Nat) (T : Terr) : Ctx := { φ := fun j => if j = id then some T else K.φ j, al := fun j => K.al j ∨ j = id, X := K.X }

/-- An object in a new block: a new one, or one that was there and moves. -/
theorem new_obj (hk : RelW gl K s w) {c : Array Value} {et : TypeId} (hw : Newer w w' c et) {id : Nat} {T : Terr} {o : Obj} (hT : T.blk = w.heap.size)
    (hid : ¬ K.al id ∨ ∃ T0, K.φ id = some T0 ∧ T0.ver < T.ver)
    (h1 : T.sz = o.sz) (h2 : T.ver = o.ver) (h3 : 0 < o.sz) (h4 : o.rows.length ≤ T.cap) (h5 : T.base + T.cap * o.sz ≤ c.size) (h6 : RowsAt K w o.rows o.sz T.base c) :
    Stp K w (K.put id T) w' ∧ RelW gl (K.put id T) (s.set id o) w' := by
  have hst : Stp K w (K.put id T) w' := by
    refine ⟨rfl, fun j h => .inl h, fun j hj T' hT' => ?_, by rw [hw.size]; omega, hw.os, hw.tape, hw.output, fun b hb hn => ⟨hw.old b hb, fun j Tj hTj => ?_⟩⟩
    · simp only [Ctx.put] at hT'
      by_cases h : j = id
      · rw [if_pos h] at hT'
        obtain rfl := Option.some.inj hT'
        subst h
        rcases hid with hid | ⟨T0, hT0, hv⟩
        · exact absurd hj hid
        · exact ⟨T0, hT0, .inr hv⟩
      · rw [if_neg h] at hT'
        exact ⟨T', hT', .inl rfl⟩
    · simp only [Ctx.put] at hTj
      by_cases h : j = id
      · rw [if_pos h] at hTj
        obtain rfl := Option.some.inj hTj
        omega
      · rw [if_neg h] at hTj
        exact hn j Tj hTj
  refine ⟨hst, hk.put (T := T) (fun j => rfl) (fun j => Iff.rfl) rfl hst ?_ ?_ ?_ ?_⟩
  · have h7 := h6.mono hst
    refine ⟨h1, h2, h3, h4, c, et, by rw [hT]; exact hw.new, h5, fun i r hir => ⟨h7.len i r hir, fun j x hx => h7.cell i r j x hir hx⟩⟩
  · intro j Tj _ hTj
    have := hk.blk_lt hTj
    omega
  · intro hx
    have := hk.Xlt _ hx
    omega
  · intro j Tj _ hTj
    exact hw.old _ (hk.blk_lt hTj)

/-- An object whose block is written. -/
theorem write_obj (hk : RelW gl K s w) {id : Nat} {T T' : Terr} {o o' : Obj} (hT : K.φ id = some T) (ho : s.get id = some o) (hb : T'.blk = T.blk) (hv : T' = T ∨ T.ver < T'.ver) {c c' : Array Value} {et : TypeId}
    (hh : w.heap[T.blk]? = some (.cells c et (0, 0)))
    (h1 : T'.sz = o'.sz) (h2 : T'.ver = o'.ver) (h3 : 0 < o'.sz) (h4 : o'.rows.length ≤ T'.cap) (h5 : T'.base + T'.cap * o'.sz ≤ c'.size) (h6 : RowsAt K w o'.rows o'.sz T'.base c') :
    Stp K w (K.put id T') (w.setRow T.blk c') ∧ RelW gl (K.put id T') (s.set id o') (w.setRow T.blk c') := by
  have hst : Stp K w (K.put id T') (w.setRow T.blk c') := by
    refine ⟨rfl, fun j h => .inl h, fun j hj T2 hT2 => ?_, by simp, rfl, rfl, rfl, fun b hb' hn => ⟨setRow_other w _ b c' (fun e => hn id T hT e.symm), fun j Tj hTj => ?_⟩⟩
    · simp only [Ctx.put] at hT2
      by_cases h : j = id
      · rw [if_pos h] at hT2
        obtain rfl := Option.some.inj hT2
        subst h
        exact ⟨T, hT, hv⟩
      · rw [if_neg h] at hT2
        exact ⟨T2, hT2, .inl rfl⟩
    · simp only [Ctx.put] at hTj
      by_cases h : j = id
      · rw [if_pos h] at hTj
        obtain rfl := Option.some.inj hTj
        rw [hb]; exact hn id T hT
      · rw [if_neg h] at hTj
        exact hn j Tj hTj
  refine ⟨hst, hk.put (T := T') (fun j => rfl) (fun j => Iff.rfl) rfl hst ?_ ?_ ?_ ?_⟩
  · have h7 := h6.mono hst
    refine ⟨h1, h2, h3, h4, c', et, by rw [hb]; exact setRow_heap w _ c c' et _ hh, h5, fun i r hir => ⟨h7.len i r hir, fun j x hx => h7.cell i r j x hir hx⟩⟩
  · intro j Tj hj hTj
    rw [hb]
    exact fun e => hj (hk.inj j id Tj T hTj hT e)
  · rw [hb]; exact hk.X id T hT
  · intro j Tj hj hTj
    exact setRow_other w _ _ c' (fun e => hj (hk.inj j id Tj T hTj hT e))
end
end Go.Ilv

/- The operations that make or change objects, one by one. -/
set_option linter.unusedVariables false
set_option linter.unusedSimpArgs false
namespace Go.Ilv
open Go

def valsList (n sz : Nat) (vals : Nat → Nat → Value) : List Value := ((List.range n).map fun i => (List.range sz).map (vals i)).flatten
theorem valsList_len (n sz : Nat) (vals : Nat → Nat → Value) : (valsList n sz vals).length = n * sz := by
  unfold valsList
  rw [rows_len (sz := sz)]
  · simp
  · intro r hr
    obtain ⟨i, _, rfl⟩ := List.mem_map.1 hr
    simp
theorem valsList_get (n sz : Nat) (vals : Nat → Nat → Value) {i j : Nat} (hi : i < n) (hj : j < sz) : (valsList n sz vals)[i * sz + j]? = some (vals i j) := by
  unfold valsList
  rw [rows_get (sz := sz) _ _ i j hj]
  · simp [hi, hj]
  · intro r hr
    obtain ⟨i, _, rfl⟩ := List.mem_map.1 hr
    simp
theorem valsList_at {n sz : Nat} {vals : Nat → Nat → Value} {k : Nat} {v : Value} (h : (valsList n sz vals)[k]? = some v) : ∃ i j, i < n ∧ j < sz ∧ k = i * sz + j ∧ v = vals i j := by
  have hk : k < n * sz := by rw [← valsList_len n sz vals]; exact (List.getElem?_eq_some_iff.1 h).1
  have hsz : 0 < sz := by
    rcases Nat.eq_zero_or_pos sz with h0 | h0
    · rw [h0] at hk; simp at hk
    · exact h0
  have h1 : k / sz < n := Nat.div_lt_of_lt_mul (by rw [Nat.mul_comm]; exact hk)
  have h2 : k % sz < sz := Nat.mod_lt _ hsz
  have h3 : k = k / sz * sz + k % sz := by rw [Nat.mul_comm]; exact (Nat.div_add_mod k sz).symm
  refine ⟨k / sz, k % sz, h1, h2, h3, ?_⟩
  rw [h3, valsList_get n sz vals h1 h2] at h
  exact (Option.some.inj h).symm

section
variable {C : Cfg} {P : Program} {gl : Nat → Option (List V)} {K : Ctx} {s : St} {w w' : World} {e : Env} {a : Act}

/-- The elements of a slice, where they lie. -/
structure Elems (K : Ctx) (w : World) (ys : List V) (sz : Nat) (u : Value) (vals : Nat → Nat → Value) (ad : Option Addr) (cap : Nat) : Prop where
  val : u = .slice ad ys.length cap
  le : ys.length ≤ cap
  szs : ∀ y ∈ ys, y.cells.length = sz
  base : ys ≠ [] → ∃ b o, ad = some ⟨b, o, none⟩ ∧ ∀ (i : Nat) (x : V) (j : Nat) (c : V), ys[i]? = some x → x.cells[j]? = some c → w.cell? ⟨b, o + i * sz + j, none⟩ = some (vals i j)
  rel : ∀ (i : Nat) (x : V) (j : Nat) (c : V), ys[i]? = some x → x.cells[j]? = some c → c.leaf = true ∧ VRel K w c (vals i j)

theorem rowV_cells {r : List V} (h : ∀ x ∈ r, x.leaf = true) : (rowV r).cells = r := by
  match r, h with
  | [v], h => exact V.leaf_cells (h v (by simp))
  | [], _ => rfl
  | _ :: _ :: _, _ => rfl

theorem elems_rel (hk : RelW gl K s w) {y : V} {u : Value} (hy : VRel K w y u) {ys : List V} (h : elems s y = some ys) : ∃ sz vals ad cap, Elems K w ys sz u vals ad cap := by
  cases y <;> simp only [elems, reduceCtorEq] at h
  case lit xs =>
    simp at h; subst h
    cases hy with
    | lit0 ad cap => exact ⟨0, fun _ _ => Go.undef, ad, cap, rfl, by simp, by simp, by simp, by simp⟩
    | lit _ b o sz cap vals hb hc hx hcell hrel =>
      exact ⟨sz, vals, _, cap, rfl, hc, fun y hy => (hx y hy).1, fun _ => ⟨b, o, rfl, fun i x j c h1 h2 => (hcell i x j c h1 h2).2⟩, fun i x j c h1 h2 => ⟨(hcell i x j c h1 h2).1, hrel i x j c h1 h2⟩⟩
  case nils =>
    simp at h; subst h
    cases hy with
    | nils ad => exact ⟨0, fun _ _ => Go.undef, ad, 0, rfl, by simp, by simp, by simp, by simp⟩
  case ref id ver sz off len =>
    split at h
    · rename_i o ho
      split at h
      · rename_i hver
        split at h
        · rename_i hle
          simp only [Option.some.injEq] at h
          subst h
          obtain ⟨T, hT, hr⟩ := hk.obj id o ho
          obtain ⟨c, et, hh, hsz, hrow⟩ := hr.row
          cases hy with
          | refd _ _ _ _ _ ad cap hal hd hl h0 => exact absurd (hd T hT) (by rw [hr.ver, hver]; omega)
          | ref _ _ _ _ _ T' ad cap hT' hal hv hz hl hc ha =>
            rw [hT] at hT'
            obtain rfl := Option.some.inj hT'
            have hlen : (((o.rows.drop off).take len).map rowV).length = len := by simp; omega
            have hget : ∀ (i : Nat) (x : V), (((o.rows.drop off).take len).map rowV)[i]? = some x → ∃ r, o.rows[off + i]? = some r ∧ i < len ∧ x.cells = r := by
              intro i x hx
              rw [List.getElem?_map] at hx
              cases hq : ((o.rows.drop off).take len)[i]? with
              | none => simp [hq] at hx
              | some r =>
                simp only [hq, Option.map_some, Option.some.injEq] at hx
                rw [List.getElem?_take] at hq
                split at hq
                · rename_i hi
                  rw [List.getElem?_drop] at hq
                  refine ⟨r, hq, hi, ?_⟩
                  rw [← hx]
                  refine rowV_cells fun x' hx' => ?_
                  obtain ⟨j, hj⟩ := List.getElem?_of_mem hx'
                  exact ((hrow _ r hq).2 j x' hj).1
                · cases hq
            refine ⟨o.sz, fun i j => (c[T.base + (off + i) * o.sz + j]?).getD Go.undef, ad, cap, ?_, by rw [hlen]; exact hl, ?_, ?_, ?_⟩
            · rw [hlen]
            · intro y hy
              obtain ⟨i, hi⟩ := List.getElem?_of_mem hy
              obtain ⟨r, h1, _, h2⟩ := hget i y hi
              rw [h2]
              exact (hrow _ r h1).1
            · intro hne
              have hpos : 0 < len := by
                rcases Nat.eq_zero_or_pos len with h0 | h0
                · exact absurd (List.eq_nil_of_length_eq_zero (by rw [hlen, h0])) hne
                · exact h0
              rcases ha with rfl | rfl
              · refine ⟨_, _, rfl, fun i x j c' h1 h2 => ?_⟩
                obtain ⟨r, g1, g2, g3⟩ := hget i x h1
                rw [g3] at h2
                obtain ⟨_, u, g4, _⟩ := (hrow _ r g1).2 j c' h2
                rw [cell_of_row w T.blk _ c et _ hh]
                rw [hr.sz, g4, show T.base + off * o.sz + i * o.sz + j = T.base + (off + i) * o.sz + j by rw [Nat.add_mul]; omega, g4]
                rfl
              · omega
            · intro i x j c' h1 h2
              obtain ⟨r, g1, g2, g3⟩ := hget i x h1
              rw [g3] at h2
              obtain ⟨g5, u, g4, g6⟩ := (hrow _ r g1).2 j c' h2
              refine ⟨g5, ?_⟩
              rw [g4]
              exact g6
        · cases h
      · cases h
    · cases h

theorem Elems.news {ys : List V} {sz : Nat} {u : Value} {vals : Nat → Nat → Value} {ad : Option Addr} {cap : Nat} (h : Elems K w ys sz u vals ad cap) :
    (∀ b o, ad = some ⟨b, o, none⟩ → (ys ≠ [] → ∀ (i : Nat) (x : V) (j : Nat) (c : V), ys[i]? = some x → x.cells[j]? = some c → w.cell? ⟨b, o + i * sz + j, none⟩ = some (vals i j)) →
      ∀ k v, (valsList ys.length sz vals)[k]? = some v → w.cell? ((⟨b, o, none⟩ : Addr).add k) = some v) ∧ ∀ v ∈ valsList ys.length sz vals, v.oneCell' = true := by
  have hg : ∀ i j, i < ys.length → j < sz → ∃ x c, ys[i]? = some x ∧ x.cells[j]? = some c := by
    intro i j hi hj
    have := h.szs _ (List.getElem_mem hi)
    exact ⟨_, _, List.getElem?_eq_getElem hi, List.getElem?_eq_getElem (by rw [this]; exact hj)⟩
  refine ⟨fun b o _ hc k v hv => ?_, fun v hv => ?_⟩
  · obtain ⟨i, j, hi, hj, rfl, rfl⟩ := valsList_at hv
    obtain ⟨x, c, h1, h2⟩ := hg i j hi hj
    rw [addr_add, ← Nat.add_assoc]
    exact hc (List.ne_nil_of_length_pos (by omega)) i x j c h1 h2
  · obtain ⟨k, hk⟩ := List.getElem?_of_mem hv
    obtain ⟨i, j, hi, hj, rfl, rfl⟩ := valsList_at hk
    obtain ⟨x, c, h1, h2⟩ := hg i j hi hj
    obtain ⟨g1, g2⟩ := h.rel i x j c h1 h2
    exact (g2.one g1).1

/-- Values as rows in a list of cells. -/
theorem rowsAt_vals {ys : List V} {sz : Nat} {vals : Nat → Nat → Value} (hsz : ∀ y ∈ ys, y.cells.length = sz)
    (hrel : ∀ (i : Nat) (x : V) (j : Nat) (c : V), ys[i]? = some x → x.cells[j]? = some c → c.leaf = true ∧ VRel K w c (vals i j)) {base : Nat} {c : Array Value}
    (hc : ∀ i j, i < ys.length → j < sz → c[base + i * sz + j]? = some (vals i j)) : RowsAt K w (ys.map V.cells) sz base c where
  len := fun i r h => by
    rw [List.getElem?_map] at h
    cases hq : ys[i]? with
    | none => simp [hq] at h
    | some x => simp [hq] at h; rw [← h]; exact hsz x (List.mem_of_getElem? hq)
  cell := fun i r j x h h2 => by
    rw [List.getElem?_map] at h
    cases hq : ys[i]? with
    | none => simp [hq] at h
    | some y =>
      simp [hq] at h
      subst h
      obtain ⟨g1, g2⟩ := hrel i y j x hq h2
      have hi : i < ys.length := (List.getElem?_eq_some_iff.1 hq).1
      have hj : j < sz := by rw [← hsz y (List.mem_of_getElem? hq)]; exact (List.getElem?_eq_some_iff.1 h2).1
      exact ⟨g1, _, hc i j hi hj, g2⟩

/-- A slice that has just been made. -/
theorem made (hk : RelW gl K s w) {frz : Bool} {id sz : Nat} {xs : List V} {v : V} {eff : Eff} (h : sliceOfRows frz id sz xs = some (v, eff)) (hsz : 0 < sz) (hid : ¬ K.al id)
    {vals : Nat → Nat → Value} (hrel : ∀ (i : Nat) (x : V) (j : Nat) (c : V), xs[i]? = some x → x.cells[j]? = some c → c.leaf = true ∧ VRel K w c (vals i j))
    (hfl : ∀ x ∈ xs, x.flat = true → x.noIds = true)
    {c : Array Value} {et : TypeId} (hw : Newer w w' c et) {cap : Nat} (hcap : xs.length ≤ cap) (hcs : cap * sz ≤ c.size) (hc : ∀ i j, i < xs.length → j < sz → c[i * sz + j]? = some (vals i j)) :
    ∃ K', Stp K w K' w' ∧ RelW gl K' (eff.on s) w' ∧ VRel K' w' v (.slice (some ⟨w.heap.size, 0, none⟩) xs.length cap) ∧ (∀ j, K'.al j → K.al j ∨ (j = id ∧ ∃ o, eff = .set id o)) := by
  unfold sliceOfRows at h
  split at h
  · rename_i hall
    have hst : ∀ x ∈ xs, x.storable = true ∧ x.cells.length = sz := by
      intro x hx
      have := List.all_eq_true.1 hall x hx
      simpa using this
    split at h
    · split at h
      · rename_i hflat
        simp at h
        obtain ⟨rfl, rfl⟩ := h
        refine ⟨K, hw.stp, hk.same hw.stp (fun id T hT => hw.old _ (hk.blk_lt hT)), ?_, fun j h => .inl h⟩
        have hlen : (xs.map V.norm).length = xs.length := by simp
        have hget : ∀ (i : Nat) (x : V) (j : Nat) (c : V), (xs.map V.norm)[i]? = some x → x.cells[j]? = some c → ∃ x' c', xs[i]? = some x' ∧ x'.cells[j]? = some c' ∧ c = c'.norm1 := by
          intro i x j c' h1 h2
          rw [List.getElem?_map] at h1
          cases hq : xs[i]? with
          | none => simp [hq] at h1
          | some x' =>
            simp [hq] at h1
            subst h1
            rw [(norm_cells (hst x' (List.mem_of_getElem? hq)).1).1, List.getElem?_map] at h2
            cases hq2 : x'.cells[j]? with
            | none => simp [hq2] at h2
            | some c0 => simp [hq2] at h2; exact ⟨x', c0, rfl, hq2, h2.symm⟩
        have hlit := VRel.lit (K := K) (w := w') (xs.map V.norm) w.heap.size 0 sz cap vals ⟨by rw [hw.size]; omega, fun hx => by have := hk.Xlt _ hx; omega, fun j T hT => by have := hk.blk_lt hT; omega⟩ (by rw [hlen]; exact hcap) (fun x hx => by
            obtain ⟨x', h1, rfl⟩ := List.mem_map.1 hx
            obtain ⟨h2, h3⟩ := norm_cells (hst x' h1).1
            exact ⟨by rw [h2]; simpa using (hst x' h1).2, h3, norm_noIds (hfl x' h1 (List.all_eq_true.1 hflat x' h1))⟩) (fun i x j c' h1 h2 => by
            obtain ⟨x', c0, q1, q2, rfl⟩ := hget i x j c' h1 h2
            have hi : i < xs.length := (List.getElem?_eq_some_iff.1 q1).1
            have hj : j < sz := by rw [← (hst x' (List.mem_of_getElem? q1)).2]; exact (List.getElem?_eq_some_iff.1 q2).1
            refine ⟨norm1_leaf (hrel i x' j c0 q1 q2).1, ?_⟩
            rw [cell_of_row w' _ _ c et _ hw.new, Nat.zero_add]
            exact hc i j hi hj) (fun i x j c' h1 h2 => by
            obtain ⟨x', c0, q1, q2, rfl⟩ := hget i x j c' h1 h2
            exact norm1_rel ((hrel i x' j c0 q1 q2).2.mono hw.stp))
        rw [hlen] at hlit
        exact hlit
      · cases h
    · simp at h
      obtain ⟨rfl, rfl⟩ := h
      have hno := new_obj hk hw (id := id) (T := ⟨w.heap.size, 0, sz, cap, 0⟩) (o := ⟨sz, 0, false, xs.map V.cells⟩) rfl (.inl hid) rfl rfl hsz (by simpa using hcap) (by simpa using hcs)
        (rowsAt_vals (fun y hy => (hst y hy).2) hrel (fun i j hi hj => by simpa using hc i j hi hj))
      refine ⟨_, hno.1, hno.2, ?_, fun j h => ?_⟩
      · refine .ref id 0 sz 0 xs.length ⟨w.heap.size, 0, sz, cap, 0⟩ _ cap (by simp [Ctx.put]) (.inr rfl) rfl rfl hcap (by simp) (.inl (by simp))
      · rcases h with h | h
        · exact .inl h
        · exact .inr ⟨h, _, rfl⟩
  · cases h
end
end Go.Ilv

/- append, make, literals, variables, stores. -/
set_option linter.unusedVariables false
set_option linter.unusedSimpArgs false
namespace Go.Ilv
open Go

/-- What an operation comes to. -/
def OpDone (gl : Nat → Option (List V)) (K : Ctx) (s : St) (w : World) (id : Nat) (v : V) (eff : Eff) (res : Result Value) : Prop :=
  ∃ K' w' u, res = .ok u w' ∧ Stp K w K' w' ∧ RelW gl K' (eff.on s) w' ∧ VRel K' w' v u ∧ ∀ j, K'.al j → K.al j ∨ (j = id ∧ ∃ o, eff = .set id o)

section
variable {C : Cfg} {P : Program} {gl : Nat → Option (List V)} {K : Ctx} {s : St} {w w' : World} {e : Env} {a : Act}

theorem roomOk_spec {n b : Nat} (h : roomOk n b = true) : n ≤ 35184372088832 ∧ n * b ≤ 35184372088832 := by simpa [roomOk] using h

theorem cells_append {n sz : Nat} {vals : Nat → Nat → Value} {us : List Value} {rest : Array Value} {k i j : Nat} (hk : us.length = k * sz) (hi : i < n) (hj : j < sz) :
    (us.toArray ++ (valsList n sz vals).toArray ++ rest)[(k + i) * sz + j]? = some (vals i j) := by
  have hlen := valsList_len n sz vals
  have h1 : i * sz + j < n * sz := by
    have : (i + 1) * sz ≤ n * sz := Nat.mul_le_mul_right _ hi
    rw [Nat.add_mul] at this; omega
  have h2 := valsList_get n sz vals hi hj
  have e : (k + i) * sz + j = us.length + (i * sz + j) := by rw [hk, Nat.add_mul]; omega
  have hsz : us.length + (i * sz + j) < (us.toArray ++ (valsList n sz vals).toArray).size := by simp; rw [hlen]; omega
  rw [e, Array.getElem?_append_left hsz, Array.getElem?_append_right (by simp)]
  simpa using h2

theorem append_rel (hC : CfgOk C P) (hk : RelW gl K s w) {t el tt : TypeId} (ht : P.underlying t = some (.slice el)) {x y v : V} {u u2 : Value} (hx : VRel K w x u) (hy : VRel K w y u2) {frz : Bool} {id : Nat} {eff : Eff}
    (hid : ¬ K.al id) (h : appendOp C frz s id el x y = some (v, eff)) : OpDone gl K s w id v eff ((Builtin.append_ #[t, t] tt #[u, u2]).run P w) := by
  unfold appendOp at h
  split at h
  · rename_i y0 ys hy0 hys
    obtain ⟨i, d, z, h1, h2, h3, h4, h5, h6, h7, h8, h9⟩ := (hC.ty el y0 hy0).ex
    obtain ⟨sz, vals, ad, cap, E⟩ := elems_rel hk hy hys
    split at h
    · cases h
    · rename_i hpos
      have hpos : 0 < y0.size := by omega
      split at h
      · -- nothing there yet
        cases hx with
        | nils ax =>
          split at h
          · rename_i hemp
            simp at h
            obtain ⟨rfl, rfl⟩ := h
            have : ys = [] := by simpa using hemp
            subst this
            refine ⟨K, w, .slice ax 0 0, ?_, Stp.refl _ _, hk, .nils _, fun j h => .inl h⟩
            rw [E.val]
            cases ax <;> cases ad <;> simp [Builtin.append_, r_under ht, sizeOf, r_ty h1, Builtin.lenOf, Builtin.firstCells, loadCells, loadCellsFrom, storeCells]
          · rename_i hemp
            split at h
            · rename_i hroom
              obtain ⟨r1, r2⟩ := roomOk_spec hroom
              have hne : ys ≠ [] := by simpa using hemp
              have hn : 0 < ys.length := List.length_pos_iff.2 hne
              obtain ⟨b, o, rfl, hcell⟩ := E.base hne
              have hall : ∀ x ∈ ys, x.cells.length = y0.size := by
                have h' := h
                unfold sliceOfRows at h'
                split at h'
                · rename_i hall
                  intro x hx
                  have := List.all_eq_true.1 hall x hx
                  simp at this
                  exact this.2
                · cases h'
              have hsz : sz = y0.size := by rw [← E.szs _ (List.getElem_mem hn)]; exact hall _ (List.getElem_mem hn)
              subst hsz
              obtain ⟨hn1, hn2⟩ := E.news
              have hnews := hn1 b o rfl (fun _ => hcell)
              have hfl : ∀ x ∈ ys, x.flat = true → x.noIds = true := by
                intro x hx hf
                obtain ⟨i', hi'⟩ := List.getElem?_of_mem hx
                refine noIds_of_cells (K := K) (w := w) hf fun j c hc => ?_
                exact ⟨_, (E.rel i' x j c hi' hc).2⟩
              have hgo : ∀ (c0 : Nat), ∃ K', Stp K w K' (w.drew.alloc (.cells ((([] : List Value).toArray ++ (valsList ys.length y0.size vals).toArray ++ Builtin.zeroCells z.cells (grownCap w ys.length c0 el - ys.length))) el)) ∧
                  RelW gl K' (eff.on s) (w.drew.alloc (.cells ((([] : List Value).toArray ++ (valsList ys.length y0.size vals).toArray ++ Builtin.zeroCells z.cells (grownCap w ys.length c0 el - ys.length))) el)) ∧
                  VRel K' (w.drew.alloc (.cells ((([] : List Value).toArray ++ (valsList ys.length y0.size vals).toArray ++ Builtin.zeroCells z.cells (grownCap w ys.length c0 el - ys.length))) el)) v (.slice (some ⟨w.heap.size, 0, none⟩) ys.length (grownCap w ys.length c0 el)) ∧
                  (∀ j, K'.al j → K.al j ∨ (j = id ∧ ∃ o, eff = .set id o)) := by
                intro c0
                have hge := grownCap_ge w ys.length c0 el
                refine made hk h hpos hid E.rel hfl (newer_drew _ _) hge ?_ ?_
                · simp only [Array.size_append, List.size_toArray, List.length_nil, Nat.zero_add, valsList_len, size_zeroCells, h7, h2]
                  rw [← Nat.add_mul]
                  exact Nat.mul_le_mul_right _ (by omega)
                · intro i' j' hi' hj'
                  have := cells_append (n := ys.length) (sz := y0.size) (vals := vals) (us := []) (rest := Builtin.zeroCells z.cells (grownCap w ys.length c0 el - ys.length)) (k := 0) (by simp) hi' hj'
                  simpa using this
              have hlen : (valsList ys.length y0.size vals).length = ys.length * i.size := by rw [valsList_len, h2]
              rw [E.val]
              cases ax with
              | none =>
                obtain ⟨K', g1, g2, g3, g4⟩ := hgo 0
                refine ⟨K', _, _, ?_, g1, g2, g3, g4⟩
                have := run_append_nil (P := P) w t tt el i z ht h1 h6 ⟨b, o, none⟩ ys.length cap _ hlen hnews hn (by omega) (by rw [h3]; omega)
                simpa using this
              | some bx =>
                obtain ⟨K', g1, g2, g3, g4⟩ := hgo 0
                refine ⟨K', _, _, ?_, g1, g2, g3, g4⟩
                have := run_append_grow (P := P) w t tt el i z ht h1 h6 bx 0 0 [] (by simp) (by simp) ⟨b, o, none⟩ ys.length cap _ hlen hnews (by omega) (by omega) (growslice_fits (by omega) (by rw [h3, Nat.zero_add]; omega))
                simpa using this
            · cases h
      · rename_i rid ver rsz off len
        split at h
        · cases h
        · split at h
          · rename_i ob hob
            split at h
            · rename_i hcond
              obtain ⟨hver, hosz, rfl, hle, hroom, hall'⟩ := hcond
              obtain ⟨r1, r2⟩ := roomOk_spec hroom
              simp at h
              obtain ⟨rfl, rfl⟩ := h
              obtain ⟨T, hT, hr⟩ := hk.obj rid ob hob
              obtain ⟨c, et, hh, hcs, hrow⟩ := hr.row
              have hall : ∀ x ∈ ys, x.cells.length = y0.size := by
                intro x hx
                have := List.all_eq_true.1 hall' x hx
                simp at this
                exact this.2
              have hsz : ys ≠ [] → sz = y0.size := by
                intro hne
                have hn : 0 < ys.length := List.length_pos_iff.2 hne
                rw [← E.szs _ (List.getElem_mem hn)]; exact hall _ (List.getElem_mem hn)
              have hvl : valsList ys.length sz vals = valsList ys.length y0.size vals := by
                by_cases hne : ys = []
                · subst hne; simp [valsList]
                · rw [hsz hne]
              cases hx with
              | refd _ _ _ _ _ ax capx hal hd hl h0 => exact absurd (hd T hT) (by rw [hr.ver, hver]; omega)
              | ref _ _ _ _ _ T' ax capx hT' hal hv hz hl hc ha =>
                rw [hT] at hT'
                obtain rfl := Option.some.inj hT'
                have hTsz : T.sz = y0.size := hz
                obtain ⟨hn1, hn2⟩ := E.news
                rw [hvl] at hn1 hn2
                -- the rows that are there
                have hold : RowsAt K w ((ob.rows.drop off).take len) y0.size (T.base + off * y0.size) c := by
                  have hget : ∀ i r, ((ob.rows.drop off).take len)[i]? = some r → ob.rows[off + i]? = some r := by
                    intro i r hir
                    rw [List.getElem?_take] at hir
                    split at hir
                    · rwa [List.getElem?_drop] at hir
                    · cases hir
                  refine ⟨fun i r hir => by rw [← hosz]; exact (hrow _ r (hget i r hir)).1, fun i r j x hir hx => ?_⟩
                  obtain ⟨g1, u, g2, g3⟩ := (hrow _ r (hget i r hir)).2 j x hx
                  refine ⟨g1, u, ?_, g3⟩
                  rw [← g2]
                  congr 1
                  rw [hosz, Nat.add_mul]; omega
                have holdlen : ((ob.rows.drop off).take len).length = len := by simp; omega
                have hlenN : (valsList ys.length y0.size vals).length = ys.length * i.size := by rw [valsList_len, h2]
                -- rows one behind the other
                have hjoin : ∀ (c' : Array Value) (base : Nat), RowsAt K w ((ob.rows.drop off).take len) y0.size base c' → (∀ i j, i < ys.length → j < y0.size → c'[base + (len + i) * y0.size + j]? = some (vals i j)) →
                    RowsAt K w ((ob.rows.drop off).take len ++ ys.map V.cells) y0.size base c' := by
                  intro c' base hA hB
                  have hB' : RowsAt K w (ys.map V.cells) y0.size (base + len * y0.size) c' := rowsAt_vals hall E.rel (fun i j hi hj => by rw [← hB i j hi hj]; congr 1; rw [Nat.add_mul]; omega)
                  refine ⟨fun i r hir => ?_, fun i r j x hir hx => ?_⟩
                  · by_cases hi : i < len
                    · rw [List.getElem?_append_left (by omega)] at hir; exact hA.len i r hir
                    · rw [List.getElem?_append_right (by omega)] at hir; exact hB'.len _ r hir
                  · by_cases hi : i < len
                    · rw [List.getElem?_append_left (by omega)] at hir; exact hA.cell i r j x hir hx
                    · rw [List.getElem?_append_right (by omega), holdlen] at hir
                      obtain ⟨g1, u, g2, g3⟩ := hB'.cell _ r j x hir hx
                      refine ⟨g1, u, ?_, g3⟩
                      rw [← g2]
                      congr 1
                      have : i = len + (i - len) := by omega
                      rw [this, Nat.add_mul, Nat.add_sub_cancel_left]; omega
                by_cases hroomy : len + ys.length ≤ capx
                · -- within the capacity
                  have hT'cap : off + capx ≤ T.cap := hc
                  by_cases hcap0 : capx = 0
                  · obtain rfl : len = 0 := by omega
                    have hy0' : ys = [] := List.eq_nil_of_length_eq_zero (by omega)
                    subst hy0'
                    subst hcap0
                    have hrun : (Builtin.append_ #[t, t] tt #[.slice ax 0 0, u2]).run P w = .ok (.slice ax 0 0) w := by
                      rw [E.val]
                      cases ax <;> cases ad <;> simp [Builtin.append_, r_under ht, sizeOf, r_ty h1, Builtin.lenOf, Builtin.firstCells, loadCells, loadCellsFrom, storeCells]
                    have hwo := write_obj hk (T' := ⟨T.blk, T.base + off * T.sz, T.sz, T.cap - off, T.ver + 1⟩) (o' := { ob with ver := ver + 1, rows := (ob.rows.drop off).take 0 ++ ([] : List V).map V.cells }) hT hob rfl (.inr (Nat.lt_succ_self _)) (c' := c) hh hr.sz (by rw [hr.ver, hver]) (by rw [hosz]; exact hpos) (by simp) (by
                        show T.base + off * T.sz + (T.cap - off) * ob.sz ≤ c.size
                        rw [hr.sz, Nat.add_assoc, ← Nat.add_mul]
                        have : off + (T.cap - off) = T.cap := by omega
                        rw [this]; exact hcs) ⟨by simp, by simp⟩
                    rw [setRow_self w T.blk c et (0, 0) hh] at hwo
                    refine ⟨_, w, _, hrun, hwo.1, hwo.2, ?_, fun j h => ?_⟩
                    · exact .ref rid (ver + 1) _ 0 0 ⟨T.blk, T.base + off * T.sz, T.sz, T.cap - off, T.ver + 1⟩ _ 0 (by simp [Ctx.put]) (.inr rfl) (by show T.ver + 1 = ver + 1; rw [hr.ver, hver]) hTsz (by omega) (by simp) (.inr rfl)
                    · rcases h with h | h
                      · exact .inl h
                      · exact .inl (by rw [h]; exact hk.al rid T hT)
                  · rcases ha with rfl | ha
                    · have hfit : T.base + off * T.sz + len * i.size + (valsList ys.length y0.size vals).length ≤ c.size := by
                        rw [hlenN, h2, hTsz]
                        have e : T.base + off * y0.size + len * y0.size + ys.length * y0.size = T.base + (off + (len + ys.length)) * y0.size := by simp only [Nat.add_mul]; omega
                        rw [e]
                        have : (off + (len + ys.length)) * y0.size ≤ T.cap * y0.size := Nat.mul_le_mul_right _ (by omega)
                        rw [hosz] at hcs
                        omega
                      have hst := run_storeCells_at P T.blk (T.base + off * T.sz + len * i.size) et (valsList ys.length y0.size vals) 0 c w hh (by simpa using hfit) hn2
                      simp only [Nat.add_zero] at hst
                      have hfc : (Builtin.firstCells i.size ys.length u2).run P w = .ok (valsList ys.length y0.size vals).toArray w := by
                        rw [E.val]
                        by_cases hne : ys = []
                        · subst hne
                          cases ad <;> simp [Builtin.firstCells, valsList, loadCells, loadCellsFrom]
                        · obtain ⟨b, o, rfl, hcell⟩ := E.base hne
                          exact run_firstCells_some (P := P) w i.size ys.length ⟨b, o, none⟩ ys.length cap _ hlenN (hn1 b o rfl (fun _ => hcell))
                      have hlo : Builtin.lenOf u2 = pure ys.length := by rw [E.val]; rfl
                      have hrun : (Builtin.append_ #[t, t] tt #[.slice (some ⟨T.blk, T.base + off * T.sz, none⟩) len capx, u2]).run P w = .ok (.slice (some ⟨T.blk, T.base + off * T.sz, none⟩) (len + ys.length) capx) (w.setRow T.blk (c.toList.take (T.base + off * T.sz + len * i.size) ++ valsList ys.length y0.size vals ++ c.toList.drop (T.base + off * T.sz + len * i.size + (valsList ys.length y0.size vals).length)).toArray) := by
                        simp [Builtin.append_, r_under ht, sizeOf, r_ty h1, hlo, hroomy, hfc, addr_add, hst]
                      have hpre : (c.toList.take (T.base + off * T.sz + len * i.size)).length = T.base + off * T.sz + len * i.size := by simp; omega
                      have hwo := write_obj hk (T' := ⟨T.blk, T.base + off * T.sz, T.sz, T.cap - off, T.ver + 1⟩) (o' := { ob with ver := ver + 1, rows := (ob.rows.drop off).take len ++ ys.map V.cells }) hT hob rfl (.inr (Nat.lt_succ_self _))
                        (c' := (c.toList.take (T.base + off * T.sz + len * i.size) ++ valsList ys.length y0.size vals ++ c.toList.drop (T.base + off * T.sz + len * i.size + (valsList ys.length y0.size vals).length)).toArray) hh hr.sz (by rw [hr.ver, hver]) (by rw [hosz]; exact hpos) (by simp; omega) (by
                          show T.base + off * T.sz + (T.cap - off) * ob.sz ≤ _
                          have : (c.toList.take (T.base + off * T.sz + len * i.size) ++ valsList ys.length y0.size vals ++ c.toList.drop (T.base + off * T.sz + len * i.size + (valsList ys.length y0.size vals).length)).toArray.size = c.size := by
                            simp; omega
                          rw [this, hr.sz, Nat.add_assoc, ← Nat.add_mul]
                          have : off + (T.cap - off) = T.cap := by omega
                          rw [this]; exact hcs) (by
                          show RowsAt K w _ ob.sz (T.base + off * T.sz) _
                          have hpre' := hpre
                          rw [hTsz] at hpre'
                          rw [hosz, hTsz]
                          refine hjoin _ _ ⟨hold.len, fun i' r j x hir hx => ?_⟩ fun i' j' hi' hj' => ?_
                          · obtain ⟨g1, u, g2, g3⟩ := hold.cell i' r j x hir hx
                            refine ⟨g1, u, ?_, g3⟩
                            have hi' : i' < len := by
                              have := (List.getElem?_eq_some_iff.1 hir).1
                              omega
                            have hj' : j < y0.size := by
                              rw [← hold.len i' r hir]; exact (List.getElem?_eq_some_iff.1 hx).1
                            have hlt : T.base + off * y0.size + i' * y0.size + j < T.base + off * y0.size + len * i.size := by
                              have : (i' + 1) * y0.size ≤ len * y0.size := Nat.mul_le_mul_right _ hi'
                              rw [Nat.add_mul] at this
                              rw [h2]; omega
                            simp only [List.getElem?_toArray, List.append_assoc]
                            rw [List.getElem?_append_left (by rw [hpre']; exact hlt), List.getElem?_take, if_pos hlt]
                            simpa using g2
                          · have h0 : T.base + off * y0.size + len * i.size + (i' * y0.size + j') = T.base + off * y0.size + (len + i') * y0.size + j' := by
                              rw [h2, Nat.add_mul]; omega
                            have hin : i' * y0.size + j' < (valsList ys.length y0.size vals).length := by
                              rw [valsList_len]
                              have : (i' + 1) * y0.size ≤ ys.length * y0.size := Nat.mul_le_mul_right _ hi'
                              rw [Nat.add_mul] at this
                              omega
                            simp only [List.getElem?_toArray, List.append_assoc]
                            rw [← h0, List.getElem?_append_right (by rw [hpre']; omega), hpre', Nat.add_sub_cancel_left, List.getElem?_append_left hin]
                            exact valsList_get _ _ _ hi' hj')
                      refine ⟨_, _, _, hrun, hwo.1, hwo.2, ?_, fun j h => ?_⟩
                      · refine .ref rid (ver + 1) _ 0 (len + ys.length) ⟨T.blk, T.base + off * T.sz, T.sz, T.cap - off, T.ver + 1⟩ _ capx (by simp [Ctx.put]) (.inr rfl) (by show T.ver + 1 = ver + 1; rw [hr.ver, hver]) hTsz hroomy (by simp; omega) (.inl (by simp))
                      · rcases h with h | h
                        · exact .inl h
                        · exact .inl (by rw [h]; exact hk.al rid T hT)
                    · omega
                · -- a new block
                  have hg : capx < len + ys.length := by omega
                  have hne : ys ≠ [] := fun h0 => by rw [h0] at hg; simp at hg; omega
                  have hn : 0 < ys.length := List.length_pos_iff.2 hne
                  obtain ⟨b, o, rfl, hcell⟩ := E.base hne
                  have hnews := hn1 b o rfl (fun _ => hcell)
                  have hin : T.base + off * y0.size + len * y0.size ≤ c.size := by
                    have h0 : (off + len) * y0.size ≤ T.cap * y0.size := Nat.mul_le_mul_right _ (by omega)
                    rw [hosz] at hcs
                    rw [Nat.add_mul] at h0
                    omega
                  generalize hold0 : (List.range (len * y0.size)).map (fun k => (c[T.base + off * y0.size + k]?).getD Go.undef) = olds
                  have holen : olds.length = len * y0.size := by rw [← hold0]; simp
                  have hoget : ∀ k v, olds[k]? = some v → c[T.base + off * y0.size + k]? = some v := by
                    intro k v hv
                    rw [← hold0, List.getElem?_map] at hv
                    have hk' : k < len * y0.size := by
                      rcases Nat.lt_or_ge k (len * y0.size) with h0 | h0
                      · exact h0
                      · simp [List.getElem?_eq_none, h0] at hv
                    simp only [List.getElem?_range hk', Option.map_some, Option.some.injEq] at hv
                    rw [Array.getElem?_eq_getElem (by omega)] at hv ⊢
                    simpa using hv
                  have hoget2 : ∀ k v, k < len * y0.size → c[T.base + off * y0.size + k]? = some v → olds[k]? = some v := by
                    intro k v hk' hv
                    have := hoget k _ (List.getElem?_eq_getElem (by rw [holen]; exact hk'))
                    rw [List.getElem?_eq_getElem (by rw [holen]; exact hk')]
                    rw [this] at hv
                    exact hv
                  have hge := grownCap_ge w (len + ys.length) capx el
                  have hnb : ∀ (c' : Array Value), c' = olds.toArray ++ (valsList ys.length y0.size vals).toArray ++ Builtin.zeroCells z.cells (grownCap w (len + ys.length) capx el - (len + ys.length)) →
                      ∃ K', Stp K w K' (w.drew.alloc (.cells c' el)) ∧ RelW gl K' (s.set rid { ob with ver := ver + 1, rows := (ob.rows.drop off).take len ++ ys.map V.cells }) (w.drew.alloc (.cells c' el)) ∧
                        VRel K' (w.drew.alloc (.cells c' el)) (.ref rid (ver + 1) y0.size 0 (len + ys.length)) (.slice (some ⟨w.heap.size, 0, none⟩) (len + ys.length) (grownCap w (len + ys.length) capx el)) ∧ ∀ j, K'.al j → K.al j ∨ j = rid := by
                    intro c' hc'
                    have hsize : grownCap w (len + ys.length) capx el * y0.size ≤ c'.size := by
                      rw [hc']
                      simp only [Array.size_append, List.size_toArray, holen, valsList_len, size_zeroCells, h7, h2]
                      rw [← Nat.add_mul, ← Nat.add_mul]
                      exact Nat.mul_le_mul_right _ (by omega)
                    have hno := new_obj hk (newer_drew (w := w) c' el) (id := rid) (T := ⟨w.heap.size, 0, y0.size, grownCap w (len + ys.length) capx el, ver + 1⟩) (o := { ob with ver := ver + 1, rows := (ob.rows.drop off).take len ++ ys.map V.cells }) rfl
                      (.inr ⟨T, hT, by show T.ver < ver + 1; rw [hr.ver, hver]; omega⟩) hosz.symm rfl (by rw [hosz]; exact hpos) (by simp; omega) (by
                        show 0 + grownCap w (len + ys.length) capx el * ob.sz ≤ c'.size
                        rw [hosz]; omega) (by
                        show RowsAt K w _ ob.sz 0 c'
                        rw [hosz]
                        refine hjoin c' 0 ⟨hold.len, fun i' r j x hir hx => ?_⟩ fun i' j' hi' hj' => ?_
                        · obtain ⟨g1, u, g2, g3⟩ := hold.cell i' r j x hir hx
                          refine ⟨g1, u, ?_, g3⟩
                          have hi' : i' < len := by
                            have := (List.getElem?_eq_some_iff.1 hir).1
                            omega
                          have hj' : j < y0.size := by
                            rw [← hold.len i' r hir]; exact (List.getElem?_eq_some_iff.1 hx).1
                          have hlt : i' * y0.size + j < len * y0.size := by
                            have : (i' + 1) * y0.size ≤ len * y0.size := Nat.mul_le_mul_right _ hi'
                            rw [Nat.add_mul] at this
                            omega
                          have h0 := hoget2 (i' * y0.size + j) u hlt (by rw [← g2]; congr 1; omega)
                          rw [hc', Nat.zero_add, Array.getElem?_append_left (by simp; omega), Array.getElem?_append_left (by simp; omega)]
                          simpa using h0
                        · rw [hc', Nat.zero_add]
                          exact cells_append holen hi' hj')
                    refine ⟨_, hno.1, hno.2, ?_, fun j h => h⟩
                    exact .ref rid (ver + 1) _ 0 (len + ys.length) ⟨w.heap.size, 0, y0.size, grownCap w (len + ys.length) capx el, ver + 1⟩ _ _ (by simp [Ctx.put]) (.inr rfl) rfl rfl hge (by simp) (.inl (by simp))
                  have hfin : ∀ j, K.al j ∨ j = rid → K.al j ∨ (j = id ∧ ∃ o', Eff.set rid { ob with ver := ver + 1, rows := (ob.rows.drop off).take len ++ ys.map V.cells } = .set id o') := fun j h => by
                    rcases h with h | h
                    · exact .inl h
                    · exact .inl (by rw [h]; exact hk.al rid T hT)
                  rw [E.val]
                  rcases ha with rfl | rfl
                  · obtain ⟨K', g1, g2, g3, g4⟩ := hnb _ rfl
                    refine ⟨K', _, _, ?_, g1, g2, g3, fun j h => hfin j (g4 j h)⟩
                    exact run_append_grow (P := P) w t tt el i z ht h1 h6 ⟨T.blk, T.base + off * T.sz, none⟩ len capx olds (by rw [holen, h2]) (fun k v hv => by
                      rw [addr_add, cell_of_row w T.blk _ c et _ hh, hTsz]; exact hoget k v hv) ⟨b, o, none⟩ ys.length cap _ hlenN hnews hg (by omega) (growslice_fits hg (by rw [h3]; omega))
                  · obtain rfl : len = 0 := by omega
                    have ho0 : olds = [] := List.eq_nil_of_length_eq_zero (by rw [holen]; simp)
                    subst ho0
                    obtain ⟨K', g1, g2, g3, g4⟩ := hnb _ rfl
                    cases ax with
                    | none =>
                      refine ⟨K', _, _, ?_, g1, g2, g3, fun j h => hfin j (g4 j h)⟩
                      have := run_append_nil (P := P) w t tt el i z ht h1 h6 ⟨b, o, none⟩ ys.length cap _ hlenN hnews hn (by omega) (by rw [Nat.zero_add] at r2; rw [h3]; omega)
                      simpa using this
                    | some bx =>
                      refine ⟨K', _, _, ?_, g1, g2, g3, fun j h => hfin j (g4 j h)⟩
                      exact run_append_grow (P := P) w t tt el i z ht h1 h6 bx 0 0 [] (by simp) (by simp) ⟨b, o, none⟩ ys.length cap _ hlenN hnews hg (by omega) (growslice_fits hg (by rw [h3]; omega))
            · cases h
          · cases h
      · cases h
  · cases h

theorem TyOk.z {t : TypeId} {y : Ty} (h : TyOk P t y) : ∃ i z, P.info? t = some i ∧ i.size = y.size ∧ i.bytes = y.bytes ∧ i.zero = some z ∧ z.cells.size = y.size ∧ ZRel y.zero z.cells.toList := by
  obtain ⟨i, d, z, h1, h2, h3, h4, h5, h6, h7, h8, h9⟩ := h.ex
  exact ⟨i, z, h1, h2, h3, h6, by rw [h7, h2], h8⟩

/-- A variable of one row of cells. -/
theorem var_rel (hk : RelW gl K s w) {cs : List V} {us : Array Value} {et : TypeId} {id : Nat} (hid : ¬ K.al id) (hc : CRel K w cs us.toList) (hpos : 0 < cs.length) :
    OpDone gl K s w id (.ptr id 0 0 0) (.set id ⟨cs.length, 0, true, [cs]⟩) (.ok (.pointer (some ⟨w.heap.size, 0, none⟩)) (w.alloc (.cells us et))) := by
  have hlen : cs.length = us.size := by simpa using hc.1
  have hno := new_obj hk (newer_alloc (w := w) us et) (id := id) (T := ⟨w.heap.size, 0, cs.length, 1, 0⟩) (o := ⟨cs.length, 0, true, [cs]⟩) rfl (.inl hid) rfl rfl hpos (by simp) (by simp [hlen])
    ⟨fun i r h => by
      cases i with
      | zero => simp at h; rw [← h]
      | succ i => simp at h, fun i r j x h hx => by
      cases i with
      | zero =>
        simp at h
        subst h
        have hj : j < cs.length := (List.getElem?_eq_some_iff.1 hx).1
        refine ⟨hc.2.1 x (List.mem_of_getElem? hx), us[j], by simp, ?_⟩
        exact hc.2.2 j x _ hx (by simp)
      | succ i => simp at h⟩
  refine ⟨_, _, _, rfl, hno.1, hno.2, ?_, fun j h => ?_⟩
  · have := VRel.ptr (K := K.put id ⟨w.heap.size, 0, cs.length, 1, 0⟩) (w := w.alloc (.cells us et)) id 0 0 0 ⟨w.heap.size, 0, cs.length, 1, 0⟩ (by simp [Ctx.put]) (.inr rfl) rfl
    simpa using this
  · rcases h with h | h
    · exact .inl h
    · exact .inr ⟨h, _, rfl⟩

theorem alloc_rel (hC : CfgOk C P) (hk : RelW gl K s w) {t : TypeId} {y : Ty} (hy : C.ty t = some y) (h0 : y.size ≠ 0) {id : Nat} (hid : ¬ K.al id) :
    OpDone gl K s w id (.ptr id 0 0 0) (.set id ⟨y.size, 0, true, [y.zero]⟩) ((Instr.alloc t true (.tuple #[])).run P w) := by
  obtain ⟨i, z, h1, h2, h3, h4, h5, h6⟩ := (hC.ty t y hy).z
  have hz := h6 K w
  have hl : y.zero.length = y.size := by rw [hz.1]; simpa using h5
  have := var_rel hk (et := t) hid hz (by omega)
  rw [hl] at this
  have e : (Instr.alloc t true (.tuple #[])).run P w = .ok (.pointer (some ⟨w.heap.size, 0, none⟩)) (w.alloc (.cells z.cells t)) := by
    simp [Instr.alloc, r_zero h1 h4, newVar, newRow]
  rw [e]
  exact this

theorem box_rel (hC : CfgOk C P) (hk : RelW gl K s w) {t : TypeId} {x : V} {u : Value} (hx : VRel K w x u) (hs : x.storable = true) (hpos : x.cells.length ≠ 0) {id : Nat} (hid : ¬ K.al id) :
    OpDone gl K s w id (.ptr id 0 0 0) (.set id ⟨x.cells.length, 0, true, [x.cells]⟩) ((Instr.box t u).run P w) := by
  have := var_rel hk (et := t) hid (hx.cells hs) (by omega)
  have e : (Instr.box t u).run P w = .ok (.pointer (some ⟨w.heap.size, 0, none⟩)) (w.alloc (.cells u.cells t)) := by
    simp [Instr.box, newVar, newRow]
  rw [e]
  exact this

theorem store_rel (hC : CfgOk C P) (hk : RelW gl K s w) {t : TypeId} {y : Ty} (hy : C.ty t = some y) {i ver idx off : Nat} {x : V} {up ux : Value} (hp : VRel K w (.ptr i ver idx off) up) (hx : VRel K w x ux)
    (hs : x.storable = true) (hl : x.cells.length = y.size) {o : Obj} (ho : s.get i = some o) (hv : o.ver = ver) {r : List V} (hr : o.rows[idx]? = some r) (hle : off + x.cells.length ≤ r.length) :
    ∃ w', (Instr.storeAt t up ux).run P w = .ok () w' ∧ Stp K w K w' ∧ RelW gl K (s.set i { o with rows := o.rows.set idx (splice r off x.cells) }) w' := by
  obtain ⟨T, hT, hor⟩ := hk.obj i o ho
  obtain ⟨c, et, hh, hcs, hrow⟩ := hor.row
  have hxc := hx.cells hs
  have hlu : x.cells.length = ux.cells.size := by simpa using hxc.1
  cases hp with
  | ptrd _ _ _ _ a hal hd => exact absurd (hd T hT) (by rw [hor.ver, hv]; omega)
  | ptr _ _ _ _ T' hT' hal hv' =>
    rw [hT] at hT'
    obtain rfl := Option.some.inj hT'
    have hrl := (hrow idx r hr).1
    have hidx : idx < o.rows.length := (List.getElem?_eq_some_iff.1 hr).1
    have hcap := hor.cap
    have hin : T.base + idx * o.sz + o.sz ≤ c.size := by
      have h0 : (idx + 1) * o.sz ≤ T.cap * o.sz := Nat.mul_le_mul_right _ (by omega)
      rw [Nat.add_mul] at h0
      omega
    have hst := run_storeCells_at P T.blk (T.base + idx * T.sz + off) et ux.cells.toList 0 c w hh (by rw [hor.sz]; simp; omega) hxc.one
    simp only [Nat.add_zero] at hst
    have hrun : (Instr.storeAt t (.pointer (some ⟨T.blk, T.base + idx * T.sz + off, none⟩)) ux).run P w = .ok () (w.setRow T.blk (c.toList.take (T.base + idx * T.sz + off) ++ ux.cells.toList ++ c.toList.drop (T.base + idx * T.sz + off + ux.cells.toList.length)).toArray) := by
      have e : ux.cells.size = y.size := by omega
      simp only [Instr.storeAt, Instr.sureAddr, Sem.run_bind, Sem.run_pure, Result.andThen_ok, storeVar, (hC.ty t y hy).run_size, ne_eq, e, not_true_eq_false, if_false]
      exact hst
    have hpre : (c.toList.take (T.base + idx * T.sz + off)).length = T.base + idx * T.sz + off := by rw [hor.sz]; simp; omega
    have hsz' : (c.toList.take (T.base + idx * T.sz + off) ++ ux.cells.toList ++ c.toList.drop (T.base + idx * T.sz + off + ux.cells.toList.length)).toArray.size = c.size := by
      have := hor.sz
      simp only [List.size_toArray, List.length_append, hpre, List.length_drop, Array.length_toList]
      rw [this]; omega
    have hrows : RowsAt K w (o.rows.set idx (splice r off x.cells)) o.sz T.base (c.toList.take (T.base + idx * T.sz + off) ++ ux.cells.toList ++ c.toList.drop (T.base + idx * T.sz + off + ux.cells.toList.length)).toArray :=
      ⟨fun i' r' h => by
        rw [List.getElem?_set] at h
        split at h
        · simp at h; rw [← h]; simp [splice]; omega
        · exact (hrow i' r' h).1, fun i' r' j x' h hx' => by
        have hold : ∀ (u : Value) (k : Nat), c[k]? = some u → (k < T.base + idx * T.sz + off ∨ T.base + idx * T.sz + off + ux.cells.toList.length ≤ k) →
            (c.toList.take (T.base + idx * T.sz + off) ++ ux.cells.toList ++ c.toList.drop (T.base + idx * T.sz + off + ux.cells.toList.length)).toArray[k]? = some u := by
          intro u k hk hor'
          simp only [List.getElem?_toArray, List.append_assoc]
          rcases hor' with h1 | h1
          · rw [List.getElem?_append_left (by rw [hpre]; exact h1), List.getElem?_take, if_pos h1]; simpa using hk
          · rw [List.getElem?_append_right (by rw [hpre]; omega), hpre, List.getElem?_append_right (by omega), List.getElem?_drop]
            have e : T.base + idx * T.sz + off + ux.cells.toList.length + (k - (T.base + idx * T.sz + off) - ux.cells.toList.length) = k := by omega
            rw [e]; simpa using hk
        rw [List.getElem?_set] at h
        split at h
        · rename_i hii
          subst hii
          · simp at h
            subst h
            unfold splice at hx'
            rw [List.append_assoc] at hx'
            by_cases h1 : j < off
            · rw [List.getElem?_append_left (by simp; omega), List.getElem?_take, if_pos h1] at hx'
              obtain ⟨g1, u, g2, g3⟩ := (hrow idx r hr).2 j x' hx'
              exact ⟨g1, u, hold u _ g2 (.inl (by rw [hor.sz]; omega)), g3⟩
            · rw [List.getElem?_append_right (by simp; omega)] at hx'
              have e1 : (r.take off).length = off := by simp; omega
              rw [e1] at hx'
              by_cases h2 : j - off < x.cells.length
              · rw [List.getElem?_append_left h2] at hx'
                refine ⟨hxc.2.1 _ (List.mem_of_getElem? hx'), ux.cells[j - off]'(by omega), ?_, hxc.2.2 _ _ _ hx' (by simp)⟩
                simp only [List.getElem?_toArray, List.append_assoc]
                rw [List.getElem?_append_right (by rw [hpre, hor.sz]; omega), hpre]
                have e : T.base + idx * o.sz + j - (T.base + idx * T.sz + off) = j - off := by rw [hor.sz]; omega
                rw [e, List.getElem?_append_left (by simp; omega)]
                simp
              · rw [List.getElem?_append_right (by omega), List.getElem?_drop] at hx'
                have e2 : off + x.cells.length + (j - off - x.cells.length) = j := by omega
                rw [e2] at hx'
                obtain ⟨g1, u, g2, g3⟩ := (hrow idx r hr).2 j x' hx'
                exact ⟨g1, u, hold u _ g2 (.inr (by rw [hor.sz, Array.length_toList]; omega)), g3⟩
        · rename_i hii
          obtain ⟨g0, g⟩ := hrow i' r' h
          obtain ⟨g1, u, g2, g3⟩ := g j x' hx'
          have hj : j < o.sz := by rw [← g0]; exact (List.getElem?_eq_some_iff.1 hx').1
          refine ⟨g1, u, hold u _ g2 ?_, g3⟩
          rw [hor.sz]
          rcases Nat.lt_or_gt_of_ne hii with h1 | h1
          · right
            have : (idx + 1) * o.sz ≤ i' * o.sz := Nat.mul_le_mul_right _ h1
            rw [Nat.add_mul] at this
            rw [Array.length_toList]
            omega
          · left
            have : (i' + 1) * o.sz ≤ idx * o.sz := Nat.mul_le_mul_right _ h1
            rw [Nat.add_mul] at this
            omega⟩
    have hwo := write_obj hk (T' := T) (o' := { o with rows := o.rows.set idx (splice r off x.cells) }) hT ho rfl (.inl rfl) hh hor.sz hor.ver hor.pos (by simpa using hor.cap) (by rw [hsz']; exact hcs)
      (c' := (c.toList.take (T.base + idx * T.sz + off) ++ ux.cells.toList ++ c.toList.drop (T.base + idx * T.sz + off + ux.cells.toList.length)).toArray) hrows
    have hK : K.put i T = K := by
      unfold Ctx.put
      have e1 : (fun j => if j = i then some T else K.φ j) = K.φ := by
        funext j
        split
        · rename_i h; rw [h, hT]
        · rfl
      have e2 : (fun j => K.al j ∨ j = i) = K.al := by
        funext j
        apply propext
        exact ⟨fun h => h.elim id (fun h => by rw [h]; exact hal), .inl⟩
      rw [e1, e2]
    rw [hK] at hwo
    exact ⟨_, hrun, hwo.1, hwo.2⟩
end
end Go.Ilv

/- An operation that calls no Go function: what the evaluator says, the machine does. -/
set_option linter.unusedVariables false
set_option linter.unusedSimpArgs false
namespace Go.Ilv
open Go

section
variable {C : Cfg} {P : Program} {gl : Nat → Option (List V)} {K : Ctx} {s : St} {w w' : World} {e : Env} {a : Act}

/-- Rows filled one behind the other. -/
theorem fill_rows {sz : Nat} : ∀ (us : List (Nat × Value)) (k : Nat) (cs : Array Value), (∀ (j : Nat) (x : Nat × Value), us[j]? = some x → x.1 = k + j ∧ x.2.cells.size = sz) → (k + us.length) * sz ≤ cs.size →
    ∃ q, Instr.fill (fun i => some (i * sz, sz)) cs us = some q ∧ q.toList = cs.toList.take (k * sz) ++ (us.map fun x => x.2.cells.toList).flatten ++ cs.toList.drop ((k + us.length) * sz)
  | [], k, cs, h, hl => ⟨cs, rfl, by simp⟩
  | (i, u) :: us, k, cs, h, hl => by
    obtain ⟨hik, hu⟩ := h 0 (i, u) rfl
    obtain rfl : k = i := by simpa using hik.symm
    simp only at hu
    have hl' : k * sz + sz + us.length * sz ≤ cs.size := by
      simp only [List.length_cons, Nat.add_mul] at hl
      omega
    have hfs := fold_splice u.cells.toList cs (k * sz) 0 (by simp; omega)
    have e1 : u.cells.zipIdx.foldl (fun cs (x : Value × Nat) => cs.setIfInBounds (k * sz + x.2) x.1) cs = (u.cells.toList.zipIdx 0).foldl (fun cs (x : Value × Nat) => cs.setIfInBounds (k * sz + x.2) x.1) cs := by
      rw [← Array.foldl_toList, Array.toList_zipIdx]
    rw [← e1] at hfs
    have hsize : (u.cells.zipIdx.foldl (fun cs (x : Value × Nat) => cs.setIfInBounds (k * sz + x.2) x.1) cs).size = cs.size := by
      rw [← Array.length_toList, hfs]
      simp; omega
    obtain ⟨q, g1, g2⟩ := fill_rows us (k + 1) (u.cells.zipIdx.foldl (fun cs (x : Value × Nat) => cs.setIfInBounds (k * sz + x.2) x.1) cs) (fun j x hx => by
      obtain ⟨h1, h2⟩ := h (j + 1) x (by simpa using hx)
      exact ⟨by omega, h2⟩) (by rw [hsize]; simp only [Nat.add_mul]; omega)
    refine ⟨q, ?_, ?_⟩
    · simp only [Instr.fill]
      rw [if_neg (by simp; omega)]
      exact g1
    · rw [g2, hfs]
      have hul : u.cells.toList.length = sz := by simpa using hu
      have e2 : (k + 1) * sz = k * sz + sz := by rw [Nat.add_mul]; omega
      have e3 : (k + 1 + us.length) * sz = k * sz + sz + us.length * sz := by simp only [Nat.add_mul]; omega
      have e4 : (k + (us.length + 1)) * sz = k * sz + sz + us.length * sz := by simp only [Nat.add_mul]; omega
      simp only [List.map_cons, List.flatten_cons, List.length_cons, Nat.add_zero]
      have hA : (cs.toList.take (k * sz) ++ u.cells.toList).length = (k + 1) * sz := by simp; omega
      have hge : (cs.toList.take (k * sz) ++ u.cells.toList).length ≤ (k + 1 + us.length) * sz := by rw [hA, e2, e3]; omega
      have h2 : ((cs.toList.take (k * sz) ++ u.cells.toList) ++ cs.toList.drop (k * sz + u.cells.toList.length)).drop ((k + 1 + us.length) * sz) = cs.toList.drop ((k + (us.length + 1)) * sz) := by
        rw [List.drop_append, List.drop_of_length_le hge, List.nil_append, List.drop_drop, hA, hul]
        congr 1
        rw [e3, e4, e2]
        omega
      rw [h2, List.take_left' hA]
      simp only [List.append_assoc]

theorem partsIn_get : ∀ (l : List (Nat × V)) (n : Nat), partsIn n l = true → ∀ j x, l[j]? = some x → x.1 = n + j
  | [], n, _, j, x, h => by simp at h
  | (i, v) :: r, n, hp, j, x, h => by
    simp only [partsIn, Bool.and_eq_true, decide_eq_true_eq] at hp
    cases j with
    | zero => simp at h; subst h; exact hp.1
    | succ j =>
      have := partsIn_get r (n + 1) hp.2 j x (by simpa using h)
      omega

theorem LRel.get {xs : List V} {us : List Value} (h : LRel K w xs us) {i : Nat} {x : V} (hx : xs[i]? = some x) : ∃ u, us[i]? = some u ∧ VRel K w x u := by
  have hi : i < us.length := by rw [← h.1]; exact (List.getElem?_eq_some_iff.1 hx).1
  exact ⟨us[i], List.getElem?_eq_getElem hi, h.2 i x _ hx (List.getElem?_eq_getElem hi)⟩

theorem sliceOfRows_all {frz : Bool} {id sz : Nat} {xs : List V} {r : V × Eff} (h : sliceOfRows frz id sz xs = some r) : ∀ x ∈ xs, x.storable = true ∧ x.cells.length = sz := by
  unfold sliceOfRows at h
  split at h
  · rename_i hall
    intro x hx
    have := List.all_eq_true.1 hall x hx
    simpa using this
  · cases h

theorem buildSlice_rel (hC : CfgOk C P) (hk : RelW gl K s w) {t el : TypeId} (ht : P.underlying t = some (.slice el)) {y : Ty} (hy : C.ty el = some y) (h0 : y.size ≠ 0) {n : Nat} {parts : List (Nat × V)} {us : List (Nat × Value)}
    (hi : parts.map (·.1) = us.map (·.1)) (hl : LRel K w (parts.map (·.2)) (us.map (·.2))) (hn : parts.length = n) (hpi : partsIn 0 parts = true) (hsm : n * y.size ≤ 16777216) (hn0 : n ≠ 0)
    {frz : Bool} {id : Nat} (hid : ¬ K.al id) {v : V} {eff : Eff} (h : sliceOfRows frz id y.size (parts.map (·.2)) = some (v, eff)) :
    OpDone gl K s w id v eff ((Instr.buildSlice t n us.toArray).run P w) := by
  obtain ⟨i, z, h1, h2, h3, h4, h5, h6⟩ := (hC.ty el y hy).z
  have hall := sliceOfRows_all h
  have hul : us.length = n := by rw [← hn, ← List.length_map (f := (·.1)) (as := parts), hi, List.length_map]
  have hus : ∀ (j : Nat) (x : Nat × Value), us[j]? = some x → x.1 = 0 + j ∧ x.2.cells.size = y.size := by
    intro j x hx
    have hj : j < parts.length := by rw [hn, ← hul]; exact (List.getElem?_eq_some_iff.1 hx).1
    have hp := List.getElem?_eq_getElem hj
    have e1 : (parts.map (·.1))[j]? = some parts[j].1 := by rw [List.getElem?_map, hp]; rfl
    rw [hi, List.getElem?_map, hx] at e1
    simp at e1
    refine ⟨by rw [e1]; exact partsIn_get parts 0 hpi j _ hp, ?_⟩
    have e2 : (parts.map (·.2))[j]? = some parts[j].2 := by rw [List.getElem?_map, hp]; rfl
    have e3 : (us.map (·.2))[j]? = some x.2 := by rw [List.getElem?_map, hx]; rfl
    have hr := hl.2 j _ _ e2 e3
    obtain ⟨g1, g2⟩ := hall _ (List.mem_of_getElem? e2)
    have := (hr.cells g1).1
    rw [← g2]; simpa using this.symm
  have hbig : ((Array.range (n * y.size)).map (z.cells[· % z.cells.size]!)).size = n * y.size := by simp
  obtain ⟨q, g1, g2⟩ := fill_rows us 0 ((Array.range (n * y.size)).map (z.cells[· % z.cells.size]!)) hus (by rw [hbig, hul, Nat.zero_add]; exact Nat.le_refl _)
  have hrl : ∀ r ∈ us.map (fun x => x.2.cells.toList), r.length = y.size := by
    intro r hr
    obtain ⟨x, hx, rfl⟩ := List.mem_map.1 hr
    obtain ⟨j, hj⟩ := List.getElem?_of_mem hx
    simpa using (hus j x hj).2
  have hq : q.toList = (us.map fun x => x.2.cells.toList).flatten := by
    rw [g2]
    simp only [Nat.zero_mul, List.take_zero, List.nil_append, Nat.zero_add, hul]
    rw [List.drop_of_length_le (by simp), List.append_nil]
  have hnz : n * y.size ≠ 0 := Nat.mul_ne_zero hn0 h0
  have hrun : (Instr.buildSlice t n us.toArray).run P w = .ok (.slice (some ⟨w.heap.size, 0, none⟩) n n) (w.alloc (.cells q el)) := by
    have hsm' : ¬ (16777216 < n * y.size) := by omega
    simp only [Instr.buildSlice, Sem.run_bind, r_under ht, Result.andThen_ok, (hC.ty el y hy).run_size]
    simp [hsm', hnz, r_zero h1 h4, g1, newRow]
  have hplen : (parts.map (·.2)).length = n := by simp [hn]
  obtain ⟨K', e1, e2, e3, e4⟩ := made hk h (by omega) hid (vals := fun i j => ((us[i]?).bind fun x => x.2.cells.toList[j]?).getD Go.undef) (fun i x j c hx hc => by
      obtain ⟨u, hu, hr⟩ := hl.get hx
      rw [List.getElem?_map] at hu
      cases hq' : us[i]? with
      | none => simp [hq'] at hu
      | some p =>
        simp [hq'] at hu
        have hcr := hr.cells (hall x (List.mem_of_getElem? hx)).1
        have hj : j < u.cells.toList.length := by rw [← hcr.1]; exact (List.getElem?_eq_some_iff.1 hc).1
        refine ⟨hcr.2.1 c (List.mem_of_getElem? hc), ?_⟩
        have := hcr.2.2 j c _ hc (List.getElem?_eq_getElem hj)
        simp only [Option.bind_some, hu]
        rw [List.getElem?_eq_getElem hj]
        exact this) (fun x hx hf => by
      obtain ⟨j, hj⟩ := List.getElem?_of_mem hx
      obtain ⟨u, _, hr⟩ := hl.get hj
      exact hr.flat_noIds hf) (newer_alloc (w := w) q el) (cap := n) (by rw [hplen]; omega) (by
      rw [← Array.length_toList, hq, rows_len _ hrl]; simp [hul]) (fun i j hi' hj' => by
      rw [← Array.getElem?_toList, hq, rows_get _ hrl i j hj', List.getElem?_map]
      have hi2 : i < us.length := by rw [hul, ← hplen]; exact hi'
      rw [List.getElem?_eq_getElem hi2]
      have hj2 : j < us[i].2.cells.toList.length := by
        have := (hus i _ (List.getElem?_eq_getElem hi2)).2
        simp; omega
      simp only [Option.map_some, Option.bind_some]
      rw [List.getElem?_eq_getElem hj2]
      rfl)
  rw [hrun]
  refine ⟨K', _, _, rfl, e1, e2, ?_, e4⟩
  rw [hplen] at e3
  exact e3

theorem ofCells_cells {agg : Bool} {cs : List V} {z : V} (h : ofCells agg cs = some z) (hl : ∀ c ∈ cs, c.leaf = true) : z.cells = cs := by
  unfold ofCells at h
  cases agg with
  | true => simp at h; subst h; rfl
  | false =>
    simp at h
    match cs, h, hl with
    | [c], h, hl => simp at h; subst h; exact V.leaf_cells (hl c (by simp))

theorem makeSlice_rel (hC : CfgOk C P) (hk : RelW gl K s w) {t el : TypeId} (ht : P.underlying t = some (.slice el)) {y : Ty} (hy : C.ty el = some y) (h0 : y.size ≠ 0) {n m : Int} {kn km : IntKind} (hn : 0 ≤ n) (hnm : n ≤ m)
    (hroom : roomOk m.toNat y.bytes = true) {z : V} (hz : ofCells y.kind.agg y.zero = some z) {frz : Bool} {id : Nat} (hid : ¬ K.al id) {v : V} {eff : Eff} (h : sliceOfRows frz id y.size (List.replicate n.toNat z) = some (v, eff)) :
    OpDone gl K s w id v eff ((Instr.makeSlice t (.int kn n) (.int km m)).run P w) := by
  obtain ⟨i, zv, h1, h2, h3, h4, h5, h6⟩ := (hC.ty el y hy).z
  obtain ⟨r1, r2⟩ := roomOk_spec hroom
  have hzr := h6 K w
  have hzc := ofCells_cells hz hzr.2.1
  have hr := run_make (P := P) w t el i zv ht h1 h4 kn km n m hn hnm (by
    have : ((m.toNat * y.bytes : Nat) : Int) ≤ ((35184372088832 : Nat) : Int) := Int.ofNat_le.2 r2
    rw [Int.natCast_mul] at this
    have e : ((m.toNat : Nat) : Int) = m := by omega
    rw [e] at this
    rw [h3, Int.mul_comm]
    omega) (by omega)
  rw [h2] at hr
  have hlen : (List.replicate n.toNat z).length = n.toNat := by simp
  have hzlen : y.zero.length = y.size := by rw [hzr.1]; simpa using h5
  obtain ⟨K', e1, e2, e3, e4⟩ := made hk h (by omega) hid (vals := fun _ j => (zv.cells[j]?).getD Go.undef) (fun i' x j c hx hc => by
      have : x = z := List.eq_of_mem_replicate (List.mem_of_getElem? hx)
      subst this
      rw [hzc] at hc
      have hj : j < y.zero.length := (List.getElem?_eq_some_iff.1 hc).1
      refine ⟨hzr.2.1 c (List.mem_of_getElem? hc), ?_⟩
      have hj2 : j < zv.cells.size := by omega
      have := hzr.2.2 j c zv.cells[j] hc (by simp)
      rw [Array.getElem?_eq_getElem hj2]
      exact this) (fun x hx hf => by
      have : x = z := List.eq_of_mem_replicate hx
      subst this
      refine noIds_of_cells (K := K) (w := w) hf fun j c hc => ?_
      rw [hzc] at hc
      have hj2 : j < zv.cells.toList.length := by rw [← hzr.1]; exact (List.getElem?_eq_some_iff.1 hc).1
      exact ⟨_, hzr.2.2 j c _ hc (List.getElem?_eq_getElem hj2)⟩) (newer_alloc (w := w) (madeCells zv.cells (m.toNat * y.size)) el) (cap := m.toNat) (by rw [hlen]; omega) (by rw [size_madeCells]; exact Nat.le_refl _) (fun i' j hi' hj' => by
      rw [hlen] at hi'
      have hlt : i' * y.size + j < m.toNat * y.size := by
        have : (i' + 1) * y.size ≤ m.toNat * y.size := Nat.mul_le_mul_right _ (by omega)
        rw [Nat.add_mul] at this
        omega
      have hmod : (i' * y.size + j) % zv.cells.size = j := by rw [h5, Nat.mul_comm, Nat.mul_add_mod, Nat.mod_eq_of_lt hj']
      have hj2 : j < zv.cells.size := by omega
      simp only [madeCells, Array.getElem?_map, Array.getElem?_range, hlt, if_true, Option.map_some, hmod]
      rw [Array.getElem?_eq_getElem hj2]
      simp [hj2])
  rw [hr]
  refine ⟨K', _, _, rfl, e1, e2, ?_, e4⟩
  rw [hlen] at e3
  exact e3

theorem popnds_rel (hk : RelW C.glob K s w) (he : ERel K w e a) : ∀ {l : List (Nat × Operand)} {vs : List (Nat × V)}, popnds C e l = some vs →
    vs.map (·.1) = (l.map fun x => (x.1, a.eval x.2)).map (·.1) ∧ LRel K w (vs.map (·.2)) ((l.map fun x => (x.1, a.eval x.2)).map (·.2))
  | [], vs, h => by simp [popnds] at h; subst h; exact ⟨rfl, .nil⟩
  | (i, x) :: r, vs, h => by
    simp only [popnds] at h
    split at h
    · rename_i v l' h1 h2
      simp at h; subst h
      obtain ⟨g1, g2⟩ := popnds_rel hk he h2
      exact ⟨by simp [g1], .cons (opnd_rel hk he h1) g2⟩
    · simp at h
theorem oopnd_rel (hk : RelW C.glob K s w) (he : ERel K w e a) {x : Option Operand} {v : Option V} (h : oopnd C e x = some v) :
    (∀ v', v = some v' → ∃ u', x.map a.eval = some u' ∧ VRel K w v' u') ∧ (v = none → x.map a.eval = none) := by
  cases x with
  | none => simp [oopnd] at h; subst h; simp
  | some x =>
    simp only [oopnd] at h
    split at h
    · rename_i v' hv
      simp at h; subst h
      exact ⟨fun v2 h2 => ⟨_, rfl, by simp at h2; subst h2; exact opnd_rel hk he hv⟩, by simp⟩
    · cases h

def notStore (o : Oper) : Bool := match o.op with
  | .store .. => false
  | _ => true
/-- What a plain operation comes to, at the machine's level. -/
def PrimDone (P : Program) (gl : Nat → Option (List V)) (K : Ctx) (s : St) (w : World) (id : Nat) (v : V) (eff : Eff) (o : Oper) (a : Act) : Prop :=
  ∃ K' w' u, ((execOp a.eval o).run P w = .ok (.value u) w' ∨ ((execOp a.eval o).run P w = .ok .skip w' ∧ u = Go.undef)) ∧ Stp K w K' w' ∧ RelW gl K' (eff.on s) w' ∧ VRel K' w' v u ∧
    ∀ j, K'.al j → K.al j ∨ (j = id ∧ notStore o = true ∧ ∃ o, eff = .set id o)
theorem PrimDone.of_val {o : Oper} {id : Nat} {v : V} {u : Value} (hk : RelW gl K s w) (h : (execOp a.eval o).run P w = .ok (.value u) w) (hv : VRel K w v u) : PrimDone P gl K s w id v .none o a :=
  ⟨K, w, u, .inl h, Stp.refl _ _, hk, hv, fun j h => .inl h⟩
theorem PrimDone.of_done {o : Oper} {id : Nat} {v : V} {eff : Eff} {x : Sem Value} (h : OpDone gl K s w id v eff (x.run P w)) (hns : notStore o = true) (he : execOp a.eval o = (do pure (.value (← x)))) : PrimDone P gl K s w id v eff o a := by
  obtain ⟨K', w', u, h1, h2, h3, h4, h5⟩ := h
  refine ⟨K', w', u, .inl ?_, h2, h3, h4, fun j hj => (h5 j hj).imp_right fun h => ⟨h.1, hns, h.2⟩⟩
  rw [he]
  simp [h1]
theorem PrimDone.of_run {o : Oper} {id : Nat} {v : V} {x : Sem Value} (hk : RelW gl K s w) (h : ∃ r, x.run P w = .ok r w ∧ VRel K w v r) (he : execOp a.eval o = (do pure (.value (← x)))) : PrimDone P gl K s w id v .none o a := by
  obtain ⟨r, h1, h2⟩ := h
  refine ⟨K, w, r, .inl ?_, Stp.refl _ _, hk, h2, fun j h => .inl h⟩
  rw [he]
  simp [h1]

theorem prim_rel (hC : CfgOk C P) (hk : RelW C.glob K s w) (he : ERel K w e a) {o : Oper} {frz : Bool} {id : Nat} (hid : ¬ K.al id) {v : V} {eff : Eff} (h : prim C frz e s id o.op = some (v, eff)) :
    PrimDone P C.glob K s w id v eff o a := by
  have hq : ∀ {x : Option V}, x.map (fun v => (v, Eff.none)) = some (v, eff) → x = some v ∧ eff = .none := by
    intro x hx
    cases x with
    | none => simp at hx
    | some x => simp at hx; exact ⟨by rw [hx.1], hx.2.symm⟩
  unfold prim at h
  simp only at h
  split at h
  · -- move
    rename_i x hop
    obtain ⟨h1, rfl⟩ := hq h
    exact .of_val hk (by simp [execOp, hop]) (opnd_rel hk he h1)
  · rename_i x hop
    obtain ⟨h1, rfl⟩ := hq h
    exact .of_val hk (by simp [execOp, hop]) (opnd_rel hk he h1)
  · -- pick
    rename_i c x y hop
    split at h
    · rename_i t vx vy hc hx hy
      simp at h; obtain ⟨rfl, rfl⟩ := h
      have hcr := opnd_rel hk he hc
      have hxr := opnd_rel hk he hx
      have hyr := opnd_rel hk he hy
      generalize hgc : a.eval c = uc at hcr
      cases hcr
      refine .of_val (u := if t then a.eval x else a.eval y) hk (by simp [execOp, hop, hgc, asBool]) ?_
      cases t <;> simpa
    · rename_i vx hc hx hy
      simp at h; obtain ⟨rfl, rfl⟩ := h
      have hcr := opnd_rel hk he hc
      generalize hgc : a.eval c = uc at hcr
      cases hcr
      exact .of_val hk (by simp [execOp, hop, hgc, asBool]) (opnd_rel hk he hx)
    · rename_i vy hc hx hy
      simp at h; obtain ⟨rfl, rfl⟩ := h
      have hcr := opnd_rel hk he hc
      generalize hgc : a.eval c = uc at hcr
      cases hcr
      exact .of_val hk (by simp [execOp, hop, hgc, asBool]) (opnd_rel hk he hy)
    · cases h
  · -- alloc
    rename_i t hop
    split at h
    · rename_i y hy
      split at h
      · cases h
      · rename_i h0
        simp at h; obtain ⟨rfl, rfl⟩ := h
        exact .of_done (alloc_rel hC hk hy h0 hid) (by simp [notStore, hop]) (by simp only [execOp, hop])
    · cases h
  · -- box
    rename_i t x hop
    split at h
    · rename_i y vx hy hx
      split at h
      · cases h
      · rename_i h0
        split at h
        · rename_i hb
          simp only [Bool.and_eq_true, decide_eq_true_eq] at hb
          simp at h; obtain ⟨rfl, rfl⟩ := h
          have := box_rel (P := P) (t := t) hC hk (opnd_rel hk he hx) hb.1 (by omega) hid
          rw [hb.2] at this
          exact .of_done this (by simp [notStore, hop]) (by simp only [execOp, hop])
        · cases h
    · cases h
  · -- build
    rename_i t ps hop
    split at h
    · rename_i l hl
      obtain ⟨h1, rfl⟩ := hq h
      obtain ⟨g1, g2⟩ := popnds_rel hk he hl
      have := build_rel hC g1 g2 h1
      refine .of_run hk this ?_
      simp only [execOp, hop]
      congr 3
      rw [← List.map_toArray, Array.toArray_toList]
    · cases h
  · -- buildSlice
    rename_i t n ps hop
    split at h
    · rename_i el sz by_ zr l hty hl
      split at h
      · rename_i y hy
        split at h
        · rename_i hn0
          split at h
          · rename_i hemp
            simp at h; obtain ⟨rfl, rfl⟩ := h
            have hl0 : l = [] := by simpa using hemp
            subst hl0
            have hps : ps = #[] := by
              cases ps with
              | mk ps => cases ps with
                | nil => rfl
                | cons p r => obtain ⟨i, x⟩ := p; simp only [popnds] at hl; split at hl <;> simp at hl
            subst hps
            subst hn0
            have hw := newer_alloc (w := w) #[] el
            refine ⟨K, w.alloc (.cells #[] el), .slice (some ⟨w.heap.size, 0, none⟩) 0 0, .inl ?_, hw.stp, hk.same hw.stp (fun id T hT => hw.old _ (hk.blk_lt hT)), .nils _, fun j h => .inl h⟩
            simp [execOp, hop, Instr.buildSlice, r_under ((hC.ty t _ hty).sl rfl), (hC.ty el y hy).run_size, Instr.fill, newRow, Array.range_zero']
          · cases h
        · rename_i hn0
          split at h
          · cases h
          · rename_i h0
            split at h
            · rename_i hb
              simp only [Bool.and_eq_true, decide_eq_true_eq] at hb
              obtain ⟨⟨hb1, hb2⟩, hb3⟩ := hb
              obtain ⟨g1, g2⟩ := popnds_rel hk he hl
              have := buildSlice_rel hC hk ((hC.ty t _ hty).sl rfl) hy h0 g1 g2 hb1 hb2 hb3 hn0 hid h
              refine .of_done this (by simp [notStore, hop]) ?_
              simp only [execOp, hop]
              congr 3
              rw [← List.map_toArray, Array.toArray_toList]
            · cases h
      · cases h
    · cases h
  · -- load
    rename_i t x hop
    split at h
    · rename_i y p hy hx
      split at h
      · rename_i cs hcs
        obtain ⟨h1, rfl⟩ := hq h
        obtain ⟨b, o', us, g1, g2, g3, g4⟩ := rd_rel hk (opnd_rel hk he hx) hcs
        obtain ⟨u, e1, e2, e3⟩ := VRel.ofCells g3 h1
        obtain ⟨f1, f2⟩ := r_loadVar (P := P) (hC.ty t y hy) g4 g2
        refine .of_run hk ⟨u, ?_, e1⟩ (x := Instr.loadAt t (a.eval x)) (by simp only [execOp, hop])
        rw [g1]
        simp only [Instr.loadAt, Instr.sureAddr, Sem.run_bind, Sem.run_pure, Result.andThen_ok]
        cases hag : y.kind.agg with
        | true => rw [f1 hag, e2 hag]
        | false => exact f2 hag u (e3 hag)
      · cases h
    · cases h
  · -- store
    rename_i t p x hop
    split at h
    · rename_i y i ver idx off vx hy hp hx
      split at h
      · rename_i hb
        simp only [Bool.and_eq_true, decide_eq_true_eq] at hb
        split at h
        · rename_i ob hob
          split at h
          · rename_i hv
            split at h
            · rename_i r hr
              split at h
              · rename_i hle
                simp at h; obtain ⟨rfl, rfl⟩ := h
                obtain ⟨w', g1, g2, g3⟩ := store_rel (P := P) (t := t) hC hk hy (opnd_rel hk he hp) (opnd_rel hk he hx) hb.1 hb.2 hob hv hr hle
                refine ⟨K, w', Go.undef, .inr ⟨?_, rfl⟩, g2, g3, .undef, fun j h => .inl h⟩
                simp [execOp, hop, g1]
              · cases h
            · cases h
          · cases h
        · cases h
      · cases h
    · cases h
  · -- nilCheck
    rename_i x hop
    split at h
    · rename_i i1 i2 i3 i4 hx
      simp at h; obtain ⟨rfl, rfl⟩ := h
      have hxr := opnd_rel hk he hx
      generalize hg : a.eval x = u at hxr
      have hxr' := hxr
      cases hxr' <;> exact .of_val hk (by simp [execOp, hop, hg]) hxr
    · rename_i cs hx
      simp at h; obtain ⟨rfl, rfl⟩ := h
      have hxr := opnd_rel hk he hx
      generalize hg : a.eval x = u at hxr
      have hxr' := hxr
      cases hxr'; exact .of_val hk (by simp [execOp, hop, hg]) hxr
    · rename_i f c hx
      simp at h; obtain ⟨rfl, rfl⟩ := h
      have hxr := opnd_rel hk he hx
      generalize hg : a.eval x = u at hxr
      have hxr' := hxr
      cases hxr'; exact .of_val hk (by simp [execOp, hop, hg]) hxr
    · cases h
  · -- binOp
    rename_i op t x y yt hop
    split at h
    · rename_i vx vy hx hy
      obtain ⟨h1, rfl⟩ := hq h
      split at h1
      · rename_i hnil
        unfold isNilS at hnil
        split at hnil
        · obtain ⟨r, g1, g2, g3⟩ := nilCmp_rel hC (opnd_rel hk he hx) h1 x (.const (.slice none 0 0))
          exact .of_val hk (by simp [execOp, hop, Act.eval]; simp [Act.eval] at g1 g2; simp [g1, g2]) g3
        · cases hnil
      · obtain ⟨r, g1, g2, g3⟩ := bin_rel hC (opnd_rel hk he hx) (opnd_rel hk he hy) h1 x y
        exact .of_val hk (by simp [execOp, hop, g1, g2]) g3
    · cases h
  · -- unOp
    rename_i op t x hop
    split at h
    · rename_i vx hx
      obtain ⟨h1, rfl⟩ := hq h
      obtain ⟨r, g1, g2⟩ := un_rel (P := P) (opnd_rel hk he hx) h1
      exact .of_val hk (by simp [execOp, hop, g1]) g2
    · cases h
  · -- convert
    rename_i t1 t2 x hop
    split at h
    · rename_i y1 k sz by_ zr ks n h1 h2 hx
      simp at h; obtain ⟨rfl, rfl⟩ := h
      have hxr := opnd_rel hk he hx
      generalize hg : a.eval x = u at hxr
      cases hxr
      obtain ⟨d1, u1, _⟩ := (hC.ty t1 y1 h1).under
      obtain ⟨d2, u2, k2⟩ := (hC.ty t2 _ h2).under
      simp only [KOk] at k2
      subst k2
      exact .of_val hk (by simp [execOp, hop, hg, convert, r_under u1, r_under u2, Conv.intToInt]) (.int _ _)
    · rename_i y1 sz by_ zr str h1 h2 hx
      simp at h; obtain ⟨rfl, rfl⟩ := h
      have hxr := opnd_rel hk he hx
      generalize hg : a.eval x = u at hxr
      cases hxr
      obtain ⟨d1, u1, _⟩ := (hC.ty t1 y1 h1).under
      obtain ⟨d2, u2, k2⟩ := (hC.ty t2 _ h2).under
      simp only [KOk] at k2
      subst k2
      exact .of_val hk (by simp [execOp, hop, hg, convert, r_under u1, r_under u2]) (.str _)
    · cases h
  · -- makeFunc
    rename_i f first cap hop
    split at h
    · rename_i hf
      split at h
      · rename_i l hl
        simp at h; obtain ⟨rfl, rfl⟩ := h
        have hlr := opnds_rel hk he hl
        have hfirst : first = #[] := by simpa using hf
        subst hfirst
        refine .of_val (u := .func (.func f) #[] (cap.toList.map a.eval).toArray) hk ?_ (.fn f l _ hlr.1 hlr.2)
        have e : cap.map a.eval = (cap.toList.map a.eval).toArray := by rw [← List.map_toArray, Array.toArray_toList]
        simp only [execOp, hop, Instr.makeFunc, e, Array.map_empty]
        rfl
      · cases h
    · cases h
  · -- makeSlice
    rename_i t l c hop
    split at h
    · rename_i el sz by_ zr kn n km m hty hl hc
      split at h
      · rename_i y hy
        split at h
        · rename_i hb
          obtain ⟨h0, hn, hnm, hroom⟩ := hb
          split at h
          · rename_i z hz
            have hlr := opnd_rel hk he hl
            have hcr := opnd_rel hk he hc
            generalize hg1 : a.eval l = ul at hlr
            generalize hg2 : a.eval c = uc at hcr
            cases hlr; cases hcr
            have := makeSlice_rel (kn := kn) (km := km) hC hk ((hC.ty t _ hty).sl rfl) hy h0 hn hnm hroom hz hid h
            exact .of_done this (by simp [notStore, hop]) (by simp only [execOp, hop, hg1, hg2])
          · cases h
        · cases h
      · cases h
    · cases h
  · -- slice
    rename_i t x lo hi mx hop
    split at h
    · rename_i vx vl vh vm hx hl hh hm
      obtain ⟨h1, rfl⟩ := hq h
      obtain ⟨l1, l2⟩ := oopnd_rel hk he hl
      obtain ⟨m1, m2⟩ := oopnd_rel hk he hh
      obtain ⟨n1, n2⟩ := oopnd_rel hk he hm
      exact .of_run hk (sliceOp_rel hC (opnd_rel hk he hx) l1 l2 m1 m2 n1 n2 h1) (by simp only [execOp, hop])
    · cases h
  · -- fieldAddr
    rename_i t x f hop
    split at h
    · rename_i p hx
      obtain ⟨h1, rfl⟩ := hq h
      exact .of_run hk (fieldAddr_rel hC (opnd_rel hk he hx) h1) (by simp only [execOp, hop])
    · cases h
  · rename_i t x f hop
    split at h
    · rename_i p hx
      obtain ⟨h1, rfl⟩ := hq h
      exact .of_run hk (field_rel hC (opnd_rel hk he hx) h1) (by simp only [execOp, hop])
    · cases h
  · rename_i t x i hop
    split at h
    · rename_i p n hx hn
      obtain ⟨h1, rfl⟩ := hq h
      exact .of_run hk (indexAddr_rel hC (opnd_rel hk he hx) (opnd_rel hk he hn) h1) (by simp only [execOp, hop])
    · cases h
  · rename_i t x i hop
    split at h
    · rename_i p n hx hn
      obtain ⟨h1, rfl⟩ := hq h
      exact .of_run hk (index_rel hC (opnd_rel hk he hx) (opnd_rel hk he hn) h1) (by simp only [execOp, hop])
    · cases h
  · -- extract
    rename_i x i hop
    split at h
    · rename_i vs hx
      obtain ⟨h1, rfl⟩ := hq h
      have hxr := opnd_rel hk he hx
      generalize hg : a.eval x = u at hxr
      cases hxr with
      | tup _ us hl hh =>
        obtain ⟨u, hu, hr⟩ := LRel.get ⟨hl, hh⟩ h1
        exact .of_val hk (by simp [execOp, hop, hg, Instr.extract, hu]) hr
    · cases h
  · -- built-in functions
    rename_i b args argTypes hop
    have hex : ∀ (x : Sem Value), builtin b argTypes o.type (args.map fun | .const _ => true | _ => false) (args.toList.map a.eval).toArray = (do pure (.value (← x))) → execOp a.eval o = (do pure (.value (← x))) := by
      intro x hx
      have e : args.map a.eval = (args.toList.map a.eval).toArray := by rw [← List.map_toArray, Array.toArray_toList]
      simp only [execOp, hop, resolve, e]
      exact hx
    split at h
    · split at h
      · rename_i t x ht hx
        obtain ⟨h1, rfl⟩ := hq h
        have hxr := opnds_rel hk he hx
        have hat : argTypes = #[t] := by rw [← Array.toArray_toList (xs := argTypes), ht]
        subst hat
        match hm : args.toList.map a.eval, hxr with
        | [u], hxr => exact .of_run hk (lenOp_rel (ty := o.type) hC hxr.head h1) (hex _ (by rw [hm]; rfl))
        | [], hxr => exact absurd hxr.1 (by simp)
        | _ :: _ :: _, hxr => exact absurd hxr.1 (by simp)
      · cases h
    · split at h
      · rename_i t u x y ht hx
        split at h
        · rename_i el sz by_ zr el2 sz2 by2 zr2 ht1 ht2
          split at h
          · rename_i htu
            subst htu
            have hat : argTypes = #[t, t] := by rw [← Array.toArray_toList (xs := argTypes), ht]
            subst hat
            have hxr := opnds_rel hk he hx
            match hm : args.toList.map a.eval, hxr with
            | [u1, u2], hxr => exact .of_done (append_rel (tt := o.type) hC hk ((hC.ty t _ ht1).sl rfl) hxr.head hxr.tail.head hid h) (by simp [notStore, hop]) (hex _ (by rw [hm]; rfl))
            | [], hxr => exact absurd hxr.1 (by simp)
            | [_], hxr => exact absurd hxr.1 (by simp)
            | _ :: _ :: _ :: _, hxr => exact absurd hxr.1 (by simp)
          · cases h
        · cases h
      · cases h
    · split at h
      · rename_i l hx
        obtain ⟨h1, rfl⟩ := hq h
        have hxr := opnds_rel hk he hx
        unfold foldMax at h1
        split at h1
        · rename_i k n r
          match hm : args.toList.map a.eval, hxr with
          | [], hxr => exact absurd hxr.1 (by simp)
          | u :: us, hxr =>
            have hh := hxr.head
            cases hh
            obtain ⟨q, g1, g2⟩ := foldInt_rel (P := P) true r us n v hxr.tail (by simpa using h1)
            exact .of_run hk ⟨q, by simpa using g1, g2⟩ (hex _ (by rw [hm]; rfl))
        · cases h1
      · cases h
    · split at h
      · rename_i l hx
        obtain ⟨h1, rfl⟩ := hq h
        have hxr := opnds_rel hk he hx
        unfold foldMax at h1
        split at h1
        · rename_i k n r
          match hm : args.toList.map a.eval, hxr with
          | [], hxr => exact absurd hxr.1 (by simp)
          | u :: us, hxr =>
            have hh := hxr.head
            cases hh
            obtain ⟨q, g1, g2⟩ := foldInt_rel (P := P) false r us n v hxr.tail (by simpa using h1)
            exact .of_run hk ⟨q, by simpa using g1, g2⟩ (hex _ (by rw [hm]; rfl))
        · cases h1
      · cases h
    · split at h
      · rename_i t x ht hx
        obtain ⟨h1, rfl⟩ := hq h
        have hxr := opnds_rel hk he hx
        have hat : argTypes = #[t] := by rw [← Array.toArray_toList (xs := argTypes), ht]
        subst hat
        match hm : args.toList.map a.eval, hxr with
        | [u], hxr => exact .of_run hk (capOp_rel (ty := o.type) hC hxr.head h1) (hex _ (by rw [hm]; rfl))
        | [], hxr => exact absurd hxr.1 (by simp)
        | _ :: _ :: _, hxr => exact absurd hxr.1 (by simp)
      · cases h
    · cases h
  · cases h
end
end Go.Ilv
