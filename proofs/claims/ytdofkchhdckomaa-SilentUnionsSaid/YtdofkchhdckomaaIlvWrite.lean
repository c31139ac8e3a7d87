/- The operations that make or change objects. -/
import Derived.Test.YtdofkchhdckomaaIlvOps4
set_option linter.unusedVariables false
set_option linter.unusedSimpArgs false
namespace Go.Ilv
open Go

theorem rows_get {α : Type} {sz : Nat} : ∀ (L : List (List α)), (∀ r ∈ L, r.length = sz) → ∀ (i j : Nat), j < sz → L.flatten[i * sz + j]? = (L[i]?).bind (·[j]?)
  | [], _, i, j, _ => by simp
  | r :: L, h, 0, j, hj => by
    have : r.length = sz := h r (by simp)
    simp only [Nat.zero_mul, Nat.zero_add, List.flatten_cons, List.getElem?_cons_zero, Option.bind_some]
    exact List.getElem?_append_left (by omega)
  | r :: L, h, i + 1, j, hj => by
    have h1 : r.length = sz := h r (by simp)
    have ih := rows_get L (fun x hx => h x (by simp [hx])) i j hj
    simp only [List.flatten_cons, List.getElem?_cons_succ]
    rw [List.getElem?_append_right (by rw [h1, Nat.add_mul]; omega), ← ih]
    congr 1
    rw [h1, Nat.add_mul]
    omega
theorem rows_len {α : Type} {sz : Nat} : ∀ (L : List (List α)), (∀ r ∈ L, r.length = sz) → L.flatten.length = L.length * sz
  | [], _ => by simp
  | r :: L, h => by
    have h1 : r.length = sz := h r (by simp)
    simp only [List.flatten_cons, List.length_append, rows_len L (fun x hx => h x (by simp [hx])), h1, List.length_cons, Nat.add_mul]
    omega

section
variable {C : Cfg} {P : Program} {gl : Nat → Option (List V)} {K : Ctx} {s : St} {w w' : World} {e : Env} {a : Act}

theorem VRel.flat_noIds {x : V} {u : Value} (h : VRel K w x u) (hf : x.flat = true) : x.noIds = true := by
  cases h with
  | agg cs us hl hfl hh =>
    rw [V.noIds]
    refine V.noIdsL_of fun c hc => ?_
    simp only [V.flat, List.all_eq_true] at hf
    have h1 := hf c hc
    obtain ⟨i, hi, rfl⟩ := List.getElem_of_mem hc
    have h2 := hh i _ _ (List.getElem?_eq_getElem hi) (List.getElem?_eq_getElem (by rw [← hl]; exact hi))
    generalize cs[i] = c at *
    generalize us[i] = u at *
    cases h2 <;> first
      | rfl
      | (simp at h1; done)
      | (rename_i hx _ _; rw [V.noIds]; exact V.noIdsL_of fun x hx' => (hx x hx').2.2)
      | (rename_i hn _ _; rw [V.noIds]; exact V.noIdsL_of fun x hx' => (hn x hx').2)
  | lit xs b o sz cap vals hb hc hx hcell hrel => rw [V.noIds]; exact V.noIdsL_of fun x hx' => (hx x hx').2.2
  | cptr cs b o vals hb hn hcell hrel => rw [V.noIds]; exact V.noIdsL_of fun x hx' => (hn x hx').2
  | _ => first | rfl | (simp [V.flat] at hf)

theorem norm1_rel {x : V} {u : Value} (h : VRel K w x u) : VRel K w x.norm1 u := by
  by_cases hn : x = .nils
  · subst hn
    cases h
    exact .lit0 _ _
  · have : x.norm1 = x := by cases x <;> first | rfl | exact absurd rfl hn
    rw [this]
    exact h
theorem norm1_leaf {x : V} (h : x.leaf = true) : x.norm1.leaf = true := by cases x <;> first | exact h | rfl
theorem norm1_noIds {x : V} (h : x.noIds = true) : x.norm1.noIds = true := by cases x <;> first | exact h | rfl
theorem norm_cells {x : V} (h : x.storable = true) : x.norm.cells = x.cells.map V.norm1 ∧ x.norm.storable = true := by
  rcases V.leaf_or h with hl | ⟨cs, rfl⟩
  · cases x <;> first | exact ⟨rfl, rfl⟩ | (simp [V.leaf] at hl)
  · exact ⟨rfl, rfl⟩
theorem norm_noIds {x : V} (h : x.noIds = true) : x.norm.noIds = true := by
  by_cases ha : ∃ cs, x = .agg cs
  · obtain ⟨cs, rfl⟩ := ha
    simp only [V.norm]
    rw [V.noIds] at h ⊢
    refine V.noIdsL_of fun c hc => ?_
    obtain ⟨c', h1, rfl⟩ := List.mem_map.1 hc
    exact norm1_noIds (V.noIdsL_mem h c' h1)
  · cases x <;> first | exact h | exact absurd ⟨_, rfl⟩ ha | rfl

/-- A value's rows, where they lie in a block. -/
structure RowsAt (K : Ctx) (w : World) (rows : List (List V)) (sz base : Nat) (c : Array Value) : Prop where
  len : ∀ (i : Nat) (r : List V), rows[i]? = some r → r.length = sz
  cell : ∀ (i : Nat) (r : List V) (j : Nat) (x : V), rows[i]? = some r → r[j]? = some x → x.leaf = true ∧ ∃ u, c[base + i * sz + j]? = some u ∧ VRel K w x u
theorem RowsAt.mono {K' : Ctx} (hs : Stp K w K' w') {rows : List (List V)} {sz base : Nat} {c : Array Value} (h : RowsAt K w rows sz base c) : RowsAt K' w' rows sz base c :=
  ⟨h.len, fun i r j x h1 h2 => let ⟨g1, u, g2, g3⟩ := h.cell i r j x h1 h2; ⟨g1, u, g2, g3.mono hs⟩⟩

/-- The world has a new block. -/
structure Newer (w w' : World) (c : Array Value) (et : TypeId) : Prop where
  heap : w'.heap = w.heap.push (.cells c et (0, 0))
  os : w'.os = w.os
  tape : w'.tape = w.tape
  output : w'.output = w.output
theorem Newer.new {c : Array Value} {et : TypeId} (h : Newer w w' c et) : w'.heap[w.heap.size]? = some (.cells c et (0, 0)) := by rw [h.heap]; simp
theorem Newer.old {c : Array Value} {et : TypeId} (h : Newer w w' c et) (b : Nat) (hb : b < w.heap.size) : w'.heap[b]? = w.heap[b]? := by
  rw [h.heap, Array.getElem?_push, if_neg (by omega)]
theorem Newer.size {c : Array Value} {et : TypeId} (h : Newer w w' c et) : w'.heap.size = w.heap.size + 1 := by rw [h.heap]; simp
theorem Newer.stp {c : Array Value} {et : TypeId} (h : Newer w w' c et) : Stp K w K w' :=
  ⟨rfl, fun _ h => h, fun _ _ T' h => ⟨T', h, .inl rfl⟩, by rw [h.size]; omega, h.os, h.tape, h.output, fun b hb hn => ⟨h.old b hb, hn⟩⟩
theorem newer_alloc (c : Array Value) (et : TypeId) : Newer w (w.alloc (.cells c et)) c et := ⟨rfl, rfl, rfl, rfl⟩
theorem newer_drew (c : Array Value) (et : TypeId) : Newer w (w.drew.alloc (.cells c et)) c et := ⟨rfl, rfl, rfl, rfl⟩

theorem noIds_of_cells {x : V} (hf : x.flat = true) (h : ∀ (j : Nat) (c : V), x.cells[j]? = some c → ∃ u, VRel K w c u) : x.noIds = true := by
  cases x <;> first
    | rfl
    | (simp [V.flat] at hf; done)
    | (obtain ⟨u, hu⟩ := h 0 _ rfl; exact hu.flat_noIds hf)
    | skip
  rename_i cs
  rw [V.noIds]
  refine V.noIdsL_of fun c hc => ?_
  obtain ⟨j, hj⟩ := List.getElem?_of_mem hc
  obtain ⟨u, hu⟩ := h j c hj
  refine hu.flat_noIds ?_
  simp only [V.flat, List.all_eq_true] at hf
  have := hf c hc
  cases c <;> first | rfl | (simp at this)

/-- A store of the evaluator's behind a step that leaves its objects where they are. -/
theorem RelW.same (hk : RelW gl K s w) (hs : Stp K w K w') (hb : ∀ id T, K.φ id = some T → w'.heap[T.blk]? = w.heap[T.blk]?) : RelW gl K s w' where
  obj := fun id o ho => by
    obtain ⟨T, hT, hr⟩ := hk.obj id o ho
    obtain ⟨c, et, h1, h2, h3⟩ := hr.row
    exact ⟨T, hT, hr.sz, hr.ver, hr.pos, hr.cap, c, et, by rw [hb id T hT]; exact h1, h2, fun i r hir => ⟨(h3 i r hir).1, fun j x hx => let ⟨g1, u, g2, g3⟩ := (h3 i r hir).2 j x hx; ⟨g1, u, g2, g3.mono hs⟩⟩⟩
  dom := hk.dom
  al := hk.al
  inj := hk.inj
  X := hk.X
  Xlt := fun b hx => Nat.lt_of_lt_of_le (hk.Xlt b hx) hs.size
  glob := fun g cs h => (hk.glob g cs h).mono hs

/-- Object 'id' lies anew: in a block of its own that no other object lies in. -/
theorem RelW.put (hk : RelW gl K s w) {id : Nat} {T : Terr} {o : Obj} {K' : Ctx} (hφ : ∀ j, K'.φ j = if j = id then some T else K.φ j) (hal : ∀ j, K'.al j ↔ K.al j ∨ j = id) (hX : K'.X = K.X)
    (hs : Stp K w K' w') (hr : ORel K' w' o T) (hblk : ∀ j Tj, j ≠ id → K.φ j = some Tj → Tj.blk ≠ T.blk) (hTX : ¬ K.X T.blk) (hb : ∀ j Tj, j ≠ id → K.φ j = some Tj → w'.heap[Tj.blk]? = w.heap[Tj.blk]?) :
    RelW gl K' (s.set id o) w' where
  obj := fun j oj hoj => by
    by_cases hj : j = id
    · subst hj
      rw [St.get_set_self] at hoj
      obtain rfl := Option.some.inj hoj
      exact ⟨T, by rw [hφ, if_pos rfl], hr⟩
    · rw [St.get_set_ne _ _ hj] at hoj
      obtain ⟨Tj, hTj, hrj⟩ := hk.obj j oj hoj
      obtain ⟨c, et, h1, h2, h3⟩ := hrj.row
      exact ⟨Tj, by rw [hφ, if_neg hj]; exact hTj, hrj.sz, hrj.ver, hrj.pos, hrj.cap, c, et, by rw [hb j Tj hj hTj]; exact h1, h2, fun i r hir => ⟨(h3 i r hir).1, fun q x hx => let ⟨g1, u, g2, g3⟩ := (h3 i r hir).2 q x hx; ⟨g1, u, g2, g3.mono hs⟩⟩⟩
  dom := fun j Tj hTj => by
    by_cases hj : j = id
    · subst hj; exact ⟨o, St.get_set_self _ _ _⟩
    · rw [hφ, if_neg hj] at hTj
      rw [St.get_set_ne _ _ hj]
      exact hk.dom j Tj hTj
  al := fun j Tj hTj => by
    rw [hal]
    by_cases hj : j = id
    · exact .inr hj
    · rw [hφ, if_neg hj] at hTj
      exact .inl (hk.al j Tj hTj)
  inj := fun i j Ti Tj hi hj he => by
    rw [hφ] at hi hj
    by_cases h1 : i = id <;> by_cases h2 : j = id
    · rw [h1, h2]
    · rw [if_pos h1] at hi; rw [if_neg h2] at hj
      obtain rfl := Option.some.inj hi
      exact absurd he.symm (hblk j Tj h2 hj)
    · rw [if_neg h1] at hi; rw [if_pos h2] at hj
      obtain rfl := Option.some.inj hj
      exact absurd he (hblk i Ti h1 hi)
    · rw [if_neg h1] at hi; rw [if_neg h2] at hj
      exact hk.inj i j Ti Tj hi hj he
  X := fun j Tj hTj => by
    rw [hX]
    rw [hφ] at hTj
    by_cases hj : j = id
    · rw [if_pos hj] at hTj; obtain rfl := Option.some.inj hTj; exact hTX
    · rw [if_neg hj] at hTj; exact hk.X j Tj hTj
  Xlt := fun b hx => Nat.lt_of_lt_of_le (hk.Xlt b (by rwa [hX] at hx)) hs.size
  glob := fun g cs h => (hk.glob g cs h).mono hs

def Ctx.put (K : Ctx) (id : Nat) (T : Terr) : Ctx := { φ := fun j => if j = id then some T else K.φ j, al := fun j => K.al j ∨ j = id, X := K.X }

/-- An object in a new block: a new one, or one that was there and moves. -/
theorem new_obj (hk : RelW gl K s w) {c : Array Value} {et : TypeId} (hw : Newer w w' c et) {id : Nat} {T : Terr} {o : Obj} (hT : T.blk = w.heap.size)
    (hid : ¬ K.al id ∨ ∃ T0, K.φ id = some T0 ∧ T0.ver < T.ver)
    (h1 : T.sz = o.sz) (h2 : T.ver = o.ver) (h3 : 0 < o.sz) (h4 : o.rows.length ≤ T.cap) (h5 : T.base + T.cap * o.sz ≤ c.size) (h6 : RowsAt K w o.rows o.sz T.base c) :
    Stp K w (K.put id T) w' ∧ RelW gl (K.put id T) (s.set id o) w' := by
  have hst : Stp K w (K.put id T) w' := by
    refine ⟨rfl, fun j h => .inl h, fun j hj T' hT' => ?_, by rw [hw.size]; omega, hw.os, hw.tape, hw.output, fun b hb hn => ⟨hw.old b hb, fun j Tj hTj => ?_⟩⟩
    · simp only [Ctx.put] at hT'
      by_cases h : j = id
      · rw [if_pos h] at hT'
        obtain rfl := Option.some.inj hT'
        subst h
        rcases hid with hid | ⟨T0, hT0, hv⟩
        · exact absurd hj hid
        · exact ⟨T0, hT0, .inr hv⟩
      · rw [if_neg h] at hT'
        exact ⟨T', hT', .inl rfl⟩
    · simp only [Ctx.put] at hTj
      by_cases h : j = id
      · rw [if_pos h] at hTj
        obtain rfl := Option.some.inj hTj
        omega
      · rw [if_neg h] at hTj
        exact hn j Tj hTj
  refine ⟨hst, hk.put (T := T) (fun j => rfl) (fun j => Iff.rfl) rfl hst ?_ ?_ ?_ ?_⟩
  · have h7 := h6.mono hst
    refine ⟨h1, h2, h3, h4, c, et, by rw [hT]; exact hw.new, h5, fun i r hir => ⟨h7.len i r hir, fun j x hx => h7.cell i r j x hir hx⟩⟩
  · intro j Tj _ hTj
    have := hk.blk_lt hTj
    omega
  · intro hx
    have := hk.Xlt _ hx
    omega
  · intro j Tj _ hTj
    exact hw.old _ (hk.blk_lt hTj)

/-- An object whose block is written. -/
theorem write_obj (hk : RelW gl K s w) {id : Nat} {T T' : Terr} {o o' : Obj} (hT : K.φ id = some T) (ho : s.get id = some o) (hb : T'.blk = T.blk) (hv : T' = T ∨ T.ver < T'.ver) {c c' : Array Value} {et : TypeId}
    (hh : w.heap[T.blk]? = some (.cells c et (0, 0)))
    (h1 : T'.sz = o'.sz) (h2 : T'.ver = o'.ver) (h3 : 0 < o'.sz) (h4 : o'.rows.length ≤ T'.cap) (h5 : T'.base + T'.cap * o'.sz ≤ c'.size) (h6 : RowsAt K w o'.rows o'.sz T'.base c') :
    Stp K w (K.put id T') (w.setRow T.blk c') ∧ RelW gl (K.put id T') (s.set id o') (w.setRow T.blk c') := by
  have hst : Stp K w (K.put id T') (w.setRow T.blk c') := by
    refine ⟨rfl, fun j h => .inl h, fun j hj T2 hT2 => ?_, by simp, rfl, rfl, rfl, fun b hb' hn => ⟨setRow_other w _ b c' (fun e => hn id T hT e.symm), fun j Tj hTj => ?_⟩⟩
    · simp only [Ctx.put] at hT2
      by_cases h : j = id
      · rw [if_pos h] at hT2
        obtain rfl := Option.some.inj hT2
        subst h
        exact ⟨T, hT, hv⟩
      · rw [if_neg h] at hT2
        exact ⟨T2, hT2, .inl rfl⟩
    · simp only [Ctx.put] at hTj
      by_cases h : j = id
      · rw [if_pos h] at hTj
        obtain rfl := Option.some.inj hTj
        rw [hb]; exact hn id T hT
      · rw [if_neg h] at hTj
        exact hn j Tj hTj
  refine ⟨hst, hk.put (T := T') (fun j => rfl) (fun j => Iff.rfl) rfl hst ?_ ?_ ?_ ?_⟩
  · have h7 := h6.mono hst
    refine ⟨h1, h2, h3, h4, c', et, by rw [hb]; exact setRow_heap w _ c c' et _ hh, h5, fun i r hir => ⟨h7.len i r hir, fun j x hx => h7.cell i r j x hir hx⟩⟩
  · intro j Tj hj hTj
    rw [hb]
    exact fun e => hj (hk.inj j id Tj T hTj hT e)
  · rw [hb]; exact hk.X id T hT
  · intro j Tj hj hTj
    exact setRow_other w _ _ c' (fun e => hj (hk.inj j id Tj T hTj hT e))
end
end Go.Ilv
