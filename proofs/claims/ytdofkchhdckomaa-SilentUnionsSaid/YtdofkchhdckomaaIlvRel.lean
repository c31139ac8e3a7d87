/- How the evaluator's values and store stand to the machine's: the relation, and that it is kept. -/
import Derived.Test.YtdofkchhdckomaaIlvBase
import Derived.Laws.AppendOwn
import Derived.Laws.MakeOwn
import Derived.Laws.StructEq
set_option linter.unusedVariables false
namespace Go.Ilv
open Go

/-! ### lists of pairs -/
theorem aget_aset_self {α : Type} (l : List (Nat × α)) (i : Nat) (x : α) : aget (aset l i x) i = some x := by
  induction l with
  | nil => simp [aset, aget]
  | cons p r ih =>
    obtain ⟨k, v⟩ := p
    simp only [aset]
    split
    · rename_i h; subst h; simp [aget]
    · split
      · simp [aget]
      · rename_i h _; simp [aget, h, ih]
theorem aget_aset_ne {α : Type} (l : List (Nat × α)) {i j : Nat} (x : α) (h : j ≠ i) : aget (aset l i x) j = aget l j := by
  induction l with
  | nil => simp [aset, aget, h]
  | cons p r ih =>
    obtain ⟨k, v⟩ := p
    simp only [aset]
    split
    · rename_i h'; subst h'; simp [aget, h]
    · split
      · simp [aget, h]
      · simp [aget, ih]
theorem aget_filter {α : Type} (l : List (Nat × α)) (p : Nat × α → Bool) (i : Nat) (x : α) (hn : aget (l.filter p) i = some x) : ∃ y, aget l i = some y := by
  induction l with
  | nil => simp [aget] at hn
  | cons q r ih =>
    obtain ⟨k, v⟩ := q
    simp only [aget]
    split
    · exact ⟨_, rfl⟩
    · rename_i h
      simp only [List.filter_cons] at hn
      split at hn
      · simp only [aget, h, if_false] at hn; exact ih hn
      · exact ih hn
theorem aset_comm {α : Type} (l : List (Nat × α)) {i j : Nat} (x y : α) (h : i ≠ j) : aset (aset l i x) j y = aset (aset l j y) i x := by
  induction l with
  | nil =>
    simp only [aset]
    rcases Nat.lt_or_gt_of_ne h with h' | h'
    · have : ¬ j < i := by omega
      simp [h, Ne.symm h, h', this]
    · have : ¬ i < j := by omega
      simp [h, Ne.symm h, h', this]
  | cons p r ih =>
    obtain ⟨k, v⟩ := p
    rcases Nat.lt_trichotomy i k with h1 | h1 | h1 <;> rcases Nat.lt_trichotomy j k with h2 | h2 | h2
    all_goals
      have e1 : (i = k) = decide (i = k) := by simp
      rcases Nat.lt_or_gt_of_ne h with h3 | h3
      all_goals
        first
          | omega
          | (have n1 := Nat.ne_of_lt h1; have n2 := Nat.ne_of_lt h2; have n3 := Nat.ne_of_lt h3
             have m1 := Nat.lt_asymm h1; have m2 := Nat.lt_asymm h2; have m3 := Nat.lt_asymm h3
             simp [aset, h1, h2, h3, n1, n2, n3, Ne.symm n1, Ne.symm n2, Ne.symm n3, m1, m2, m3, ih]; done)
          | (subst h1; have n2 := Nat.ne_of_lt h2; have m2 := Nat.lt_asymm h2
             simp [aset, h2, n2, Ne.symm n2, m2]; done)
          | (subst h2; have n1 := Nat.ne_of_lt h1; have m1 := Nat.lt_asymm h1
             simp [aset, h1, n1, Ne.symm n1, m1]; done)
          | (have n1 := Nat.ne_of_gt h1; have n2 := Nat.ne_of_lt h2
             have m1 := Nat.lt_asymm h1; have m2 := Nat.lt_asymm h2
             simp [aset, *])

theorem St.get_set_self (s : St) (i : Nat) (o : Obj) : (s.set i o).get i = some o := aget_aset_self _ _ _
theorem St.get_set_ne (s : St) {i j : Nat} (o : Obj) (h : j ≠ i) : (s.set i o).get j = s.get j := aget_aset_ne _ _ h

/-! ### values without objects -/
mutual
def V.noIds : V → Bool
  | .agg cs => V.noIdsL cs
  | .lit xs => V.noIdsL xs
  | .cptr cs => V.noIdsL cs
  | .tup vs => V.noIdsL vs
  | .ref .. | .ptr .. | .fn .. | .undef => false
  | _ => true
def V.noIdsL : List V → Bool
  | [] => true
  | v :: r => v.noIds && V.noIdsL r
end
theorem V.noIdsL_mem {l : List V} (h : V.noIdsL l = true) : ∀ x ∈ l, x.noIds = true := by
  induction l with
  | nil => simp
  | cons v r ih =>
    simp only [V.noIdsL, Bool.and_eq_true] at h
    intro x hx
    rcases List.mem_cons.1 hx with rfl | hx
    · exact h.1
    · exact ih h.2 x hx
theorem V.noIdsL_of {l : List V} (h : ∀ x ∈ l, x.noIds = true) : V.noIdsL l = true := by
  induction l with
  | nil => rfl
  | cons v r ih => simp only [V.noIdsL, Bool.and_eq_true]; exact ⟨h v (by simp), ih fun x hx => h x (by simp [hx])⟩

theorem V.noIds_cells {x : V} (h : x.noIds = true) : ∀ c ∈ x.cells, c.noIds = true := by
  by_cases ha : ∃ cs, x = .agg cs
  · obtain ⟨cs, rfl⟩ := ha
    rw [V.noIds] at h
    exact V.noIdsL_mem h
  · have : x.cells = [x] := by cases x <;> first | rfl | exact absurd ⟨_, rfl⟩ ha
    rw [this]
    intro c hc
    obtain rfl := List.mem_singleton.1 hc
    exact h
theorem V.leaf_cells {x : V} (h : x.leaf = true) : x.cells = [x] := by cases x <;> first | rfl | (simp [V.leaf] at h)
theorem V.leaf_or {x : V} (h : x.storable = true) : x.leaf = true ∨ ∃ cs, x = .agg cs := by
  cases x <;> first | (exact .inr ⟨_, rfl⟩) | (simp [V.storable] at h; done) | exact .inl rfl

/-- Where an object lies: 'cap' rows of 'sz' cells from 'base' on. -/
structure Terr where
  blk : Nat
  base : Nat
  sz : Nat
  cap : Nat
  ver : Nat

/-- 'φ': where the living objects lie. 'al': the numbers that have been given. 'X': blocks that nothing here speaks of. -/
structure Ctx where
  φ : Nat → Option Terr
  al : Nat → Prop
  X : Nat → Prop

/-- A block that is there, and that nobody writes. -/
def fz (K : Ctx) (n : Nat) (b : Nat) : Prop := b < n ∧ ¬ K.X b ∧ ∀ id T, K.φ id = some T → T.blk ≠ b

inductive VRel (K : Ctx) (w : World) : V → Value → Prop
  | bool (b : Bool) : VRel K w (.bool b) (.bool b)
  | int (k : IntKind) (n : Int) : VRel K w (.int k n) (.int k n)
  | str (s : ByteArray) : VRel K w (.str s) (.string s)
  | agg (cs : List V) (us : List Value) (hl : cs.length = us.length) (hf : ∀ c ∈ cs, c.leaf = true)
      (h : ∀ (i : Nat) (c : V) (u : Value), cs[i]? = some c → us[i]? = some u → VRel K w c u) : VRel K w (.agg cs) (.agg us.toArray)
  | nils (a : Option Addr) : VRel K w .nils (.slice a 0 0)
  | lit0 (a : Option Addr) (cap : Nat) : VRel K w (.lit []) (.slice a 0 cap)
  | lit (xs : List V) (b o sz cap : Nat) (vals : Nat → Nat → Value) (hb : fz K w.heap.size b) (hc : xs.length ≤ cap)
      (hx : ∀ x ∈ xs, x.cells.length = sz ∧ x.storable = true ∧ x.noIds = true)
      (hcell : ∀ (i : Nat) (x : V) (j : Nat) (c : V), xs[i]? = some x → x.cells[j]? = some c → c.leaf = true ∧ w.cell? ⟨b, o + i * sz + j, none⟩ = some (vals i j))
      (hrel : ∀ (i : Nat) (x : V) (j : Nat) (c : V), xs[i]? = some x → x.cells[j]? = some c → VRel K w c (vals i j)) : VRel K w (.lit xs) (.slice (some ⟨b, o, none⟩) xs.length cap)
  | ref (id ver sz off len : Nat) (T : Terr) (a : Option Addr) (cap : Nat) (hT : K.φ id = some T) (hal : K.al id) (hv : T.ver = ver) (hz : T.sz = sz) (hl : len ≤ cap) (hc : off + cap ≤ T.cap)
      (ha : a = some ⟨T.blk, T.base + off * T.sz, none⟩ ∨ cap = 0) : VRel K w (.ref id ver sz off len) (.slice a len cap)
  | refd (id ver sz off len : Nat) (a : Option Addr) (cap : Nat) (hal : K.al id) (hd : ∀ T, K.φ id = some T → ver < T.ver) (hl : len ≤ cap) (ha : 0 < len → ∃ ad, a = some ad) : VRel K w (.ref id ver sz off len) (.slice a len cap)
  | ptr (id ver idx off : Nat) (T : Terr) (hT : K.φ id = some T) (hal : K.al id) (hv : T.ver = ver) : VRel K w (.ptr id ver idx off) (.pointer (some ⟨T.blk, T.base + idx * T.sz + off, none⟩))
  | ptrd (id ver idx off : Nat) (a : Addr) (hal : K.al id) (hd : ∀ T, K.φ id = some T → ver < T.ver) : VRel K w (.ptr id ver idx off) (.pointer (some a))
  | cptr (cs : List V) (b o : Nat) (vals : Nat → Value) (hb : fz K w.heap.size b) (hn : ∀ c ∈ cs, c.leaf = true ∧ c.noIds = true)
      (hcell : ∀ (j : Nat) (c : V), cs[j]? = some c → w.cell? ⟨b, o + j, none⟩ = some (vals j))
      (hrel : ∀ (j : Nat) (c : V), cs[j]? = some c → VRel K w c (vals j)) : VRel K w (.cptr cs) (.pointer (some ⟨b, o, none⟩))
  | pnil : VRel K w .pnil (.pointer none)
  | fn (f : FuncId) (cap : List V) (us : List Value) (hl : cap.length = us.length)
      (h : ∀ (i : Nat) (c : V) (u : Value), cap[i]? = some c → us[i]? = some u → VRel K w c u) : VRel K w (.fn f cap) (.func (.func f) #[] us.toArray)
  | tup (vs : List V) (us : List Value) (hl : vs.length = us.length)
      (h : ∀ (i : Nat) (c : V) (u : Value), vs[i]? = some c → us[i]? = some u → VRel K w c u) : VRel K w (.tup vs) (.tuple us.toArray)
  | undef : VRel K w .undef Go.undef

/-- From (K, w) to (K', w'): numbers that were given stay given, an object that has gone does not come back, and a block that no object lies in stays as it is. -/
structure Stp (K : Ctx) (w : World) (K' : Ctx) (w' : World) : Prop where
  X : K'.X = K.X
  al : ∀ id, K.al id → K'.al id
  φ : ∀ id, K.al id → ∀ T', K'.φ id = some T' → ∃ T, K.φ id = some T ∧ (T' = T ∨ T.ver < T'.ver)
  size : w.heap.size ≤ w'.heap.size
  os : w'.os = w.os
  tape : w'.tape = w.tape
  output : w'.output = w.output
  un : ∀ b, b < w.heap.size → (∀ id T, K.φ id = some T → T.blk ≠ b) → w'.heap[b]? = w.heap[b]? ∧ ∀ id T, K'.φ id = some T → T.blk ≠ b

theorem Stp.refl (K : Ctx) (w : World) : Stp K w K w :=
  ⟨rfl, fun _ h => h, fun _ _ T' h => ⟨T', h, .inl rfl⟩, Nat.le_refl _, rfl, rfl, rfl, fun _ _ h => ⟨rfl, h⟩⟩
theorem Stp.trans {K1 K2 K3 : Ctx} {w1 w2 w3 : World} (h : Stp K1 w1 K2 w2) (g : Stp K2 w2 K3 w3) : Stp K1 w1 K3 w3 where
  X := g.X.trans h.X
  al := fun id hi => g.al id (h.al id hi)
  φ := fun id hi T3 h3 => by
    obtain ⟨T2, h2, e2⟩ := g.φ id (h.al id hi) T3 h3
    obtain ⟨T1, h1, e1⟩ := h.φ id hi T2 h2
    refine ⟨T1, h1, ?_⟩
    rcases e2 with rfl | e2 <;> rcases e1 with rfl | e1
    · exact .inl rfl
    · exact .inr e1
    · exact .inr e2
    · exact .inr (Nat.lt_trans e1 e2)
  size := Nat.le_trans h.size g.size
  os := g.os.trans h.os
  tape := g.tape.trans h.tape
  output := g.output.trans h.output
  un := fun b hb hn => by
    obtain ⟨e1, n1⟩ := h.un b hb hn
    obtain ⟨e2, n2⟩ := g.un b (Nat.lt_of_lt_of_le hb h.size) n1
    exact ⟨e2.trans e1, n2⟩

theorem fz.step {K K' : Ctx} {w w' : World} (h : Stp K w K' w') {b : Nat} (hf : fz K w.heap.size b) : fz K' w'.heap.size b ∧ w'.heap[b]? = w.heap[b]? := by
  obtain ⟨h1, h2, h3⟩ := hf
  obtain ⟨e, n⟩ := h.un b h1 h3
  exact ⟨⟨Nat.lt_of_lt_of_le h1 h.size, by rw [h.X]; exact h2, n⟩, e⟩

theorem cell_of_heap {w w' : World} {b : Nat} (h : w'.heap[b]? = w.heap[b]?) (o : Nat) : w'.cell? ⟨b, o, none⟩ = w.cell? ⟨b, o, none⟩ :=
  World.cell?_of_block (w := w) (a := ⟨b, o, none⟩) h

theorem VRel.mono {K K' : Ctx} {w w' : World} (hs : Stp K w K' w') {x : V} {v : Value} (h : VRel K w x v) : VRel K' w' x v := by
  induction h with
  | bool b => exact .bool b
  | int k n => exact .int k n
  | str s => exact .str s
  | agg cs us hl hf _ ih => exact .agg cs us hl hf ih
  | nils a => exact .nils a
  | lit0 a cap => exact .lit0 a cap
  | lit xs b o sz cap vals hb hc hx hcell _ ih =>
    obtain ⟨hb', he⟩ := hb.step hs
    exact .lit xs b o sz cap vals hb' hc hx (fun i x j c h1 h2 => ⟨(hcell i x j c h1 h2).1, by rw [cell_of_heap he]; exact (hcell i x j c h1 h2).2⟩) ih
  | ref id ver sz off len T a cap hT hal hv hz hl hc ha =>
    have hs0 : 0 < len → ∃ ad, a = some ad := fun h0 => by
      rcases ha with rfl | rfl
      · exact ⟨_, rfl⟩
      · omega
    cases hT' : K'.φ id with
    | none => exact .refd id ver sz off len a cap (hs.al id hal) (by simp [hT']) hl hs0
    | some T' =>
      obtain ⟨T0, h0, e⟩ := hs.φ id hal T' hT'
      rw [hT] at h0
      obtain rfl := Option.some.inj h0
      rcases e with rfl | e
      · exact .ref id ver sz off len _ a cap hT' (hs.al id hal) hv hz hl hc ha
      · exact .refd id ver sz off len a cap (hs.al id hal) (fun T2 h2 => by rw [hT'] at h2; obtain rfl := Option.some.inj h2; omega) hl hs0
  | refd id ver sz off len a cap hal hd hl hs0 =>
    refine .refd id ver sz off len a cap (hs.al id hal) (fun T' hT' => ?_) hl hs0
    obtain ⟨T0, h0, e⟩ := hs.φ id hal T' hT'
    have := hd T0 h0
    rcases e with rfl | e <;> omega
  | ptr id ver idx off T hT hal hv =>
    cases hT' : K'.φ id with
    | none => exact .ptrd id ver idx off _ (hs.al id hal) (by simp [hT'])
    | some T' =>
      obtain ⟨T0, h0, e⟩ := hs.φ id hal T' hT'
      rw [hT] at h0
      obtain rfl := Option.some.inj h0
      rcases e with rfl | e
      · exact .ptr id ver idx off _ hT' (hs.al id hal) hv
      · exact .ptrd id ver idx off _ (hs.al id hal) (fun T2 h2 => by rw [hT'] at h2; obtain rfl := Option.some.inj h2; omega)
  | ptrd id ver idx off a hal hd =>
    refine .ptrd id ver idx off a (hs.al id hal) fun T' hT' => ?_
    obtain ⟨T0, h0, e⟩ := hs.φ id hal T' hT'
    have := hd T0 h0
    rcases e with rfl | e <;> omega
  | cptr cs b o vals hb hn hcell _ ih =>
    obtain ⟨hb', he⟩ := hb.step hs
    exact .cptr cs b o vals hb' hn (fun j c h1 => by rw [cell_of_heap he]; exact hcell j c h1) ih
  | pnil => exact .pnil
  | fn f cap us hl _ ih => exact .fn f cap us hl ih
  | tup vs us hl _ ih => exact .tup vs us hl ih
  | undef => exact .undef

/-- A value without objects stands as well in any context of whose written blocks it names none. -/
theorem VRel.transfer {K K' : Ctx} {w : World} (hf : ∀ b, fz K w.heap.size b → fz K' w.heap.size b) {x : V} {v : Value} (h : VRel K w x v) (hn : x.noIds = true) : VRel K' w x v := by
  induction h with
  | bool b => exact .bool b
  | int k n => exact .int k n
  | str s => exact .str s
  | agg cs us hl hfl _ ih => exact .agg cs us hl hfl fun i c u h1 h2 => ih i c u h1 h2 (V.noIdsL_mem (by simpa [V.noIds] using hn) c (List.mem_of_getElem? h1))
  | nils a => exact .nils a
  | lit0 a cap => exact .lit0 a cap
  | lit xs b o sz cap vals hb hc hx hcell _ ih =>
    refine .lit xs b o sz cap vals (hf b hb) hc hx hcell fun i x j c h1 h2 => ih i x j c h1 h2 ?_
    have hxn := (hx x (List.mem_of_getElem? h1)).2.2
    exact V.noIds_cells hxn c (List.mem_of_getElem? h2)
  | ref => simp [V.noIds] at hn
  | refd => simp [V.noIds] at hn
  | ptr => simp [V.noIds] at hn
  | ptrd => simp [V.noIds] at hn
  | cptr cs b o vals hb hnn hcell _ ih => exact .cptr cs b o vals (hf b hb) hnn hcell fun j c h1 => ih j c h1 (hnn c (List.mem_of_getElem? h1)).2
  | pnil => exact .pnil
  | fn => simp [V.noIds] at hn
  | tup vs us hl _ ih => exact .tup vs us hl fun i c u h1 h2 => ih i c u h1 h2 (V.noIdsL_mem (by simpa [V.noIds] using hn) c (List.mem_of_getElem? h1))
  | undef => exact .undef

/-- A leaf stands for a value of one cell. -/
theorem VRel.one {K : Ctx} {w : World} {x : V} {v : Value} (h : VRel K w x v) (hl : x.leaf = true) : v.oneCell' = true ∧ v.cells = #[v] := by
  cases h <;> first | (simp [V.leaf] at hl; done) | exact ⟨rfl, rfl⟩

/-- The cells of a value, one by one. -/
def CRel (K : Ctx) (w : World) (cs : List V) (us : List Value) : Prop :=
  cs.length = us.length ∧ (∀ c ∈ cs, c.leaf = true) ∧ ∀ (i : Nat) (c : V) (u : Value), cs[i]? = some c → us[i]? = some u → VRel K w c u
theorem VRel.cells {K : Ctx} {w : World} {x : V} {v : Value} (h : VRel K w x v) (hs : x.storable = true) : CRel K w x.cells v.cells.toList := by
  rcases V.leaf_or hs with hl | ⟨cs, rfl⟩
  · have h1 := (h.one hl).2
    rw [V.leaf_cells hl, h1]
    refine ⟨rfl, by simpa using hl, fun i c u e1 e2 => ?_⟩
    cases i with
    | zero => simp at e1 e2; subst e1; subst e2; exact h
    | succ i => simp at e1
  · cases h with
    | agg cs us hl hf h => exact ⟨by simpa [V.cells, Value.cells] using hl, by simpa [V.cells] using hf, by simpa [V.cells, Value.cells] using h⟩
theorem CRel.one {K : Ctx} {w : World} {cs : List V} {us : List Value} (h : CRel K w cs us) : ∀ u ∈ us, u.oneCell' = true := by
  intro u hu
  obtain ⟨i, hi, rfl⟩ := List.getElem_of_mem hu
  have hi' : i < cs.length := by rw [h.1]; exact hi
  exact ((h.2.2 i _ _ (List.getElem?_eq_getElem hi') (List.getElem?_eq_getElem hi)).one (h.2.1 _ (List.getElem_mem _))).1
theorem CRel.mono {K K' : Ctx} {w w' : World} (hs : Stp K w K' w') {cs : List V} {us : List Value} (h : CRel K w cs us) : CRel K' w' cs us :=
  ⟨h.1, h.2.1, fun i c u h1 h2 => (h.2.2 i c u h1 h2).mono hs⟩
/-- Back from cells. -/
theorem VRel.ofCells {K : Ctx} {w : World} {agg : Bool} {cs : List V} {us : List Value} (h : CRel K w cs us) {x : V} (hx : ofCells agg cs = some x) :
    ∃ v, VRel K w x v ∧ (agg = true → v = .agg us.toArray) ∧ (agg = false → us = [v]) := by
  unfold Ilv.ofCells at hx
  cases agg with
  | true => simp at hx; subst hx; exact ⟨_, .agg cs us h.1 h.2.1 h.2.2, by simp, by simp⟩
  | false =>
    simp at hx
    match cs, us, h, hx with
    | [c], [u], h, hx => simp at hx; subst hx; exact ⟨u, h.2.2 0 c u rfl rfl, by simp, by simp⟩
    | [], _, _, hx => simp at hx
    | _ :: _ :: _, _, _, hx => simp at hx
    | [_], [], h, _ => exact absurd h.1 (by simp)
    | [_], _ :: _ :: _, h, _ => exact absurd h.1 (by simp)

/-- An object and where it lies. -/
structure ORel (K : Ctx) (w : World) (o : Obj) (T : Terr) : Prop where
  sz : T.sz = o.sz
  ver : T.ver = o.ver
  pos : 0 < o.sz
  cap : o.rows.length ≤ T.cap
  row : ∃ c et, w.heap[T.blk]? = some (.cells c et (0, 0)) ∧ T.base + T.cap * o.sz ≤ c.size ∧
    ∀ (i : Nat) (r : List V), o.rows[i]? = some r → r.length = o.sz ∧ ∀ (j : Nat) (x : V), r[j]? = some x → x.leaf = true ∧ ∃ u, c[T.base + i * o.sz + j]? = some u ∧ VRel K w x u

structure RelW (gl : Nat → Option (List V)) (K : Ctx) (s : St) (w : World) : Prop where
  obj : ∀ id o, s.get id = some o → ∃ T, K.φ id = some T ∧ ORel K w o T
  dom : ∀ id T, K.φ id = some T → ∃ o, s.get id = some o
  al : ∀ id T, K.φ id = some T → K.al id
  inj : ∀ id id' T T', K.φ id = some T → K.φ id' = some T' → T.blk = T'.blk → id = id'
  X : ∀ id T, K.φ id = some T → ¬ K.X T.blk
  Xlt : ∀ b, K.X b → b < w.heap.size
  glob : ∀ g cs, gl g = some cs → VRel K w (.cptr cs) (.pointer (some ⟨g, 0, none⟩))

theorem RelW.blk_lt {gl : Nat → Option (List V)} {K : Ctx} {s : St} {w : World} (h : RelW gl K s w) {id : Nat} {T : Terr} (hT : K.φ id = some T) : T.blk < w.heap.size := by
  obtain ⟨o, ho⟩ := h.dom id T hT
  obtain ⟨T', hT', hr⟩ := h.obj id o ho
  rw [hT] at hT'
  obtain rfl := Option.some.inj hT'
  obtain ⟨c, et, hh, _⟩ := hr.row
  exact (Array.getElem?_eq_some_iff.1 hh).1

def ERel (K : Ctx) (w : World) (e : Env) (a : Act) : Prop := ∀ t x, aget e t = some x → ∃ v, a.tmps[t]? = some v ∧ VRel K w x v
theorem ERel.mono {K K' : Ctx} {w w' : World} (hs : Stp K w K' w') {e : Env} {a : Act} (h : ERel K w e a) : ERel K' w' e a :=
  fun t x hx => let ⟨v, h1, h2⟩ := h t x hx; ⟨v, h1, h2.mono hs⟩
end Go.Ilv
