/- Lists that are made by appending, and calls of pure functions. -/
import Derived.Test.YtdofkchhdckomaaIlvEval
import Derived.Test.YtdofkchhdckomaaIlvRead
set_option linter.unusedVariables false
set_option linter.unusedSimpArgs false
namespace Go.Ilv
open Go

theorem aget_aset {α : Type} {l : List (Nat × α)} {i j : Nat} {x : α} : aget (aset l i x) j = if j = i then some x else aget l j := by
  split
  · rename_i h; subst h; exact aget_aset_self _ _ _
  · rename_i h; exact aget_aset_ne _ _ h

theorem aset_aset {α : Type} (l : List (Nat × α)) (i : Nat) (x y : α) : aset (aset l i x) i y = aset l i y := by
  induction l with
  | nil => simp [aset]
  | cons p r ih =>
    obtain ⟨k, v⟩ := p
    simp only [aset]
    by_cases h1 : i = k
    · subst h1; simp [aset]
    · by_cases h2 : i < k
      · simp [aset, h1, h2]
      · simp [aset, h1, h2, ih]
/-- A list made by appending: its rows. -/
inductive IsL (l : List (Nat × Obj)) (sz : Nat) : V → List (List V) → Prop
  | nil : IsL l sz .nils []
  | ref (id ver : Nat) (rows : List (List V)) (h : aget l id = some ⟨sz, ver, false, rows⟩) (hr : ∀ r ∈ rows, r.length = sz) : IsL l sz (.ref id ver sz 0 rows.length) rows
/-- The object of a list. -/
def V.own : V → Option Nat
  | .ref id .. => some id
  | _ => none
/-- No object has a number from n on. -/
def Fresh (n : Nat) (l : List (Nat × Obj)) : Prop := ∀ j, n ≤ j → aget l j = none
theorem Fresh.nil {n : Nat} : Fresh n [] := fun j _ => rfl
theorem Fresh.set {n m i : Nat} {l : List (Nat × Obj)} {o : Obj} (h : Fresh n l) (hn : n ≤ m) (hi : i < m) : Fresh m (aset l i o) := fun j hj => by
  rw [aget_aset_ne _ _ (by omega)]; exact h j (by omega)
theorem IsL.lt {l : List (Nat × Obj)} {sz n : Nat} {v : V} {rows : List (List V)} (h : IsL l sz v rows) (hf : Fresh n l) : ∀ i, v.own = some i → i < n := by
  cases h with
  | nil => intro i h; cases h
  | ref id ver _ h hr =>
    intro i hi
    simp [V.own] at hi
    subst hi
    rcases Nat.lt_or_ge id n with h1 | h1
    · exact h1
    · rw [hf id h1] at h; cases h
theorem IsL.set {l : List (Nat × Obj)} {sz i : Nat} {o : Obj} {v : V} {rows : List (List V)} (h : IsL l sz v rows) (hi : v.own ≠ some i) : IsL (aset l i o) sz v rows := by
  cases h with
  | nil => exact .nil
  | ref id ver _ h hr => exact .ref id ver rows (by rw [aget_aset_ne _ _ (by intro e; exact hi (by simp [V.own, e]))]; exact h) hr
theorem IsL.fresh {l : List (Nat × Obj)} {sz n i : Nat} {v : V} {rows : List (List V)} (h : IsL l sz v rows) (hf : Fresh n l) (hi : n ≤ i) : v.own ≠ some i := by
  intro e
  have := h.lt hf i e
  omega

def appI (v : V) (id : Nat) : Nat := match v with
  | .ref rid .. => rid
  | _ => id
def appV (v : V) (id sz len : Nat) : V := match v with
  | .ref rid ver .. => .ref rid (ver + 1) sz 0 len
  | _ => .ref id 0 sz 0 len
def appO (v : V) (sz : Nat) (rows : List (List V)) : Obj := match v with
  | .ref _ ver .. => ⟨sz, ver + 1, false, rows⟩
  | _ => ⟨sz, 0, false, rows⟩
section
variable {C : Cfg} {l : List (Nat × Obj)} {sz n id : Nat} {v y : V} {rows : List (List V)} {ys : List V} {et : TypeId} {ty : Ty}
theorem append_eq (hty : C.ty et = some ty) (hsz : ty.size = sz) (h0 : 0 < sz) (h : IsL l sz v rows) (hy : elems ⟨n, l⟩ y = some ys) (hne : ys ≠ []) (hys : ∀ x ∈ ys, x.storable = true ∧ x.cells.length = sz)
    (hroom : roomOk (rows.length + ys.length) ty.bytes = true) : appendOp C false ⟨n, l⟩ id et v y = some (appV v id sz (rows.length + ys.length), .set (appI v id) (appO v sz (rows ++ ys.map V.cells))) := by
  have hz : ¬ ty.size = 0 := by omega
  have hall : (ys.all fun v => v.storable && decide (v.cells.length = ty.size)) = true := by
    simp only [List.all_eq_true, Bool.and_eq_true, decide_eq_true_eq]
    intro x hx
    rw [hsz]
    exact hys x hx
  have hie : ys.isEmpty = false := by cases ys <;> simp_all
  cases h with
  | nil =>
    simp only [List.length_nil, Nat.zero_add] at hroom
    simp only [appendOp, hty, hy, hz, if_false, hie, hroom, if_true, sliceOfRows, hall, appV, appI, appO, List.length_nil, Nat.zero_add, List.nil_append, Bool.false_eq_true]
    rw [hsz]
  | ref rid ver _ h hr =>
    have hz' : ¬ sz = 0 := by omega
    rw [hsz] at hall
    simp only [appendOp, hty, hy, hz, hz', if_false, St_get, h, Bool.false_eq_true, hall, hroom, hsz, Nat.zero_add, Nat.le_refl, true_and, and_true, if_true, List.drop_zero, List.take_length, appV, appI, appO]
theorem IsL.app (h : IsL l sz v rows) (hys : ∀ x ∈ ys, x.storable = true ∧ x.cells.length = sz) : IsL (aset l (appI v id) (appO v sz (rows ++ ys.map V.cells))) sz (appV v id sz (rows.length + ys.length)) (rows ++ ys.map V.cells) := by
  have hl : rows.length + ys.length = (rows ++ ys.map V.cells).length := by simp
  have hc : ∀ r ∈ rows ++ ys.map V.cells, (∀ r ∈ rows, r.length = sz) → r.length = sz := by
    intro r hr hrs
    rcases List.mem_append.1 hr with hr | hr
    · exact hrs r hr
    · obtain ⟨x, hx, rfl⟩ := List.mem_map.1 hr
      exact (hys x hx).2
  rw [hl]
  cases h with
  | nil => exact .ref id 0 _ (aget_aset_self _ _ _) fun r hr => hc r hr (by simp)
  | ref rid ver _ h hr => exact .ref rid (ver + 1) _ (aget_aset_self _ _ _) fun r hr' => hc r hr' hr
theorem appI_lt (h : IsL l sz v rows) (hf : Fresh n l) : appI v n ≤ n := by
  cases hv : v.own with
  | none => cases v <;> first | exact Nat.le_refl _ | simp [V.own] at hv
  | some i =>
    have := h.lt hf i hv
    cases v <;> simp [V.own] at hv
    subst hv
    exact Nat.le_of_lt this
theorem Fresh.app (h : IsL l sz v rows) (hf : Fresh n l) {o : Obj} : Fresh (if appI v n = n then n + 1 else n) (aset l (appI v n) o) := by
  have := appI_lt h hf
  split
  · exact hf.set (Nat.le_succ n) (by omega)
  · exact hf.set (Nat.le_refl n) (by omega)
theorem own_appV : (appV v id sz n).own = some (appI v id) := by cases v <;> rfl
end

/-! ### results told without objects -/
def V.bare1 : V → Bool
  | .nils | .ref .. | .ptr .. | .fn .. | .undef | .agg _ | .tup _ => false
  | _ => true
theorem reify_bare {s : St} {n : Nat} {v : V} (h : v.bare1 = true) : reify s (n + 1) v = some v := by cases v <;> simp_all [V.bare1, reify]
theorem allSome_id {f : V → Option V} : ∀ {l : List V}, (∀ x ∈ l, f x = some x) → allSome f l = some l
  | [], _ => rfl
  | x :: l, h => by
    have h1 := h x (List.mem_cons_self ..)
    have h2 := allSome_id (l := l) fun y hy => h y (List.mem_cons_of_mem _ hy)
    simp only [allSome, h1, h2]
theorem reify_agg {s : St} {n : Nat} {cs : List V} (h : ∀ c ∈ cs, c.bare1 = true) : reify s (n + 2) (.agg cs) = some (.agg cs) := by
  have := allSome_id (f := reify s (n + 1)) (l := cs) fun c hc => reify_bare (s := s) (n := n) (h c hc)
  rw [reify]
  simp only [this]
theorem rowV_agg {r : List V} (h : r.length ≠ 1) : rowV r = .agg r := by
  match r, h with
  | [], _ => rfl
  | [_], h => exact absurd rfl h
  | _ :: _ :: _, _ => rfl
/-- A list of plain rows, told. -/
theorem reify_list {s : St} {n sz : Nat} {v : V} {rows : List (List V)} (h : IsL s.objs sz v rows) (hb : ∀ r ∈ rows, ∀ c ∈ r, c.bare1 = true) : reify s (n + 3) v = some (.lit (rows.map rowV)) := by
  have hrow : ∀ r ∈ rows, reify s (n + 2) (rowV r) = some (rowV r) := by
    intro r hr
    have hbr := hb r hr
    match r, hbr with
    | [c], hbr => exact reify_bare (hbr c (by simp))
    | [], hbr => exact reify_agg (by simp)
    | a :: b :: t, hbr => exact reify_agg hbr
  cases h with
  | nil => simp [reify]
  | ref id ver _ h hr =>
    have he : elems s (.ref id ver sz 0 rows.length) = some (rows.map rowV) := by
      simp only [elems, St.get, h, if_true, Nat.zero_add, Nat.le_refl, List.drop_zero, List.take_length]
    have := allSome_id (f := reify s (n + 2)) (l := rows.map rowV) fun x hx => by
      obtain ⟨r, hr', rfl⟩ := List.mem_map.1 hx
      exact hrow r hr'
    rw [reify]
    simp only [he, this]
theorem killVars_list {s : St} {b sz : Nat} {v : V} {rows : List (List V)} (h : IsL s.objs sz v rows) : IsL (s.killVars b).objs sz v rows := by
  cases h with
  | nil => exact .nil
  | ref id ver _ h hr =>
    refine .ref id ver rows ?_ hr
    have := killVars_get s b id
    simp only [St.get] at this
    rw [this]
    have hk : s.kills b id = false := by simp [St.kills, h]
    simp [hk, h]

/-- A call of a pure function, told. -/
theorem callV_told {cal : Callee} {f : FuncId} {args as : List V} {r r' : V} {s s' : St} (ha : allSome (reify s 40) args = some as) (h : cal f as St.empty = some (r, s')) (hr : reify s' 40 r = some r') (hf : (args.all V.flat || r'.scalar) = true) :
    callV cal true f args s = some (r', s) := by
  simp only [callV, if_true, ha, h, hr, hf]
end Go.Ilv
