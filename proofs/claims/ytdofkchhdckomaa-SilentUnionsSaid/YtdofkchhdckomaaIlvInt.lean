/- Functions of the library that are told by what they come to: slices.Clone. -/
import Derived.Test.YtdofkchhdckomaaIlvList
set_option linter.unusedVariables false
set_option linter.unusedSimpArgs false
namespace Go.Ilv
open Go

theorem stp_below {K : Ctx} {w w' : World} (h : Go.RowKit.Below w.heap.size w w') : Stp K w K w' :=
  ⟨rfl, fun _ h => h, fun id _ T' h => ⟨T', h, .inl rfl⟩, h.size, h.os, h.tape, h.output, fun b hb hn => ⟨h.block b hb, hn⟩⟩
/-- New blocks alone: the store stands as it stood. -/
theorem relW_below {gl : Nat → Option (List V)} {K : Ctx} {s : St} {w w' : World} (hk : RelW gl K s w) (h : Go.RowKit.Below w.heap.size w w') : RelW gl K s w' where
  obj := fun id o ho => by
    obtain ⟨T, hT, hr⟩ := hk.obj id o ho
    obtain ⟨c, et, h1, h2, h3⟩ := hr.row
    refine ⟨T, hT, hr.sz, hr.ver, hr.pos, hr.cap, c, et, ?_, h2, fun i r hir => ⟨(h3 i r hir).1, fun j x hx => ?_⟩⟩
    · rw [h.block _ (hk.blk_lt hT)]; exact h1
    · obtain ⟨g1, u, g2, g3⟩ := (h3 i r hir).2 j x hx
      exact ⟨g1, u, g2, g3.mono (stp_below h)⟩
  dom := hk.dom
  al := hk.al
  inj := hk.inj
  X := hk.X
  Xlt := fun b hb => Nat.lt_of_lt_of_le (hk.Xlt b hb) h.size
  glob := fun g cs hg => (hk.glob g cs hg).mono (stp_below h)

theorem run_append_zero {P : Program} {w : World} {t tt el : TypeId} {i : TypeInfo} (ht : P.underlying t = some (.slice el)) (hi : P.info? el = some i) (ax ad : Option Addr) (cap : Nat) :
    (Builtin.append_ #[t, t] tt #[.slice ax 0 0, .slice ad 0 cap]).run P w = .ok (.slice ax 0 0) w := by
  cases ax <;> cases ad <;> simp [Builtin.append_, r_under ht, sizeOf, r_ty hi, Builtin.lenOf, Builtin.firstCells, loadCells, loadCellsFrom, storeCells]
/-- Nothing appended to nothing. -/
theorem wpList_append_zero {P : Program} {ops : Array Oper} {rest : List Oper} {o : Oper} {a : Act} {w : World} {Q : Exit → Act → World → Prop} (hgd : o.guard = none) (x y : Operand) (t el : TypeId) (i : TypeInfo)
    (ho : o.op = .call { callee := .builtin .append, args := #[x, y], argTypes := #[t, t] }) (ht : P.underlying t = some (.slice el)) (hi : P.info? el = some i) (ax ad : Option Addr) (cap : Nat)
    (hx : a.eval x = .slice ax 0 0) (hy : a.eval y = .slice ad 0 cap) (h : wpList P ops Q rest (a.put o.dst (.slice ax 0 0)) w) : wpList P ops Q (o :: rest) a w := by
  refine wpList_plain hgd fun K hK => ?_
  unfold Oper.wp execOp
  simp only [ho, resolve, invoke, builtin, Sem.run_bind, Sem.run_pure, Result.andThen_ok, List.map_toArray, List.map_cons, List.map_nil, hx, hy, run_append_zero ht hi]
  exact hK _ _ h
/-- What slices.Clone does with a slice without elements. -/
def CloneEmpty (P : Program) (f : FuncId) : Prop := ∀ (a : Option Addr) (cap : Nat) (w : World),
  Calls P f #[.slice a 0 cap] w fun e w' => ∃ a', e = .returned (.slice a' 0 0) ∧ Go.RowKit.Below w.heap.size w w'

theorem elems_empty {K : Ctx} {w : World} {s : St} {x : V} {u : Value} (h : VRel K w x u) (he : elems s x = some []) : ∃ a cap, u = .slice a 0 cap := by
  cases h <;> simp only [elems, reduceCtorEq] at he
  case nils a => exact ⟨a, 0, rfl⟩
  case lit0 a cap => exact ⟨a, cap, rfl⟩
  case lit xs b o sz cap vals hb hc hx hcell hrel =>
    simp at he
    subst he
    exact ⟨_, cap, rfl⟩
  case ref id ver sz off len T a cap hT hal hv hz hl hc ha =>
    split at he
    · rename_i o ho
      split at he
      · split at he
        · rename_i hlen
          simp at he
          have : len = 0 := by
            rcases Nat.eq_zero_or_pos len with h | h
            · exact h
            · rcases he with he | he
              · exact he
              · omega
          subst this
          exact ⟨a, cap, rfl⟩
        · cases he
      · cases he
    · cases he
  case refd id ver sz off len a cap hal hd hl ha =>
    split at he
    · rename_i o ho
      split at he
      · split at he
        · rename_i hlen
          simp at he
          have : len = 0 := by
            rcases Nat.eq_zero_or_pos len with h | h
            · exact h
            · rcases he with he | he
              · exact he
              · omega
          subst this
          exact ⟨a, cap, rfl⟩
        · cases he
      · cases he
    · cases he

/-- slices.Clone, told. 'C0': a table in which the function is walked. -/
theorem intrClone_sound {C C0 : Cfg} {P : Program} (hC0 : CfgOk C0 P) (hI0 : IntrOk C0 P) (hg : C0.glob = C.glob) {sz : Nat} {f : FuncId}
    (hN : ∀ (x : V) (s : St) (y : V) (ys : List V), elems s x = some (y :: ys) → ((y :: ys).all fun v => v.storable && decide (v.cells.length = sz)) = true → (y :: ys).length ≤ 1000000 →
      callL C0 f [x] s = some (.ref s.nxt 0 sz 0 (y :: ys).length, { nxt := s.nxt + 1, objs := aset s.objs s.nxt ⟨sz, 0, false, (y :: ys).map V.cells⟩ }))
    (hE : CloneEmpty P f) : Sound C P fun f' args s => if f' = f then intrClone sz args s else none := by
  intro f' args s r s' h K w us hk hal ha
  simp only at h
  split at h
  · rename_i hf
    subst hf
    unfold intrClone at h
    split at h
    · rename_i x
      split at h
      · rename_i he
        simp at h
        obtain ⟨rfl, rfl⟩ := h
        match us, ha with
        | [u], ha =>
          obtain ⟨a, cap, rfl⟩ := elems_empty ha.head he
          refine (hE a cap w).mono ?_
          rintro e w' ⟨a', rfl, hb⟩
          exact ⟨K, _, rfl, stp_below hb, relW_below hk hb, .nils a', fun j hj => .inl hj, Nat.le_refl _⟩
        | [], ha => exact absurd ha.1 (by simp)
        | _ :: _ :: _, ha => exact absurd ha.1 (by simp)
      · rename_i ys hne he
        split at h
        · rename_i hc
          simp only [Bool.and_eq_true, decide_eq_true_eq] at hc
          match ys, hne, he, hc, h with
          | [], hne, _, _, _ => exact absurd rfl hne
          | y :: ys, _, he, hc, h =>
            have h0 := hN x s y ys he hc.1 hc.2
            rw [h] at h0
            have := callL_sound hC0 hI0 f' [x] s r s' h0 K w us (by rw [hg]; exact hk) hal ha
            rw [hg] at this
            exact this
        · cases h
      · cases h
    · cases h
  · cases h

/-! ### a table with other told functions -/
theorem eqCells_intr {C : Cfg} (g : FuncId → Option (List V → St → Option (V × St))) : ∀ (fs : List (Nat × TypeId)) (a b : List V), eqCells { C with intr := g } fs a b = eqCells C fs a b
  | [], [], [] => rfl
  | [], [], _ :: _ => rfl
  | [], _ :: _, _ => rfl
  | _ :: _, [], _ => rfl
  | _ :: _, _ :: _, [] => rfl
  | (o, t) :: fs, a :: l, b :: r => by
    simp only [eqCells]
    rw [eqCells_intr g fs l r]
theorem codeOk_intr {C : Cfg} (g : FuncId → Option (List V → St → Option (V × St))) (fi : FnI) : ∀ (c : Code), codeOk { C with intr := g } fi c = codeOk C fi c := by
  intro c
  induction c <;> simp only [codeOk] <;> first | rfl | (simp only [*]; done) | skip
theorem CfgOk.told {C : Cfg} {P : Program} (h : CfgOk C P) (g : FuncId → Option (List V → St → Option (V × St))) : CfgOk { C with intr := g } P where
  ty := h.ty
  fn := fun f fi hf => by
    obtain ⟨h1, h2, b, h3, h4⟩ := h.fn f fi hf
    exact ⟨h1, h2, b, h3, by rw [codeOk_intr]; exact h4⟩
  eqs := fun t ht => by
    obtain ⟨h1, h2⟩ := h.eqs t ht
    exact ⟨h1, fun w K y fs a b us vs r hy hk ha hb hr => h2 w K y fs a b us vs r hy hk ha hb (by rw [← eqCells_intr g]; exact hr)⟩
  mixed := h.mixed
theorem full_of_elems {s : St} {x y : V} {ys : List V} (h : elems s x = some (y :: ys)) : x.full = true := by
  cases x <;> simp only [elems, reduceCtorEq] at h
  case lit xs => simp at h; subst h; rfl
  case nils => simp at h
  case ref id ver sz off len =>
    split at h
    · split at h
      · split at h
        · simp only [Option.some.injEq] at h
          have : 0 < len := by
            rcases Nat.eq_zero_or_pos len with h0 | h0
            · subst h0; simp at h
            · exact h0
          simpa [V.full] using this
        · cases h
      · cases h
    · cases h
end Go.Ilv
