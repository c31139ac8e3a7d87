/- The tables of the evaluator are looked at by a program that is proved right; and the first function that is told by what it comes to, slices.Clone. -/
import Derived.Test.YtdofkchhdckomaaIlvCall
set_option linter.unusedVariables false
set_option linter.unusedSimpArgs false
namespace Go.Ilv
open Go

def kOkB (P : Program) : TypeDesc → K → Bool
  | .int k, .int k' => decide (k = k')
  | .bool, .bool => true
  | .string, .str => true
  | .pointer e, .ptr e' => decide (e = e')
  | .slice e, .slice e' => decide (e = e')
  | .struct fs, .struct l => decide ((fs.toList.map fun f => (f.offset, f.type)) = l) && fs.toList.all fun f => (P.info? f.type).isSome
  | .array n e, .arr n' e' => decide (n = n') && decide (e = e')
  | .struct _, .other => false
  | .array .., .other => false
  | _, .other => true
  | _, _ => false
theorem kOkB_ok {P : Program} {d : TypeDesc} {k : K} (h : kOkB P d k = true) : KOk P d k := by
  cases k with
  | int k => cases d <;> simp [kOkB] at h; simp [KOk, h]
  | bool => cases d <;> simp [kOkB] at h; rfl
  | str => cases d <;> simp [kOkB] at h; rfl
  | ptr e => cases d <;> simp [kOkB] at h; simp [KOk, h]
  | slice e => cases d <;> simp [kOkB] at h; simp [KOk, h]
  | struct fs =>
    cases d <;> simp only [kOkB, Bool.false_eq_true, Bool.and_eq_true, decide_eq_true_eq] at h
    exact ⟨_, rfl, h.1.symm, fun f hf => List.all_eq_true.1 h.2 f hf⟩
  | arr n e => cases d <;> simp [kOkB] at h; simp [KOk, h]
  | other =>
    refine ⟨fun f hf => ?_, fun n e hd => ?_⟩
    · subst hf; simp [kOkB] at h
    · subst hd; simp [kOkB] at h

def isAggV : Value → Bool
  | .agg _ => true
  | _ => false
def tyOkB (P : Program) (t : TypeId) (y : Ty) : Bool :=
  match P.info? t, P.underlying t with
  | some i, some d => decide (i.size = y.size) && decide (i.bytes = y.bytes) && kOkB P d y.kind && (match i.zero with
    | some z => decide (z.cells.size = i.size) && (match ofConstL z.cells.toList with
      | some l => V.beqL l y.zero
      | none => false) && (!y.kind.agg || isAggV z)
    | none => false)
  | _, _ => false
theorem tyOkB_ok {P : Program} {t : TypeId} {y : Ty} (h : tyOkB P t y = true) : TyOk P t y := by
  unfold tyOkB at h
  split at h
  · rename_i i d hi hd
    simp only [Bool.and_eq_true, decide_eq_true_eq] at h
    obtain ⟨⟨⟨h1, h2⟩, h3⟩, h4⟩ := h
    split at h4
    · rename_i z hz
      simp only [Bool.and_eq_true, decide_eq_true_eq, Bool.or_eq_true, Bool.not_eq_true'] at h4
      obtain ⟨⟨h5, h6⟩, h7⟩ := h4
      split at h6
      · rename_i l hl
        have e := beqL_eq _ _ h6
        subst e
        refine ⟨i, d, z, hi, h1, h2, hd, kOkB_ok h3, hz, h5, fun K w => ofConstL_rel _ _ hl, fun ha => ?_⟩
        rcases h7 with h7 | h7
        · rw [ha] at h7; cases h7
        · cases z <;> simp [isAggV] at h7
          rfl
      · cases h6
    · cases h4
  · cases h

/-! ### structs of plain cells, held against each other -/
def plainFields (P : Program) : Nat → List Field → Bool
  | _, [] => true
  | n, f :: r => decide (f.offset = n) && decide (f.name ≠ "_") && (match P.underlying f.type with
    | some .bool | some (.int _) | some .string => true
    | _ => false) && plainFields P (n + 1) r
def eqOkB (P : Program) (t : TypeId) : Bool :=
  !P.eqGuardType P.depth t && !P.stoodInHeld t && (match P.underlying t with
    | some (.struct fs) => plainFields P 0 fs.toList
    | _ => false)

theorem eqOkB_ok {C : Cfg} {P : Program} (hT : ∀ t y, C.ty t = some y → TyOk P t y) {t : TypeId} (h : eqOkB P t = true) : EqOk C P t := by
  unfold eqOkB at h
  simp only [Bool.and_eq_true, Bool.not_eq_true'] at h
  obtain ⟨⟨h1, h2⟩, h3⟩ := h
  refine ⟨h1, fun w K y fs' a b us vs r hy hk ha hb hr => ?_⟩
  split at h3
  · rename_i fs hu
    have hf : P.fieldsOf t = fs := by simp [Program.fieldsOf, hu]
    obtain ⟨fields, hu2, hfs, _⟩ := (hT t y hy).struct hk
    rw [hu] at hu2
    simp only [Option.some.injEq, TypeDesc.struct.injEq] at hu2
    subst hu2
    subst hfs
    rw [run_equalIn_agg w 9999 t us.toArray vs.toArray (by rw [hf]; exact hu) h2, hf]
    have key : ∀ (l : List Field) (n : Nat) (a' b' : List V) (r : Bool), plainFields P n l = true → a' = a.drop n → b' = b.drop n → eqCells C (l.map fun f => (f.offset, f.type)) a' b' = some r →
        (Op.eqFields 9999 us.toArray vs.toArray l).run P w = .ok r w := by
      intro l
      induction l with
      | nil =>
        intro n a' b' r _ _ _ he
        cases a' <;> cases b' <;> simp [eqCells] at he
        subst he
        simp [Op.eqFields]
      | cons f l ih =>
        intro n a' b' r hp ha' hb' he
        simp only [plainFields, Bool.and_eq_true, decide_eq_true_eq] at hp
        obtain ⟨⟨⟨p1, p2⟩, p4⟩, p5⟩ := hp
        match a', b', he with
        | [], [], he => simp [eqCells] at he
        | [], _ :: _, he => simp [eqCells] at he
        | _ :: _, [], he => simp [eqCells] at he
        | x :: a2, z :: b2, he =>
          simp only [List.map_cons, eqCells] at he
          split at he
          · rename_i fy hfy
            split at he
            · rename_i q1 q2 hq1 hq2
              simp at he
              have hx : a[n]? = some x := by
                have := congrArg (fun l : List V => l[0]?) ha'
                simpa using this.symm
              have hy' : b[n]? = some z := by
                have := congrArg (fun l : List V => l[0]?) hb'
                simpa using this.symm
              have hnu : n < us.length := by rw [← ha.1]; exact (List.getElem?_eq_some_iff.1 hx).1
              have hnv : n < vs.length := by rw [← hb.1]; exact (List.getElem?_eq_some_iff.1 hy').1
              have hrx := ha.2.2 n x us[n] hx (List.getElem?_eq_getElem hnu)
              have hry := hb.2.2 n z vs[n] hy' (List.getElem?_eq_getElem hnv)
              obtain ⟨d, hd, hkd⟩ := (hT _ _ hfy).under
              have hpart : ∀ (ws : List Value) (hn : n < ws.length), (Go.part f.type ws.toArray f.offset).run P w = .ok ws[n] w := by
                intro ws hn
                have hagg : (isAgg f.type).run P w = .ok false w := by
                  rw [hd] at p4
                  simp only [isAgg, Sem.run_bind, r_under hd, Result.andThen_ok]
                  cases d <;> first | rfl | cases p4
                simp [Go.part, hagg, p1, hn]
              have heq : (Op.equalIn 9999 f.type us[n] vs[n]).run P w = .ok q1 w := by
                generalize us[n] = u at hrx
                generalize vs[n] = v at hry
                unfold eqCell at hq1
                split at hq1
                · rename_i hkk
                  rw [hkk] at hkd; simp only [KOk] at hkd; subst hkd
                  simp at hq1; subst hq1; cases hrx; cases hry
                  exact run_equalIn_bool' w 9998 f.type _ _ hd
                · rename_i hkk
                  rw [hkk] at hkd; simp only [KOk] at hkd; subst hkd
                  split at hq1
                  · simp at hq1; subst hq1; rename_i hke; subst hke; cases hrx; cases hry
                    exact run_equalIn_int w 9998 f.type _ _ _ _ hd
                  · cases hq1
                · rename_i hkk
                  rw [hkk] at hkd; simp only [KOk] at hkd; subst hkd
                  simp at hq1; subst hq1; cases hrx; cases hry
                  exact run_equalIn_string w 9998 f.type _ _ hd
                · cases hq1
              have e2 := ih (n + 1) a2 b2 q2 p5 (by have := congrArg List.tail ha'; simpa using this) (by have := congrArg List.tail hb'; simpa using this) hq2
              simp only [Op.eqFields, p2, ne_eq, not_false_eq_true, if_true, Sem.run_bind, hpart us hnu, hpart vs hnv, Result.andThen_ok, heq]
              cases q1 with
              | true => simp [e2, ← he]
              | false => simp [← he]
            · cases he
          · cases he
    exact key fs.toList 0 a b r h3 (by simp) (by simp) hr
  · cases h3

def fnOkB (C : Cfg) (fi : FnI) : Bool := decide (fi.fn.name ≠ "runtime.NumGoroutine") && (match fi.fn.body with
  | some b => codeOk C fi b
  | none => false)
def FnsAt (P : Program) : List (Nat × FnI) → Prop
  | [] => True
  | p :: r => P.funcs[p.1]? = some p.2.fn ∧ FnsAt P r
theorem aget_mem {α : Type} : ∀ {l : List (Nat × α)} {i : Nat} {x : α}, aget l i = some x → (i, x) ∈ l
  | [], i, x, h => by simp [aget] at h
  | (k, v) :: r, i, x, h => by
    simp only [aget] at h
    split at h
    · rename_i hk; simp at h; subst h; subst hk; simp
    · exact List.mem_cons_of_mem _ (aget_mem h)
theorem fnsAt_mem {P : Program} : ∀ {l : List (Nat × FnI)}, FnsAt P l → ∀ p ∈ l, P.funcs[p.1]? = some p.2.fn
  | [], _, p, hp => by cases hp
  | q :: r, h, p, hp => by
    rcases List.mem_cons.1 hp with rfl | hp
    · exact h.1
    · exact fnsAt_mem h.2 p hp
theorem cfgOk_of {P : Program} {tys : List (Nat × Ty)} {fns : List (Nat × FnI)} {glob : Nat → Option (List V)} {eqs : List Nat} {intr : FuncId → Option (List V → St → Option (V × St))}
    (h1 : (tys.all fun p => tyOkB P p.1 p.2) = true) (h2 : (eqs.all fun t => eqOkB P t) = true) (h3 : (fns.all fun p => fnOkB { ty := aget tys, fn := aget fns, glob := glob, eqs := fun t => eqs.contains t, intr := intr } p.2) = true) (h4 : FnsAt P fns) (h5 : P.follows .mixedOrders = true) :
    CfgOk { ty := aget tys, fn := aget fns, glob := glob, eqs := fun t => eqs.contains t, intr := intr } P := by
  have hT : ∀ t y, aget tys t = some y → TyOk P t y := fun t y h => tyOkB_ok (List.all_eq_true.1 h1 _ (aget_mem h))
  refine ⟨hT, fun f fi h => ?_, fun t h => ?_, h5⟩
  · have hm := aget_mem h
    have hf := List.all_eq_true.1 h3 _ hm
    simp only [fnOkB, Bool.and_eq_true, decide_eq_true_eq] at hf
    obtain ⟨q1, q2⟩ := hf
    split at q2
    · rename_i b hb
      exact ⟨fnsAt_mem h4 _ hm, q1, b, hb, q2⟩
    · cases q2
  · have : t ∈ eqs := by simpa using h
    exact eqOkB_ok hT (List.all_eq_true.1 h2 t this)

/-! ### slices.Clone -/
def intrClone (sz : Nat) (args : List V) (s : St) : Option (V × St) :=
  match args with
  | [x] => match elems s x with
    | some [] => some (.nils, s)
    | some ys => if (ys.all fun v => v.storable && decide (v.cells.length = sz)) && decide (ys.length ≤ 1000000) then some (.ref s.nxt 0 sz 0 ys.length, { nxt := s.nxt + 1, objs := aset s.objs s.nxt ⟨sz, 0, false, ys.map V.cells⟩ }) else none
    | none => none
  | _ => none
end Go.Ilv
