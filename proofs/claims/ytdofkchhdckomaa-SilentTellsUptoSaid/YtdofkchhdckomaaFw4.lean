import Derived.Test.YtdofkchhdckomaaFw3
/- The tables of the evaluator are looked at by a program that is proved right; and the first function that is told by what it comes to, slices.Clone. -/
set_option linter.unusedVariables false
set_option linter.unusedSimpArgs false
namespace Go.Ilv
open Go

def kOkB (P : Program) : TypeDesc → K → Bool
  | .int k, .int k' => decide (k = k')
  | .bool, .bool => true
  | .string, .str => true
  | .pointer e, .ptr e' => decide (e = e')
  | .slice e, .slice e' => decide (e = e')
  | .struct fs, .struct l => decide ((fs.toList.map fun f => (f.offset, f.type)) = l) && fs.toList.all fun f => (P.info? f.type).isSome
  | .array n e, .arr n' e' => decide (n = n') && decide (e = e')
  | .struct _, .other => false
  | .array .., .other => false
  | _, .other => true
  | _, _ => false
theorem kOkB_ok {P : Program} {d : TypeDesc} {k : K} (h : kOkB P d k = true) : KOk P d k := by
  cases k with
  | int k => cases d <;> simp [kOkB] at h; simp [KOk, h]
  | bool => cases d <;> simp [kOkB] at h; rfl
  | str => cases d <;> simp [kOkB] at h; rfl
  | ptr e => cases d <;> simp [kOkB] at h; simp [KOk, h]
  | slice e => cases d <;> simp [kOkB] at h; simp [KOk, h]
  | struct fs =>
    cases d <;> simp only [kOkB, Bool.false_eq_true, Bool.and_eq_true, decide_eq_true_eq] at h
    exact ⟨_, rfl, h.1.symm, fun f hf => List.all_eq_true.1 h.2 f hf⟩
  | arr n e => cases d <;> simp [kOkB] at h; simp [KOk, h]
  | other =>
    refine ⟨fun f hf => ?_, fun n e hd => ?_⟩
    · subst hf; simp [kOkB] at h
    · subst hd; simp [kOkB] at h

def isAggV : Value → Bool
  | .agg _ => true
  | _ => false
def tyOkB (P : Program) (t : TypeId) (y : Ty) : Bool :=
  match P.info? t, P.underlying t with
  | some i, some d => decide (i.size = y.size) && decide (i.bytes = y.bytes) && kOkB P d y.kind && (match i.zero with
    | some z => decide (z.cells.size = i.size) && (match ofConstL z.cells.toList with
      | some l => V.beqL l y.zero
      | none => false) && (!y.kind.agg || isAggV z)
    | none => false)
  | _, _ => false
theorem tyOkB_ok {P : Program} {t : TypeId} {y : Ty} (h : tyOkB P t y = true) : TyOk P t y := by
  unfold tyOkB at h
  split at h
  · rename_i i d hi hd
    simp only [Bool.and_eq_true, decide_eq_true_eq] at h
    obtain ⟨⟨⟨h1, h2⟩, h3⟩, h4⟩ := h
    split at h4
    · rename_i z hz
      simp only [Bool.and_eq_true, decide_eq_true_eq, Bool.or_eq_true, Bool.not_eq_true'] at h4
      obtain ⟨⟨h5, h6⟩, h7⟩ := h4
      split at h6
      · rename_i l hl
        have e := beqL_eq _ _ h6
        subst e
        refine ⟨i, d, z, hi, h1, h2, hd, kOkB_ok h3, hz, h5, fun K w => ofConstL_rel _ _ hl, fun ha => ?_⟩
        rcases h7 with h7 | h7
        · rw [ha] at h7; cases h7
        · cases z <;> simp [isAggV] at h7
          rfl
      · cases h6
    · cases h4
  · cases h

/-! ### structs of plain cells, held against each other -/
def plainFields (P : Program) : Nat → List Field → Bool
  | _, [] => true
  | n, f :: r => decide (f.offset = n) && decide (f.name ≠ "_") && (match P.underlying f.type with
    | some .bool | some (.int _) | some .string => true
    | _ => false) && plainFields P (n + 1) r
def eqOkB (P : Program) (t : TypeId) : Bool :=
  !P.eqGuardType P.depth t && !P.stoodInHeld t && (match P.underlying t with
    | some (.struct fs) => plainFields P 0 fs.toList
    | _ => false)

theorem eqOkB_ok {C : Cfg} {P : Program} (hT : ∀ t y, C.ty t = some y → TyOk P t y) {t : TypeId} (h : eqOkB P t = true) : EqOk C P t := by
  unfold eqOkB at h
  simp only [Bool.and_eq_true, Bool.not_eq_true'] at h
  obtain ⟨⟨h1, h2⟩, h3⟩ := h
  refine ⟨h1, fun w K y fs' a b us vs r hy hk ha hb hr => ?_⟩
  split at h3
  · rename_i fs hu
    have hf : P.fieldsOf t = fs := by simp [Program.fieldsOf, hu]
    obtain ⟨fields, hu2, hfs, _⟩ := (hT t y hy).struct hk
    rw [hu] at hu2
    simp only [Option.some.injEq, TypeDesc.struct.injEq] at hu2
    subst hu2
    subst hfs
    rw [run_equalIn_agg w 9999 t us.toArray vs.toArray (by rw [hf]; exact hu) h2, hf]
    have key : ∀ (l : List Field) (n : Nat) (a' b' : List V) (r : Bool), plainFields P n l = true → a' = a.drop n → b' = b.drop n → eqCells C (l.map fun f => (f.offset, f.type)) a' b' = some r →
        (Op.eqFields 9999 us.toArray vs.toArray l).run P w = .ok r w := by
      intro l
      induction l with
      | nil =>
        intro n a' b' r _ _ _ he
        cases a' <;> cases b' <;> simp [eqCells] at he
        subst he
        simp [Op.eqFields]
      | cons f l ih =>
        intro n a' b' r hp ha' hb' he
        simp only [plainFields, Bool.and_eq_true, decide_eq_true_eq] at hp
        obtain ⟨⟨⟨p1, p2⟩, p4⟩, p5⟩ := hp
        match a', b', he with
        | [], [], he => simp [eqCells] at he
        | [], _ :: _, he => simp [eqCells] at he
        | _ :: _, [], he => simp [eqCells] at he
        | x :: a2, z :: b2, he =>
          simp only [List.map_cons, eqCells] at he
          split at he
          · rename_i fy hfy
            split at he
            · rename_i q1 q2 hq1 hq2
              simp at he
              have hx : a[n]? = some x := by
                have := congrArg (fun l : List V => l[0]?) ha'
                simpa using this.symm
              have hy' : b[n]? = some z := by
                have := congrArg (fun l : List V => l[0]?) hb'
                simpa using this.symm
              have hnu : n < us.length := by rw [← ha.1]; exact (List.getElem?_eq_some_iff.1 hx).1
              have hnv : n < vs.length := by rw [← hb.1]; exact (List.getElem?_eq_some_iff.1 hy').1
              have hrx := ha.2.2 n x us[n] hx (List.getElem?_eq_getElem hnu)
              have hry := hb.2.2 n z vs[n] hy' (List.getElem?_eq_getElem hnv)
              obtain ⟨d, hd, hkd⟩ := (hT _ _ hfy).under
              have hpart : ∀ (ws : List Value) (hn : n < ws.length), (Go.part f.type ws.toArray f.offset).run P w = .ok ws[n] w := by
                intro ws hn
                have hagg : (isAgg f.type).run P w = .ok false w := by
                  rw [hd] at p4
                  simp only [isAgg, Sem.run_bind, r_under hd, Result.andThen_ok]
                  cases d <;> first | rfl | cases p4
                simp [Go.part, hagg, p1, hn]
              have heq : (Op.equalIn 9999 f.type us[n] vs[n]).run P w = .ok q1 w := by
                generalize us[n] = u at hrx
                generalize vs[n] = v at hry
                unfold eqCell at hq1
                split at hq1
                · rename_i hkk
                  rw [hkk] at hkd; simp only [KOk] at hkd; subst hkd
                  simp at hq1; subst hq1; cases hrx; cases hry
                  exact run_equalIn_bool' w 9998 f.type _ _ hd
                · rename_i hkk
                  rw [hkk] at hkd; simp only [KOk] at hkd; subst hkd
                  split at hq1
                  · simp at hq1; subst hq1; rename_i hke; subst hke; cases hrx; cases hry
                    exact run_equalIn_int w 9998 f.type _ _ _ _ hd
                  · cases hq1
                · rename_i hkk
                  rw [hkk] at hkd; simp only [KOk] at hkd; subst hkd
                  simp at hq1; subst hq1; cases hrx; cases hry
                  exact run_equalIn_string w 9998 f.type _ _ hd
                · cases hq1
              have e2 := ih (n + 1) a2 b2 q2 p5 (by have := congrArg List.tail ha'; simpa using this) (by have := congrArg List.tail hb'; simpa using this) hq2
              simp only [Op.eqFields, p2, ne_eq, not_false_eq_true, if_true, Sem.run_bind, hpart us hnu, hpart vs hnv, Result.andThen_ok, heq]
              cases q1 with
              | true => simp [e2, ← he]
              | false => simp [← he]
            · cases he
          · cases he
    exact key fs.toList 0 a b r h3 (by simp) (by simp) hr
  · cases h3

def fnOkB (C : Cfg) (fi : FnI) : Bool := decide (fi.fn.name ≠ "runtime.NumGoroutine") && (match fi.fn.body with
  | some b => codeOk C fi b
  | none => false)
def FnsAt (P : Program) : List (Nat × FnI) → Prop
  | [] => True
  | p :: r => P.funcs[p.1]? = some p.2.fn ∧ FnsAt P r
theorem aget_mem {α : Type} : ∀ {l : List (Nat × α)} {i : Nat} {x : α}, aget l i = some x → (i, x) ∈ l
  | [], i, x, h => by simp [aget] at h
  | (k, v) :: r, i, x, h => by
    simp only [aget] at h
    split at h
    · rename_i hk; simp at h; subst h; subst hk; simp
    · exact List.mem_cons_of_mem _ (aget_mem h)
theorem fnsAt_mem {P : Program} : ∀ {l : List (Nat × FnI)}, FnsAt P l → ∀ p ∈ l, P.funcs[p.1]? = some p.2.fn
  | [], _, p, hp => by cases hp
  | q :: r, h, p, hp => by
    rcases List.mem_cons.1 hp with rfl | hp
    · exact h.1
    · exact fnsAt_mem h.2 p hp
theorem cfgOk_of {P : Program} {tys : List (Nat × Ty)} {fns : List (Nat × FnI)} {glob : Nat → Option (List V)} {eqs : List Nat} {intr : FuncId → Option (List V → St → Option (V × St))}
    (h1 : (tys.all fun p => tyOkB P p.1 p.2) = true) (h2 : (eqs.all fun t => eqOkB P t) = true) (h3 : (fns.all fun p => fnOkB { ty := aget tys, fn := aget fns, glob := glob, eqs := fun t => eqs.contains t, intr := intr } p.2) = true) (h4 : FnsAt P fns) (h5 : P.follows .mixedOrders = true) :
    CfgOk { ty := aget tys, fn := aget fns, glob := glob, eqs := fun t => eqs.contains t, intr := intr } P := by
  have hT : ∀ t y, aget tys t = some y → TyOk P t y := fun t y h => tyOkB_ok (List.all_eq_true.1 h1 _ (aget_mem h))
  refine ⟨hT, fun f fi h => ?_, fun t h => ?_, h5⟩
  · have hm := aget_mem h
    have hf := List.all_eq_true.1 h3 _ hm
    simp only [fnOkB, Bool.and_eq_true, decide_eq_true_eq] at hf
    obtain ⟨q1, q2⟩ := hf
    split at q2
    · rename_i b hb
      exact ⟨fnsAt_mem h4 _ hm, q1, b, hb, q2⟩
    · cases q2
  · have : t ∈ eqs := by simpa using h
    exact eqOkB_ok hT (List.all_eq_true.1 h2 t this)

/-! ### slices.Clone -/
def intrClone (sz : Nat) (args : List V) (s : St) : Option (V × St) :=
  match args with
  | [x] => match elems s x with
    | some [] => some (.nils, s)
    | some ys => if (ys.all fun v => v.storable && decide (v.cells.length = sz)) && decide (ys.length ≤ 100000000) then some (.ref s.nxt 0 sz 0 ys.length, { nxt := s.nxt + 1, objs := aset s.objs s.nxt ⟨sz, 0, false, ys.map V.cells⟩ }) else none
    | none => none
  | _ => none
end Go.Ilv

/- The evaluator without a count of steps: equations to reckon with. -/
set_option linter.unusedVariables false
set_option linter.unusedSimpArgs false
namespace Go.Ilv
open Go

open Classical in
/-- What a growing chain of answers comes to. -/
noncomputable def lim {α : Type} (g : Nat → Option α) : Option α := if h : ∃ a n, g n = some a then some (Classical.choose h) else none
def Mono {α : Type} (g : Nat → Option α) : Prop := ∀ n a, g n = some a → g (n + 1) = some a
theorem Mono.le {α : Type} {g : Nat → Option α} (h : Mono g) {n m : Nat} (hm : n ≤ m) {a : α} (hn : g n = some a) : g m = some a := by
  induction hm with
  | refl => exact hn
  | step _ ih => exact h _ _ ih
theorem lim_iff {α : Type} {g : Nat → Option α} (h : Mono g) {a : α} : lim g = some a ↔ ∃ n, g n = some a := by
  constructor
  · intro hl
    unfold lim at hl
    split at hl
    · rename_i he
      obtain ⟨n, hn⟩ := Classical.choose_spec he
      simp at hl
      rw [hl] at hn
      exact ⟨n, hn⟩
    · cases hl
  · rintro ⟨n, hn⟩
    have he : ∃ a n, g n = some a := ⟨a, n, hn⟩
    unfold lim
    rw [dif_pos he]
    obtain ⟨m, hm⟩ := Classical.choose_spec he
    have h1 := h.le (Nat.le_max_left n m) hn
    have h2 := h.le (Nat.le_max_right n m) hm
    rw [h1] at h2
    exact h2.symm

/-- One callee says no less than another. -/
def CalLe (c d : Callee) : Prop := ∀ f args s r, c f args s = some r → d f args s = some r
theorem CalLe.refl (c : Callee) : CalLe c c := fun _ _ _ _ h => h
theorem CalLe.trans {a b c : Callee} (h : CalLe a b) (g : CalLe b c) : CalLe a c := fun f as s r hr => g f as s r (h f as s r hr)

section
variable {C : Cfg} {c d : Callee}

theorem callV_le (h : CalLe c d) {p : Bool} {f : FuncId} {args : List V} {s : St} {r : V × St} (hr : callV c p f args s = some r) : callV d p f args s = some r := by
  unfold callV at hr ⊢
  split at hr
  · rename_i hp
    rw [if_pos hp]
    split at hr
    · split at hr
      · rename_i h1 _ _ h2
        rw [h _ _ _ _ h2]
        exact hr
      · cases hr
    · cases hr
  · rename_i hp
    rw [if_neg hp]
    exact h _ _ _ _ hr
theorem act_le (h : CalLe c d) {fi : FnI} {id : Nat} {o : Oper} {e : Env} {s : St} {r : V × St × Bool × Foot} (hr : act C c fi id o e s = some r) : act C d fi id o e s = some r := by
  cases hg : goCall o with
  | false => rw [act_plain hg] at hr ⊢; exact hr
  | true =>
    obtain ⟨f, args, ats, hop⟩ := goCall_op hg
    rw [act_go hop] at hr ⊢
    split at hr
    · split at hr
      · split at hr
        · rename_i h3
          rw [callV_le h h3]
          exact hr
        · cases hr
      · cases hr
    · cases hr
theorem stepOp_le (h : CalLe c d) {fi : FnI} {ops : Array Oper} {id i : Nat} {e : Env} {s : St} {r : Env × St × Bool × Foot} (hr : stepOp C c fi ops id i e s = some r) : stepOp C d fi ops id i e s = some r := by
  unfold stepOp at hr ⊢
  split at hr
  · exact hr
  · split at hr
    · split at hr
      · rename_i h3
        rw [act_le h h3]
        exact hr
      · cases hr
    · exact hr
    · cases hr
theorem runSeq_le (h : CalLe c d) {fi : FnI} {ops : Array Oper} : ∀ {l : List Nat} {e : Env} {s : St} {r : Env × St}, runSeq C c fi ops l e s = some r → runSeq C d fi ops l e s = some r
  | [], e, s, r, hr => hr
  | i :: l, e, s, r, hr => by
    simp only [runSeq] at hr ⊢
    split at hr
    · rename_i h3
      rw [stepOp_le h h3]
      exact runSeq_le h hr
    · cases hr
theorem runDraw_le (h : CalLe c d) {fi : FnI} {ops : Array Oper} {n0 : Nat} : ∀ {l : List Nat} {e : Env} {s : St} {r : Env × St}, runDraw C c fi ops n0 l e s = some r → runDraw C d fi ops n0 l e s = some r ∧ feet C d fi ops n0 l e s = feet C c fi ops n0 l e s
  | [], e, s, r, hr => ⟨hr, rfl⟩
  | i :: l, e, s, r, hr => by
    simp only [runDraw] at hr ⊢
    split at hr
    · rename_i h3
      have h4 := stepOp_le h h3
      obtain ⟨q1, q2⟩ := runDraw_le h hr
      rw [h4]
      refine ⟨q1, ?_⟩
      simp only [feet, h3, h4, q2]
    · cases hr
theorem runReg_le (h : CalLe c d) {fi : FnI} {id : Nat} {ops : Array Oper} {draw : Bool} {e : Env} {s : St} {r : Env × St} (hr : runReg C c fi id ops draw e s = some r) : runReg C d fi id ops draw e s = some r := by
  cases draw with
  | false => simp only [runReg, Bool.false_eq_true, if_false] at hr ⊢; exact runSeq_le h hr
  | true =>
    simp only [runReg, if_true] at hr ⊢
    generalize (if ops.any (bumps C fi) then ({ s with nxt := s.nxt + ops.size } : St) else s) = s0 at hr ⊢
    have hrun : runDraw C c fi ops s.nxt (List.range ops.size) e s0 = some r := by
      cases hc : aget fi.conf id with
      | none => rw [hc] at hr; simpa using hr
      | some l => rw [hc] at hr; simp only at hr; split at hr; exact hr; cases hr
    obtain ⟨q1, q2⟩ := runDraw_le h hrun
    rw [q1, q2]
    rw [hrun] at hr
    exact hr
theorem exec_le (h : CalLe c d) {fi : FnI} : ∀ {n m : Nat} {k : Code} {e : Env} {s : St} {r : Ex × Env × St}, n ≤ m → exec C c fi n k e s = some r → exec C d fi m k e s = some r := by
  intro n
  induction n with
  | zero => intro m k e s r _ hr; simp [exec] at hr
  | succ n ih =>
    intro m k e s r hm hr
    obtain ⟨m, rfl⟩ : ∃ m', m = m' + 1 := ⟨m - 1, by omega⟩
    have hm' : n ≤ m := by omega
    cases k <;> simp only [exec, reduceCtorEq] at hr ⊢ <;> try exact hr
    case region id ops draw =>
      split at hr
      · rename_i h3
        rw [runReg_le h h3]
        exact hr
      · cases hr
    case seq a b =>
      cases ha : exec C c fi n a e s with
      | none => rw [ha] at hr; cases hr
      | some x =>
        rw [ih hm' ha]
        rw [ha] at hr
        obtain ⟨ex, e1, s1⟩ := x
        cases ex with
        | normal => exact ih hm' hr
        | exit id => exact hr
        | ret => exact hr
    case cond x a b =>
      split at hr
      · exact ih hm' hr
      · cases hr
    case block id b =>
      cases ha : exec C c fi n b e s with
      | none => rw [ha] at hr; cases hr
      | some x =>
        rw [ih hm' ha]
        rw [ha] at hr
        obtain ⟨ex, e1, s1⟩ := x
        cases ex <;> exact hr
    case loop b =>
      cases ha : exec C c fi n b e s with
      | none => rw [ha] at hr; cases hr
      | some x =>
        rw [ih hm' ha]
        rw [ha] at hr
        obtain ⟨ex, e1, s1⟩ := x
        cases ex with
        | normal => exact ih hm' hr
        | exit id => exact hr
        | ret => exact hr
theorem body_le (h : CalLe c d) {fi : FnI} {n m : Nat} (hm : n ≤ m) {args : List V} {s : St} {r : V × St} (hr : body C c fi n args s = some r) : body C d fi m args s = some r := by
  unfold body at hr ⊢
  cases hb : fi.fn.body with
  | none => rw [hb] at hr; cases hr
  | some b =>
    rw [hb] at hr
    simp only at hr ⊢
    cases he : exec C c fi n b (enumE 0 args) s with
    | none => rw [he] at hr; cases hr
    | some x =>
      rw [exec_le h hm he]
      rw [he] at hr
      exact hr
theorem call_le : ∀ {n m : Nat}, n ≤ m → CalLe (call C n) (call C m) := by
  intro n
  induction n with
  | zero => intro m _ f args s r hr; simp [call] at hr
  | succ n ih =>
    intro m hm f args s r hr
    obtain ⟨m, rfl⟩ : ∃ m', m = m' + 1 := ⟨m - 1, by omega⟩
    simp only [call] at hr ⊢
    split at hr
    · exact hr
    · split at hr
      · exact body_le (ih (by omega)) (by omega) hr
      · cases hr

theorem call_mono (f : FuncId) (args : List V) (s : St) : Mono fun n => call C n f args s := fun n a h => call_le (Nat.le_succ n) f args s a h
theorem exec_mono {fi : FnI} (k : Code) (e : Env) (s : St) : Mono fun n => exec C (call C n) fi n k e s := fun n a h => exec_le (call_le (Nat.le_succ n)) (Nat.le_succ n) h
end

section
variable (C : Cfg)
/-- A call. -/
noncomputable def callL : Callee := fun f args s => lim fun n => call C n f args s
/-- A piece of code. -/
noncomputable def execL (fi : FnI) (k : Code) (e : Env) (s : St) : Option (Ex × Env × St) := lim fun n => exec C (call C n) fi n k e s
end

section
variable {C : Cfg} {fi : FnI} {e : Env} {s : St}

theorem callL_iff {f : FuncId} {args : List V} {r : V × St} : callL C f args s = some r ↔ ∃ n, call C n f args s = some r := lim_iff (call_mono f args s)
theorem execL_iff {k : Code} {r : Ex × Env × St} : execL C fi k e s = some r ↔ ∃ n, exec C (call C n) fi n k e s = some r := lim_iff (exec_mono k e s)
theorem call_leL (n : Nat) : CalLe (call C n) (callL C) := fun f args s r h => callL_iff.2 ⟨n, h⟩

theorem callV_lim {p : Bool} {f : FuncId} {args : List V} {r : V × St} (hr : callV (callL C) p f args s = some r) : ∃ n, callV (call C n) p f args s = some r := by
  unfold callV at hr
  split at hr
  · rename_i hp
    split at hr
    · rename_i as has
      split at hr
      · rename_i r1 s1 h2
        obtain ⟨n, hn⟩ := callL_iff.1 h2
        refine ⟨n, ?_⟩
        unfold callV
        rw [if_pos hp, has]
        simp only [hn]
        exact hr
      · cases hr
    · cases hr
  · rename_i hp
    obtain ⟨n, hn⟩ := callL_iff.1 hr
    exact ⟨n, by unfold callV; rw [if_neg hp]; exact hn⟩
theorem act_lim {id : Nat} {o : Oper} {r : V × St × Bool × Foot} (hr : act C (callL C) fi id o e s = some r) : ∃ n, act C (call C n) fi id o e s = some r := by
  cases hg : goCall o with
  | false => rw [act_plain hg] at hr; exact ⟨0, by rw [act_plain hg]; exact hr⟩
  | true =>
    obtain ⟨f, args, ats, hop⟩ := goCall_op hg
    rw [act_go hop] at hr
    split at hr
    · rename_i g cap as h1 h2
      split at hr
      · rename_i gi hgi
        split at hr
        · rename_i r1 s1 h3
          obtain ⟨n, hn⟩ := callV_lim h3
          refine ⟨n, ?_⟩
          rw [act_go hop, h1, h2]
          simp only [hgi, hn]
          exact hr
        · cases hr
      · cases hr
    · cases hr
theorem stepOp_lim {ops : Array Oper} {id i : Nat} {r : Env × St × Bool × Foot} (hr : stepOp C (callL C) fi ops id i e s = some r) : ∃ n, stepOp C (call C n) fi ops id i e s = some r := by
  unfold stepOp at hr
  split at hr
  · rename_i ho
    exact ⟨0, by unfold stepOp; rw [ho]; exact hr⟩
  · rename_i o ho
    split at hr
    · rename_i hw
      split at hr
      · rename_i v s1 b ft h3
        obtain ⟨n, hn⟩ := act_lim h3
        refine ⟨n, ?_⟩
        unfold stepOp
        rw [ho]
        simp only [hw, hn]
        exact hr
      · cases hr
    · rename_i hw
      exact ⟨0, by unfold stepOp; rw [ho]; simp only [hw]; exact hr⟩
    · cases hr
theorem runSeq_lim {ops : Array Oper} : ∀ {l : List Nat} {e : Env} {s : St} {r : Env × St}, runSeq C (callL C) fi ops l e s = some r → ∃ n, runSeq C (call C n) fi ops l e s = some r
  | [], e, s, r, hr => ⟨0, hr⟩
  | i :: l, e, s, r, hr => by
    simp only [runSeq] at hr
    split at hr
    · rename_i e1 s1 b ft h3
      obtain ⟨n, hn⟩ := stepOp_lim h3
      obtain ⟨m, hm⟩ := runSeq_lim hr
      refine ⟨max n m, ?_⟩
      simp only [runSeq, stepOp_le (call_le (Nat.le_max_left n m)) hn]
      exact runSeq_le (call_le (Nat.le_max_right n m)) hm
    · cases hr
theorem runDraw_lim {ops : Array Oper} {n0 : Nat} : ∀ {l : List Nat} {e : Env} {s : St} {r : Env × St}, runDraw C (callL C) fi ops n0 l e s = some r → ∃ n, runDraw C (call C n) fi ops n0 l e s = some r
  | [], e, s, r, hr => ⟨0, hr⟩
  | i :: l, e, s, r, hr => by
    simp only [runDraw] at hr
    split at hr
    · rename_i e1 s1 b ft h3
      obtain ⟨n, hn⟩ := stepOp_lim h3
      obtain ⟨m, hm⟩ := runDraw_lim hr
      refine ⟨max n m, ?_⟩
      simp only [runDraw, stepOp_le (call_le (Nat.le_max_left n m)) hn]
      exact (runDraw_le (call_le (Nat.le_max_right n m)) hm).1
    · cases hr
theorem runReg_lim {id : Nat} {ops : Array Oper} {draw : Bool} {r : Env × St} (hr : runReg C (callL C) fi id ops draw e s = some r) : ∃ n, runReg C (call C n) fi id ops draw e s = some r := by
  cases draw with
  | false =>
    simp only [runReg, Bool.false_eq_true, if_false] at hr ⊢
    exact runSeq_lim hr
  | true =>
    simp only [runReg, if_true] at hr ⊢
    generalize (if ops.any (bumps C fi) then ({ s with nxt := s.nxt + ops.size } : St) else s) = s0 at hr ⊢
    have hrun : runDraw C (callL C) fi ops s.nxt (List.range ops.size) e s0 = some r := by
      cases hc : aget fi.conf id with
      | none => rw [hc] at hr; simpa using hr
      | some l => rw [hc] at hr; simp only at hr; split at hr; exact hr; cases hr
    obtain ⟨n, hn⟩ := runDraw_lim hrun
    obtain ⟨q1, q2⟩ := runDraw_le (call_leL n) hn
    refine ⟨n, ?_⟩
    rw [hn, ← q2]
    rw [hrun] at hr
    exact hr

theorem execL_skip : execL C fi .skip e s = some (.normal, e, s) := execL_iff.2 ⟨1, rfl⟩
theorem execL_exit {id : Nat} : execL C fi (.exit id) e s = some (.exit id, e, s) := execL_iff.2 ⟨1, rfl⟩
theorem execL_ret : execL C fi .ret e s = some (.ret, e, s) := execL_iff.2 ⟨1, rfl⟩
theorem execL_region {id : Nat} {ops : Array Oper} {draw : Bool} : execL C fi (.region id ops draw) e s = match runReg C (callL C) fi id ops draw e s with
    | some (e', s') => some (.normal, liveE fi id e', s')
    | none => none := by
  apply Option.ext
  intro out
  rw [execL_iff]
  constructor
  · rintro ⟨n, hn⟩
    cases n with
    | zero => simp [exec] at hn
    | succ n =>
      simp only [exec] at hn
      split at hn
      · rename_i e1 s1 h1
        rw [runReg_le (call_leL (n + 1)) h1]
        exact hn
      · cases hn
  · intro h
    split at h
    · rename_i e1 s1 h1
      obtain ⟨n, hn⟩ := runReg_lim h1
      refine ⟨n + 1, ?_⟩
      simp only [exec, runReg_le (call_le (Nat.le_succ n)) hn]
      exact h
    · cases h
theorem execL_seq {a b : Code} : execL C fi (.seq a b) e s = match execL C fi a e s with
    | some (.normal, e', s') => execL C fi b e' s'
    | r => r := by
  apply Option.ext
  intro out
  rw [execL_iff]
  constructor
  · rintro ⟨n, hn⟩
    cases n with
    | zero => simp [exec] at hn
    | succ n =>
      simp only [exec] at hn
      cases ha : exec C (call C (n + 1)) fi n a e s with
      | none => rw [ha] at hn; cases hn
      | some x =>
        rw [execL_iff.2 ⟨n + 1, exec_le (CalLe.refl _) (Nat.le_succ n) ha⟩]
        rw [ha] at hn
        obtain ⟨ex, e1, s1⟩ := x
        cases ex with
        | normal => exact execL_iff.2 ⟨n + 1, exec_le (CalLe.refl _) (Nat.le_succ n) hn⟩
        | exit id => exact hn
        | ret => exact hn
  · intro h
    cases ha : execL C fi a e s with
    | none => rw [ha] at h; cases h
    | some x =>
      rw [ha] at h
      obtain ⟨n, hn⟩ := execL_iff.1 ha
      obtain ⟨ex, e1, s1⟩ := x
      cases ex with
      | normal =>
        obtain ⟨m, hm⟩ := execL_iff.1 h
        refine ⟨max n m + 1, ?_⟩
        simp only [exec]
        rw [exec_le (call_le (Nat.le_succ_of_le (Nat.le_max_left n m))) (Nat.le_max_left n m) hn]
        exact exec_le (call_le (Nat.le_succ_of_le (Nat.le_max_right n m))) (Nat.le_max_right n m) hm
      | exit id => exact ⟨n + 1, by simp only [exec]; rw [exec_le (call_le (Nat.le_succ n)) (Nat.le_refl n) hn]; exact h⟩
      | ret => exact ⟨n + 1, by simp only [exec]; rw [exec_le (call_le (Nat.le_succ n)) (Nat.le_refl n) hn]; exact h⟩
theorem execL_cond {x : Operand} {a b : Code} : execL C fi (.cond x a b) e s = match opnd C e x with
    | some (.bool t) => execL C fi (if t then a else b) e s
    | _ => none := by
  apply Option.ext
  intro out
  rw [execL_iff]
  constructor
  · rintro ⟨n, hn⟩
    cases n with
    | zero => simp [exec] at hn
    | succ n =>
      simp only [exec] at hn
      split at hn
      · rename_i t ht
        simp only [ht]
        exact execL_iff.2 ⟨n + 1, exec_le (CalLe.refl _) (Nat.le_succ n) hn⟩
      · cases hn
  · intro h
    split at h
    · rename_i t ht
      obtain ⟨n, hn⟩ := execL_iff.1 h
      exact ⟨n + 1, by simp only [exec, ht]; exact exec_le (call_le (Nat.le_succ n)) (Nat.le_refl n) hn⟩
    · cases h
theorem execL_block {id : Nat} {b : Code} : execL C fi (.block id b) e s = match execL C fi b e s with
    | some (.exit j, e', s') => if j = id then some (.normal, e', s') else some (.exit j, e', s')
    | r => r := by
  apply Option.ext
  intro out
  rw [execL_iff]
  constructor
  · rintro ⟨n, hn⟩
    cases n with
    | zero => simp [exec] at hn
    | succ n =>
      simp only [exec] at hn
      cases ha : exec C (call C (n + 1)) fi n b e s with
      | none => rw [ha] at hn; cases hn
      | some x =>
        rw [execL_iff.2 ⟨n + 1, exec_le (CalLe.refl _) (Nat.le_succ n) ha⟩]
        rw [ha] at hn
        exact hn
  · intro h
    cases ha : execL C fi b e s with
    | none => rw [ha] at h; cases h
    | some x =>
      rw [ha] at h
      obtain ⟨n, hn⟩ := execL_iff.1 ha
      exact ⟨n + 1, by simp only [exec]; rw [exec_le (call_le (Nat.le_succ n)) (Nat.le_refl n) hn]; exact h⟩
theorem execL_loop {b : Code} : execL C fi (.loop b) e s = match execL C fi b e s with
    | some (.normal, e', s') => execL C fi (.loop b) e' s'
    | r => r := by
  apply Option.ext
  intro out
  rw [execL_iff]
  constructor
  · rintro ⟨n, hn⟩
    cases n with
    | zero => simp [exec] at hn
    | succ n =>
      simp only [exec] at hn
      cases ha : exec C (call C (n + 1)) fi n b e s with
      | none => rw [ha] at hn; cases hn
      | some x =>
        rw [execL_iff.2 ⟨n + 1, exec_le (CalLe.refl _) (Nat.le_succ n) ha⟩]
        rw [ha] at hn
        obtain ⟨ex, e1, s1⟩ := x
        cases ex with
        | normal => exact execL_iff.2 ⟨n + 1, exec_le (CalLe.refl _) (Nat.le_succ n) hn⟩
        | exit id => exact hn
        | ret => exact hn
  · intro h
    cases ha : execL C fi b e s with
    | none => rw [ha] at h; cases h
    | some x =>
      rw [ha] at h
      obtain ⟨n, hn⟩ := execL_iff.1 ha
      obtain ⟨ex, e1, s1⟩ := x
      cases ex with
      | normal =>
        obtain ⟨m, hm⟩ := execL_iff.1 h
        refine ⟨max n m + 1, ?_⟩
        simp only [exec]
        rw [exec_le (call_le (Nat.le_succ_of_le (Nat.le_max_left n m))) (Nat.le_max_left n m) hn]
        exact exec_le (call_le (Nat.le_succ_of_le (Nat.le_max_right n m))) (Nat.le_max_right n m) hm
      | exit id => exact ⟨n + 1, by simp only [exec]; rw [exec_le (call_le (Nat.le_succ n)) (Nat.le_refl n) hn]; exact h⟩
      | ret => exact ⟨n + 1, by simp only [exec]; rw [exec_le (call_le (Nat.le_succ n)) (Nat.le_refl n) hn]; exact h⟩

/-- A body, from its code's end on. -/
def finish (C : Cfg) (fi : FnI) (base : Nat) : Option (Ex × Env × St) → Option (V × St)
  | some (.exit _, _, _) | none => none
  | some (_, e, s') => match results C fi e s' with
    | some r => some (r, if fi.keep then s' else s'.killVars base)
    | none => none
theorem callL_eq {f : FuncId} {args : List V} {b : Code} (hi : C.intr f = none) (hf : C.fn f = some fi) (hb : fi.fn.body = some b) : callL C f args s = finish C fi s.nxt (execL C fi b (enumE 0 args) s) := by
  apply Option.ext
  intro out
  rw [callL_iff]
  have hbody : ∀ n, body C (call C n) fi n args s = finish C fi s.nxt (exec C (call C n) fi n b (enumE 0 args) s) := by
    intro n
    unfold body finish
    rw [hb]
    simp only
    cases h : exec C (call C n) fi n b (enumE 0 args) s with
    | none => rfl
    | some x => obtain ⟨ex, e1, s1⟩ := x; cases ex <;> rfl
  constructor
  · rintro ⟨n, hn⟩
    cases n with
    | zero => simp [call] at hn
    | succ n =>
      simp only [call, hi, hf, hbody] at hn
      cases ha : exec C (call C n) fi n b (enumE 0 args) s with
      | none => rw [ha] at hn; cases hn
      | some x => rw [execL_iff.2 ⟨n, ha⟩]; rw [ha] at hn; exact hn
  · intro h
    cases ha : execL C fi b (enumE 0 args) s with
    | none => rw [ha] at h; cases h
    | some x =>
      rw [ha] at h
      obtain ⟨n, hn⟩ := execL_iff.1 ha
      exact ⟨n + 1, by simp only [call, hi, hf, hbody, hn]; exact h⟩
theorem callL_intr {f : FuncId} {args : List V} {g : List V → St → Option (V × St)} (hi : C.intr f = some g) : callL C f args s = g args s := by
  apply Option.ext
  intro out
  rw [callL_iff]
  constructor
  · rintro ⟨n, hn⟩
    cases n with
    | zero => simp [call] at hn
    | succ n => simpa only [call, hi] using hn
  · intro h
    exact ⟨1, by simpa only [call, hi] using h⟩

/-- What the equations say of a call, the machine does. -/
theorem callL_sound {P : Program} (hC : CfgOk C P) (hI : IntrOk C P) : Sound C P (callL C) := by
  intro f args s r s' h
  obtain ⟨n, hn⟩ := callL_iff.1 h
  exact call_sound hC hI n f args s r s' hn
end
end Go.Ilv

/- The evaluator's equations, in the form in which a rewriter takes them. -/
set_option linter.unusedVariables false
set_option linter.unusedSimpArgs false
namespace Go.Ilv
open Go

/-- What stands first is told first. -/
def bnd {α β : Type} (a : Option α) (f : α → Option β) : Option β := a.bind f
@[congr] theorem bnd_congr {α β : Type} {a a' : Option α} {f : α → Option β} (h : a = a') : bnd a f = bnd a' f := by rw [h]
theorem bnd_some {α β : Type} (a : α) (f : α → Option β) : bnd (some a) f = f a := rfl
theorem bnd_none {α β : Type} (f : α → Option β) : bnd none f = none := rfl

/-- An operation in short. -/
structure Ins where
  dst : Option Nat
  op : Op
  guard : Option (Option Nat × Bool)
def ins (ops : Array Oper) (o : Oper) : Ins := ⟨o.dst, o.op, o.guard.map fun g => ((ops[g.1]?).bind (·.dst), g.2)⟩
def inss (ops : Array Oper) : List Ins := ops.toList.map (ins ops)

def wantedI (g : Option (Option Nat × Bool)) (e : Env) : Option Bool := match g with
  | none => some true
  | some (none, _) => none
  | some (some d, want) => match aget e d with
    | some (.bool b) => some (b == want)
    | some .undef => some false
    | _ => none
theorem wanted_ins (ops : Array Oper) (o : Oper) (e : Env) : wantedE ops o e = wantedI (ins ops o).guard e := by
  unfold wantedE wantedI ins
  cases hg : o.guard with
  | none => rfl
  | some p =>
    obtain ⟨g, want⟩ := p
    simp only [Option.map_some]
    cases (ops[g]?).bind (·.dst) <;> rfl

section
variable (C : Cfg) (cal : Callee) (fi : FnI)

def frzD (dst : Option Nat) : Bool := match dst with
  | some d => fi.frz.contains d
  | none => false
/-- A call of a Go function. -/
def callI (f : Operand) (args : Array Operand) (e : Env) (s : St) : Option (V × St) :=
  match opnd C e f, opnds C e args.toList with
  | some (.fn g cap), some as => match C.fn g with
    | some gi => callV cal gi.pure g (as ++ cap) s
    | none => none
  | _, _ => none
def actI (dst : Option Nat) (id : Nat) (op : Op) (e : Env) (s : St) : Option (V × St × Bool) :=
  match op with
  | .call { callee := .value f, args, .. } => (callI C cal f args e s).map fun r => (r.1, r.2, false)
  | op => (prim C (frzD fi dst) e s id op).map fun r => (r.1, r.2.on s, match r.2 with
    | .set i _ => i == id
    | .none => false)

theorem act_actI (id : Nat) (o : Oper) (e : Env) (s : St) : (act C cal fi id o e s).map (fun r => (r.1, r.2.1, r.2.2.1)) = actI C cal fi o.dst id o.op e s := by
  cases hg : goCall o with
  | false =>
    rw [act_plain hg]
    have : actI C cal fi o.dst id o.op e s = (prim C (frzD fi o.dst) e s id o.op).map fun r => (r.1, r.2.on s, match r.2 with
        | .set i _ => i == id
        | .none => false) := by
      unfold actI
      split
      · rename_i h; simp [goCall, h] at hg
      · rfl
    rw [this]
    have hf : frzOf fi o = frzD fi o.dst := rfl
    rw [hf]
    cases prim C (frzD fi o.dst) e s id o.op with
    | none => rfl
    | some x => obtain ⟨v, eff⟩ := x; cases eff <;> rfl
  | true =>
    obtain ⟨f, args, ats, hop⟩ := goCall_op hg
    rw [act_go hop]
    simp only [actI, hop, callI]
    split
    · rename_i g cap as h1 h2
      simp only [h1, h2]
      split
      · rename_i gi hgi
        simp only [hgi]
        cases callV cal gi.pure g (as ++ cap) s with
        | none => rfl
        | some x => rfl
      · rename_i hgi; simp only [hgi]; rfl
    · rename_i hne
      split
      · rename_i g cap as h1 h2; exact absurd h2 (hne g cap as h1)
      · rfl

def bump (s : St) : St := { s with nxt := s.nxt + 1 }
def runI : List Ins → Env → St → Option (Env × St)
  | [], e, s => some (e, s)
  | i :: r, e, s => match wantedI i.guard e with
    | some true => match actI C cal fi i.dst s.nxt i.op e s with
      | some (v, s', b) => runI r (putE e i.dst v) (if b then bump s' else s')
      | none => none
    | some false => runI r (putE e i.dst .undef) s
    | none => none
/-- The operations of a region of open order. -/
def runDI (n0 : Nat) : List Ins → Nat → Env → St → Option (Env × St)
  | [], _, e, s => some (e, s)
  | i :: r, k, e, s => match wantedI i.guard e with
    | some true => match actI C cal fi i.dst (n0 + k) i.op e s with
      | some (v, s', _) => runDI n0 r (k + 1) (putE e i.dst v) s'
      | none => none
    | some false => runDI n0 r (k + 1) (putE e i.dst .undef) s
    | none => none

theorem stepOp_ins {ops : Array Oper} {i : Nat} {o : Oper} (ho : ops[i]? = some o) (id : Nat) (e : Env) (s : St) : (stepOp C cal fi ops id i e s).map (fun r => (r.1, r.2.1, r.2.2.1)) = match wantedI (ins ops o).guard e with
    | some true => match actI C cal fi o.dst id o.op e s with
      | some (v, s', b) => some (putE e o.dst v, s', b)
      | none => none
    | some false => some (putE e o.dst .undef, s, false)
    | none => none := by
  unfold stepOp
  rw [ho]
  simp only [wanted_ins]
  cases wantedI (ins ops o).guard e with
  | none => rfl
  | some b =>
    cases b with
    | false => rfl
    | true =>
      rw [← act_actI]
      cases act C cal fi id o e s with
      | none => rfl
      | some x => rfl

theorem runSeq_runI (ops : Array Oper) : ∀ (n : Nat) (e : Env) (s : St), runSeq C cal fi ops (List.range' n (ops.size - n)) e s = runI C cal fi ((ops.toList.drop n).map (ins ops)) e s := by
  intro n
  generalize hm : ops.size - n = m
  induction m generalizing n with
  | zero =>
    intro e s
    rw [List.drop_eq_nil_of_le (by simp; omega)]
    rfl
  | succ m ih =>
    intro e s
    have hn : n < ops.size := by omega
    have hd : ops.toList.drop n = ops[n] :: ops.toList.drop (n + 1) := by
      rw [List.drop_eq_getElem_cons (by simpa using hn)]; simp
    rw [hd]
    simp only [List.range'_succ, List.map_cons, runSeq, runI]
    have hs := stepOp_ins C cal fi (i := n) (Array.getElem?_eq_getElem hn) s.nxt e s
    have e1 : (ins ops ops[n]).dst = ops[n].dst := rfl
    have e2 : (ins ops ops[n]).op = ops[n].op := rfl
    rw [e1, e2]
    cases hw : wantedI (ins ops ops[n]).guard e with
    | none =>
      rw [hw] at hs
      cases hst : stepOp C cal fi ops s.nxt n e s with
      | none => rfl
      | some x => rw [hst] at hs; cases hs
    | some b =>
      rw [hw] at hs
      cases b with
      | false =>
        simp only at hs ⊢
        cases hst : stepOp C cal fi ops s.nxt n e s with
        | none => rw [hst] at hs; cases hs
        | some x =>
          rw [hst] at hs
          obtain ⟨a, b, c, d⟩ := x
          simp at hs
          obtain ⟨rfl, rfl, rfl⟩ := hs
          exact ih (n + 1) (by omega) _ _
      | true =>
        simp only at hs ⊢
        cases ha : actI C cal fi ops[n].dst s.nxt ops[n].op e s with
        | none =>
          rw [ha] at hs
          cases hst : stepOp C cal fi ops s.nxt n e s with
          | none => rfl
          | some x => rw [hst] at hs; cases hs
        | some y =>
          rw [ha] at hs
          cases hst : stepOp C cal fi ops s.nxt n e s with
          | none => rw [hst] at hs; cases hs
          | some x =>
            rw [hst] at hs
            obtain ⟨a, b, c, d⟩ := x
            obtain ⟨v, s', b'⟩ := y
            simp at hs
            obtain ⟨rfl, rfl, rfl⟩ := hs
            exact ih (n + 1) (by omega) _ _
theorem runDraw_runDI (ops : Array Oper) (n0 : Nat) : ∀ (n : Nat) (e : Env) (s : St), runDraw C cal fi ops n0 (List.range' n (ops.size - n)) e s = runDI C cal fi n0 ((ops.toList.drop n).map (ins ops)) n e s := by
  intro n
  generalize hm : ops.size - n = m
  induction m generalizing n with
  | zero =>
    intro e s
    rw [List.drop_eq_nil_of_le (by simp; omega)]
    rfl
  | succ m ih =>
    intro e s
    have hn : n < ops.size := by omega
    have hd : ops.toList.drop n = ops[n] :: ops.toList.drop (n + 1) := by
      rw [List.drop_eq_getElem_cons (by simpa using hn)]; simp
    rw [hd]
    simp only [List.range'_succ, List.map_cons, runDraw, runDI]
    have hs := stepOp_ins C cal fi (i := n) (Array.getElem?_eq_getElem hn) (n0 + n) e s
    have e1 : (ins ops ops[n]).dst = ops[n].dst := rfl
    have e2 : (ins ops ops[n]).op = ops[n].op := rfl
    rw [e1, e2]
    cases hw : wantedI (ins ops ops[n]).guard e with
    | none =>
      rw [hw] at hs
      cases hst : stepOp C cal fi ops (n0 + n) n e s with
      | none => rfl
      | some x => rw [hst] at hs; cases hs
    | some b =>
      rw [hw] at hs
      cases b with
      | false =>
        simp only at hs ⊢
        cases hst : stepOp C cal fi ops (n0 + n) n e s with
        | none => rw [hst] at hs; cases hs
        | some x =>
          rw [hst] at hs
          obtain ⟨a, b, c, d⟩ := x
          simp at hs
          obtain ⟨rfl, rfl, rfl⟩ := hs
          exact ih (n + 1) (by omega) _ _
      | true =>
        simp only at hs ⊢
        cases ha : actI C cal fi ops[n].dst (n0 + n) ops[n].op e s with
        | none =>
          rw [ha] at hs
          cases hst : stepOp C cal fi ops (n0 + n) n e s with
          | none => rfl
          | some x => rw [hst] at hs; cases hs
        | some y =>
          rw [ha] at hs
          cases hst : stepOp C cal fi ops (n0 + n) n e s with
          | none => rw [hst] at hs; cases hs
          | some x =>
            rw [hst] at hs
            obtain ⟨a, b, c, d⟩ := x
            obtain ⟨v, s', b'⟩ := y
            simp at hs
            obtain ⟨rfl, rfl, rfl⟩ := hs
            exact ih (n + 1) (by omega) _ _

theorem reg_seq (id : Nat) (ops : Array Oper) (e : Env) (s : St) : runReg C cal fi id ops false e s = runI C cal fi (inss ops) e s := by
  have := runSeq_runI C cal fi ops 0 e s
  simp only [Nat.sub_zero, List.drop_zero] at this
  simp only [runReg, Bool.false_eq_true, if_false, List.range_eq_range']
  exact this
/-- A region of open order in which nothing may meet. -/
def regD (id : Nat) (ops : Array Oper) (e : Env) (s : St) : Option (Env × St) :=
  let s0 : St := if ops.any (bumps C fi) then { s with nxt := s.nxt + ops.size } else s
  bif (match aget fi.conf id with
    | none => true
    | some l => let fs := feet C cal fi ops s.nxt (List.range ops.size) e s0
      l.all fun p => (footAt fs p.1).indep (footAt fs p.2)) then runDI C cal fi s.nxt (inss ops) 0 e s0 else none
theorem reg_draw (id : Nat) (ops : Array Oper) (e : Env) (s : St) : runReg C cal fi id ops true e s = regD C cal fi id ops e s := by
  have h := runDraw_runDI C cal fi ops s.nxt 0
  simp only [Nat.sub_zero, List.drop_zero, ← List.range_eq_range'] at h
  simp only [runReg, if_true, regD, cond_eq_ite, h, inss]
  generalize aget fi.conf id = c
  cases c <;> rfl
theorem regD_plain {id : Nat} {ops : Array Oper} {e : Env} {s : St} (h1 : aget fi.conf id = none) (h2 : ops.any (bumps C fi) = false) : regD C cal fi id ops e s = runDI C cal fi s.nxt (inss ops) 0 e s := by
  simp [regD, h1, h2]
theorem regD_bumps {id : Nat} {ops : Array Oper} {e : Env} {s : St} (h1 : aget fi.conf id = none) (h2 : ops.any (bumps C fi) = true) : regD C cal fi id ops e s = runDI C cal fi s.nxt (inss ops) 0 e { s with nxt := s.nxt + ops.size } := by
  simp [regD, h1, h2]
end

section
variable {C : Cfg} {cal : Callee} {fi : FnI} {e : Env} {s : St} {r : List Ins} {dst : Option Nat} {frz : Bool} {id : Nat}

/-- What follows an operation. -/
def stepK (C : Cfg) (cal : Callee) (fi : FnI) (r : List Ins) (dst : Option Nat) (e : Env) (s : St) : V × Eff → Option (Env × St)
  | (v, .none) => runI C cal fi r (putE e dst v) s
  | (v, .set i o) => runI C cal fi r (putE e dst v) (bif i == s.nxt then ⟨s.nxt + 1, aset s.objs i o⟩ else ⟨s.nxt, aset s.objs i o⟩)
def stepD (C : Cfg) (cal : Callee) (fi : FnI) (n0 : Nat) (r : List Ins) (k : Nat) (dst : Option Nat) (e : Env) (s : St) : V × Eff → Option (Env × St)
  | (v, .none) => runDI C cal fi n0 r (k + 1) (putE e dst v) s
  | (v, .set i o) => runDI C cal fi n0 r (k + 1) (putE e dst v) ⟨s.nxt, aset s.objs i o⟩
def callK (C : Cfg) (cal : Callee) (fi : FnI) (r : List Ins) (dst : Option Nat) (e : Env) : V × St → Option (Env × St)
  | (v, s) => runI C cal fi r (putE e dst v) s
def callD (C : Cfg) (cal : Callee) (fi : FnI) (n0 : Nat) (r : List Ins) (k : Nat) (dst : Option Nat) (e : Env) : V × St → Option (Env × St)
  | (v, s) => runDI C cal fi n0 r (k + 1) (putE e dst v) s
theorem runI_prim {op : Op} (h : ∀ f args ats, op ≠ .call { callee := .value f, args := args, argTypes := ats }) : runI C cal fi (⟨dst, op, none⟩ :: r) e s = bnd (prim C (frzD fi dst) e s s.nxt op) (stepK C cal fi r dst e s) := by
  have ha : actI C cal fi dst s.nxt op e s = (prim C (frzD fi dst) e s s.nxt op).map fun r => (r.1, r.2.on s, match r.2 with
        | .set i _ => i == s.nxt
        | .none => false) := by
    unfold actI
    split
    · rename_i h'; exact absurd rfl (h _ _ _)
    · rfl
  simp only [runI, wantedI, ha]
  cases prim C (frzD fi dst) e s s.nxt op with
  | none => rfl
  | some x =>
    obtain ⟨v, eff⟩ := x
    cases eff with
    | none => rfl
    | set i o =>
      simp only [Option.map_some, bnd_some, stepK, Eff.on, St.set]
      cases i == s.nxt <;> rfl
theorem runDI_prim {n0 k : Nat} {op : Op} (h : ∀ f args ats, op ≠ .call { callee := .value f, args := args, argTypes := ats }) : runDI C cal fi n0 (⟨dst, op, none⟩ :: r) k e s = bnd (prim C (frzD fi dst) e s (n0 + k) op) (stepD C cal fi n0 r k dst e s) := by
  have ha : actI C cal fi dst (n0 + k) op e s = (prim C (frzD fi dst) e s (n0 + k) op).map fun r => (r.1, r.2.on s, match r.2 with
        | .set i _ => i == (n0 + k)
        | .none => false) := by
    unfold actI
    split
    · rename_i h'; exact absurd rfl (h _ _ _)
    · rfl
  simp only [runDI, wantedI, ha]
  cases prim C (frzD fi dst) e s (n0 + k) op with
  | none => rfl
  | some x => obtain ⟨v, eff⟩ := x; cases eff <;> rfl
theorem i_move {x : Operand} : runI C cal fi (⟨dst, .move x, none⟩ :: r) e s = bnd (prim C (frzD fi dst) e s s.nxt (.move x)) (stepK C cal fi r dst e s) := runI_prim (by intro _ _ _ h; cases h)
theorem d_move {n0 k : Nat} {x : Operand} : runDI C cal fi n0 (⟨dst, .move x, none⟩ :: r) k e s = bnd (prim C (frzD fi dst) e s (n0 + k) (.move x)) (stepD C cal fi n0 r k dst e s) := runDI_prim (by intro _ _ _ h; cases h)
theorem i_assign {x : Operand} : runI C cal fi (⟨dst, .assign x, none⟩ :: r) e s = bnd (prim C (frzD fi dst) e s s.nxt (.assign x)) (stepK C cal fi r dst e s) := runI_prim (by intro _ _ _ h; cases h)
theorem d_assign {n0 k : Nat} {x : Operand} : runDI C cal fi n0 (⟨dst, .assign x, none⟩ :: r) k e s = bnd (prim C (frzD fi dst) e s (n0 + k) (.assign x)) (stepD C cal fi n0 r k dst e s) := runDI_prim (by intro _ _ _ h; cases h)
theorem i_pick {x y z : Operand} : runI C cal fi (⟨dst, .pick x y z, none⟩ :: r) e s = bnd (prim C (frzD fi dst) e s s.nxt (.pick x y z)) (stepK C cal fi r dst e s) := runI_prim (by intro _ _ _ h; cases h)
theorem d_pick {n0 k : Nat} {x y z : Operand} : runDI C cal fi n0 (⟨dst, .pick x y z, none⟩ :: r) k e s = bnd (prim C (frzD fi dst) e s (n0 + k) (.pick x y z)) (stepD C cal fi n0 r k dst e s) := runDI_prim (by intro _ _ _ h; cases h)
theorem i_alloc {t : TypeId} : runI C cal fi (⟨dst, .alloc t, none⟩ :: r) e s = bnd (prim C (frzD fi dst) e s s.nxt (.alloc t)) (stepK C cal fi r dst e s) := runI_prim (by intro _ _ _ h; cases h)
theorem d_alloc {n0 k : Nat} {t : TypeId} : runDI C cal fi n0 (⟨dst, .alloc t, none⟩ :: r) k e s = bnd (prim C (frzD fi dst) e s (n0 + k) (.alloc t)) (stepD C cal fi n0 r k dst e s) := runDI_prim (by intro _ _ _ h; cases h)
theorem i_box {t : TypeId} {x : Operand} : runI C cal fi (⟨dst, .box t x, none⟩ :: r) e s = bnd (prim C (frzD fi dst) e s s.nxt (.box t x)) (stepK C cal fi r dst e s) := runI_prim (by intro _ _ _ h; cases h)
theorem d_box {n0 k : Nat} {t : TypeId} {x : Operand} : runDI C cal fi n0 (⟨dst, .box t x, none⟩ :: r) k e s = bnd (prim C (frzD fi dst) e s (n0 + k) (.box t x)) (stepD C cal fi n0 r k dst e s) := runDI_prim (by intro _ _ _ h; cases h)
theorem i_build {t : TypeId} {ps : Array (Nat × Operand)} : runI C cal fi (⟨dst, .build t ps, none⟩ :: r) e s = bnd (prim C (frzD fi dst) e s s.nxt (.build t ps)) (stepK C cal fi r dst e s) := runI_prim (by intro _ _ _ h; cases h)
theorem d_build {n0 k : Nat} {t : TypeId} {ps : Array (Nat × Operand)} : runDI C cal fi n0 (⟨dst, .build t ps, none⟩ :: r) k e s = bnd (prim C (frzD fi dst) e s (n0 + k) (.build t ps)) (stepD C cal fi n0 r k dst e s) := runDI_prim (by intro _ _ _ h; cases h)
theorem i_buildSlice {t : TypeId} {n : Nat} {ps : Array (Nat × Operand)} : runI C cal fi (⟨dst, .buildSlice t n ps, none⟩ :: r) e s = bnd (prim C (frzD fi dst) e s s.nxt (.buildSlice t n ps)) (stepK C cal fi r dst e s) := runI_prim (by intro _ _ _ h; cases h)
theorem d_buildSlice {n0 k : Nat} {t : TypeId} {n : Nat} {ps : Array (Nat × Operand)} : runDI C cal fi n0 (⟨dst, .buildSlice t n ps, none⟩ :: r) k e s = bnd (prim C (frzD fi dst) e s (n0 + k) (.buildSlice t n ps)) (stepD C cal fi n0 r k dst e s) := runDI_prim (by intro _ _ _ h; cases h)
theorem i_load {t : TypeId} {x : Operand} : runI C cal fi (⟨dst, .load t x, none⟩ :: r) e s = bnd (prim C (frzD fi dst) e s s.nxt (.load t x)) (stepK C cal fi r dst e s) := runI_prim (by intro _ _ _ h; cases h)
theorem d_load {n0 k : Nat} {t : TypeId} {x : Operand} : runDI C cal fi n0 (⟨dst, .load t x, none⟩ :: r) k e s = bnd (prim C (frzD fi dst) e s (n0 + k) (.load t x)) (stepD C cal fi n0 r k dst e s) := runDI_prim (by intro _ _ _ h; cases h)
theorem i_store {t : TypeId} {p x : Operand} : runI C cal fi (⟨dst, .store t p x, none⟩ :: r) e s = bnd (prim C (frzD fi dst) e s s.nxt (.store t p x)) (stepK C cal fi r dst e s) := runI_prim (by intro _ _ _ h; cases h)
theorem d_store {n0 k : Nat} {t : TypeId} {p x : Operand} : runDI C cal fi n0 (⟨dst, .store t p x, none⟩ :: r) k e s = bnd (prim C (frzD fi dst) e s (n0 + k) (.store t p x)) (stepD C cal fi n0 r k dst e s) := runDI_prim (by intro _ _ _ h; cases h)
theorem i_nilCheck {x : Operand} : runI C cal fi (⟨dst, .nilCheck x, none⟩ :: r) e s = bnd (prim C (frzD fi dst) e s s.nxt (.nilCheck x)) (stepK C cal fi r dst e s) := runI_prim (by intro _ _ _ h; cases h)
theorem d_nilCheck {n0 k : Nat} {x : Operand} : runDI C cal fi n0 (⟨dst, .nilCheck x, none⟩ :: r) k e s = bnd (prim C (frzD fi dst) e s (n0 + k) (.nilCheck x)) (stepD C cal fi n0 r k dst e s) := runDI_prim (by intro _ _ _ h; cases h)
theorem i_binOp {op : BinOp} {t u : TypeId} {x y : Operand} : runI C cal fi (⟨dst, .binOp op t x y u, none⟩ :: r) e s = bnd (prim C (frzD fi dst) e s s.nxt (.binOp op t x y u)) (stepK C cal fi r dst e s) := runI_prim (by intro _ _ _ h; cases h)
theorem d_binOp {n0 k : Nat} {op : BinOp} {t u : TypeId} {x y : Operand} : runDI C cal fi n0 (⟨dst, .binOp op t x y u, none⟩ :: r) k e s = bnd (prim C (frzD fi dst) e s (n0 + k) (.binOp op t x y u)) (stepD C cal fi n0 r k dst e s) := runDI_prim (by intro _ _ _ h; cases h)
theorem i_unOp {op : UnOp} {t : TypeId} {x : Operand} : runI C cal fi (⟨dst, .unOp op t x, none⟩ :: r) e s = bnd (prim C (frzD fi dst) e s s.nxt (.unOp op t x)) (stepK C cal fi r dst e s) := runI_prim (by intro _ _ _ h; cases h)
theorem d_unOp {n0 k : Nat} {op : UnOp} {t : TypeId} {x : Operand} : runDI C cal fi n0 (⟨dst, .unOp op t x, none⟩ :: r) k e s = bnd (prim C (frzD fi dst) e s (n0 + k) (.unOp op t x)) (stepD C cal fi n0 r k dst e s) := runDI_prim (by intro _ _ _ h; cases h)
theorem i_convert {t u : TypeId} {x : Operand} : runI C cal fi (⟨dst, .convert t u x, none⟩ :: r) e s = bnd (prim C (frzD fi dst) e s s.nxt (.convert t u x)) (stepK C cal fi r dst e s) := runI_prim (by intro _ _ _ h; cases h)
theorem d_convert {n0 k : Nat} {t u : TypeId} {x : Operand} : runDI C cal fi n0 (⟨dst, .convert t u x, none⟩ :: r) k e s = bnd (prim C (frzD fi dst) e s (n0 + k) (.convert t u x)) (stepD C cal fi n0 r k dst e s) := runDI_prim (by intro _ _ _ h; cases h)
theorem i_makeFunc {c : Fn} {a b : Array Operand} : runI C cal fi (⟨dst, .makeFunc c a b, none⟩ :: r) e s = bnd (prim C (frzD fi dst) e s s.nxt (.makeFunc c a b)) (stepK C cal fi r dst e s) := runI_prim (by intro _ _ _ h; cases h)
theorem d_makeFunc {n0 k : Nat} {c : Fn} {a b : Array Operand} : runDI C cal fi n0 (⟨dst, .makeFunc c a b, none⟩ :: r) k e s = bnd (prim C (frzD fi dst) e s (n0 + k) (.makeFunc c a b)) (stepD C cal fi n0 r k dst e s) := runDI_prim (by intro _ _ _ h; cases h)
theorem i_makeSlice {t : TypeId} {x y : Operand} : runI C cal fi (⟨dst, .makeSlice t x y, none⟩ :: r) e s = bnd (prim C (frzD fi dst) e s s.nxt (.makeSlice t x y)) (stepK C cal fi r dst e s) := runI_prim (by intro _ _ _ h; cases h)
theorem d_makeSlice {n0 k : Nat} {t : TypeId} {x y : Operand} : runDI C cal fi n0 (⟨dst, .makeSlice t x y, none⟩ :: r) k e s = bnd (prim C (frzD fi dst) e s (n0 + k) (.makeSlice t x y)) (stepD C cal fi n0 r k dst e s) := runDI_prim (by intro _ _ _ h; cases h)
theorem i_slice {t : TypeId} {x : Operand} {lo hi mx : Option Operand} : runI C cal fi (⟨dst, .slice t x lo hi mx, none⟩ :: r) e s = bnd (prim C (frzD fi dst) e s s.nxt (.slice t x lo hi mx)) (stepK C cal fi r dst e s) := runI_prim (by intro _ _ _ h; cases h)
theorem d_slice {n0 k : Nat} {t : TypeId} {x : Operand} {lo hi mx : Option Operand} : runDI C cal fi n0 (⟨dst, .slice t x lo hi mx, none⟩ :: r) k e s = bnd (prim C (frzD fi dst) e s (n0 + k) (.slice t x lo hi mx)) (stepD C cal fi n0 r k dst e s) := runDI_prim (by intro _ _ _ h; cases h)
theorem i_fieldAddr {t : TypeId} {x : Operand} {f : Nat} : runI C cal fi (⟨dst, .fieldAddr t x f, none⟩ :: r) e s = bnd (prim C (frzD fi dst) e s s.nxt (.fieldAddr t x f)) (stepK C cal fi r dst e s) := runI_prim (by intro _ _ _ h; cases h)
theorem d_fieldAddr {n0 k : Nat} {t : TypeId} {x : Operand} {f : Nat} : runDI C cal fi n0 (⟨dst, .fieldAddr t x f, none⟩ :: r) k e s = bnd (prim C (frzD fi dst) e s (n0 + k) (.fieldAddr t x f)) (stepD C cal fi n0 r k dst e s) := runDI_prim (by intro _ _ _ h; cases h)
theorem i_field {t : TypeId} {x : Operand} {f : Nat} : runI C cal fi (⟨dst, .field t x f, none⟩ :: r) e s = bnd (prim C (frzD fi dst) e s s.nxt (.field t x f)) (stepK C cal fi r dst e s) := runI_prim (by intro _ _ _ h; cases h)
theorem d_field {n0 k : Nat} {t : TypeId} {x : Operand} {f : Nat} : runDI C cal fi n0 (⟨dst, .field t x f, none⟩ :: r) k e s = bnd (prim C (frzD fi dst) e s (n0 + k) (.field t x f)) (stepD C cal fi n0 r k dst e s) := runDI_prim (by intro _ _ _ h; cases h)
theorem i_indexAddr {t : TypeId} {x i : Operand} : runI C cal fi (⟨dst, .indexAddr t x i, none⟩ :: r) e s = bnd (prim C (frzD fi dst) e s s.nxt (.indexAddr t x i)) (stepK C cal fi r dst e s) := runI_prim (by intro _ _ _ h; cases h)
theorem d_indexAddr {n0 k : Nat} {t : TypeId} {x i : Operand} : runDI C cal fi n0 (⟨dst, .indexAddr t x i, none⟩ :: r) k e s = bnd (prim C (frzD fi dst) e s (n0 + k) (.indexAddr t x i)) (stepD C cal fi n0 r k dst e s) := runDI_prim (by intro _ _ _ h; cases h)
theorem i_index {t : TypeId} {x i : Operand} : runI C cal fi (⟨dst, .index t x i, none⟩ :: r) e s = bnd (prim C (frzD fi dst) e s s.nxt (.index t x i)) (stepK C cal fi r dst e s) := runI_prim (by intro _ _ _ h; cases h)
theorem d_index {n0 k : Nat} {t : TypeId} {x i : Operand} : runDI C cal fi n0 (⟨dst, .index t x i, none⟩ :: r) k e s = bnd (prim C (frzD fi dst) e s (n0 + k) (.index t x i)) (stepD C cal fi n0 r k dst e s) := runDI_prim (by intro _ _ _ h; cases h)
theorem i_extract {x : Operand} {i : Nat} : runI C cal fi (⟨dst, .extract x i, none⟩ :: r) e s = bnd (prim C (frzD fi dst) e s s.nxt (.extract x i)) (stepK C cal fi r dst e s) := runI_prim (by intro _ _ _ h; cases h)
theorem d_extract {n0 k : Nat} {x : Operand} {i : Nat} : runDI C cal fi n0 (⟨dst, .extract x i, none⟩ :: r) k e s = bnd (prim C (frzD fi dst) e s (n0 + k) (.extract x i)) (stepD C cal fi n0 r k dst e s) := runDI_prim (by intro _ _ _ h; cases h)
theorem i_builtin {b : Builtin} {args : Array Operand} {ats : Array TypeId} : runI C cal fi (⟨dst, .call { callee := .builtin b, args := args, argTypes := ats }, none⟩ :: r) e s = bnd (prim C (frzD fi dst) e s s.nxt (.call { callee := .builtin b, args := args, argTypes := ats })) (stepK C cal fi r dst e s) := runI_prim (by intro _ _ _ h; cases h)
theorem d_builtin {n0 k : Nat} {b : Builtin} {args : Array Operand} {ats : Array TypeId} : runDI C cal fi n0 (⟨dst, .call { callee := .builtin b, args := args, argTypes := ats }, none⟩ :: r) k e s = bnd (prim C (frzD fi dst) e s (n0 + k) (.call { callee := .builtin b, args := args, argTypes := ats })) (stepD C cal fi n0 r k dst e s) := runDI_prim (by intro _ _ _ h; cases h)
@[congr] theorem runI_congr {a : List Ins} {e e' : Env} {s s' : St} (h : e = e') (g : s = s') : runI C cal fi a e s = runI C cal fi a e' s' := by rw [h, g]

theorem runI_nil : runI C cal fi [] e s = some (e, s) := rfl
theorem runDI_nil {n0 k : Nat} : runDI C cal fi n0 [] k e s = some (e, s) := rfl
theorem runI_call {f : Operand} {args : Array Operand} {ats : Array TypeId} : runI C cal fi (⟨dst, .call { callee := .value f, args := args, argTypes := ats }, none⟩ :: r) e s = bnd (callI C cal f args e s) (callK C cal fi r dst e) := by
  simp only [runI, wantedI, actI]
  cases callI C cal f args e s <;> rfl
theorem runDI_call {n0 k : Nat} {f : Operand} {args : Array Operand} {ats : Array TypeId} : runDI C cal fi n0 (⟨dst, .call { callee := .value f, args := args, argTypes := ats }, none⟩ :: r) k e s = bnd (callI C cal f args e s) (callD C cal fi n0 r k dst e) := by
  simp only [runDI, wantedI, actI]
  cases callI C cal f args e s <;> rfl
/-- An operation behind a guard. -/
def guardK (C : Cfg) (cal : Callee) (fi : FnI) (i : Ins) (want : Bool) (r : List Ins) (e : Env) (s : St) : V → Option (Env × St)
  | .bool b => if b = want then runI C cal fi (⟨i.dst, i.op, none⟩ :: r) e s else runI C cal fi r (putE e i.dst .undef) s
  | .undef => runI C cal fi r (putE e i.dst .undef) s
  | _ => none
theorem runI_guard {op : Op} {d : Nat} {want : Bool} : runI C cal fi (⟨dst, op, some (some d, want)⟩ :: r) e s = bnd (aget e d) (guardK C cal fi ⟨dst, op, none⟩ want r e s) := by
  simp only [runI, wantedI]
  cases aget e d with
  | none => rfl
  | some v =>
    simp only [bnd_some]
    cases v with
    | bool b => cases b <;> cases want <;> simp [guardK, runI, wantedI]
    | _ => rfl
theorem guardK_tt {dst : Option Nat} {op : Op} {g : Option (Option Nat × Bool)} : guardK C cal fi ⟨dst, op, g⟩ true r e s (.bool true) = runI C cal fi (⟨dst, op, none⟩ :: r) e s := rfl
theorem guardK_ff {dst : Option Nat} {op : Op} {g : Option (Option Nat × Bool)} : guardK C cal fi ⟨dst, op, g⟩ false r e s (.bool false) = runI C cal fi (⟨dst, op, none⟩ :: r) e s := rfl
theorem guardK_tf {dst : Option Nat} {op : Op} {g : Option (Option Nat × Bool)} : guardK C cal fi ⟨dst, op, g⟩ true r e s (.bool false) = runI C cal fi r (putE e dst .undef) s := rfl
theorem guardK_ft {dst : Option Nat} {op : Op} {g : Option (Option Nat × Bool)} : guardK C cal fi ⟨dst, op, g⟩ false r e s (.bool true) = runI C cal fi r (putE e dst .undef) s := rfl
theorem guardK_undef {dst : Option Nat} {op : Op} {g : Option (Option Nat × Bool)} {want : Bool} : guardK C cal fi ⟨dst, op, g⟩ want r e s .undef = runI C cal fi r (putE e dst .undef) s := rfl
def guardD (C : Cfg) (cal : Callee) (fi : FnI) (n0 : Nat) (i : Ins) (want : Bool) (r : List Ins) (k : Nat) (e : Env) (s : St) : V → Option (Env × St)
  | .bool b => if b = want then runDI C cal fi n0 (⟨i.dst, i.op, none⟩ :: r) k e s else runDI C cal fi n0 r (k + 1) (putE e i.dst .undef) s
  | .undef => runDI C cal fi n0 r (k + 1) (putE e i.dst .undef) s
  | _ => none
theorem runDI_guard {n0 k : Nat} {op : Op} {d : Nat} {want : Bool} : runDI C cal fi n0 (⟨dst, op, some (some d, want)⟩ :: r) k e s = bnd (aget e d) (guardD C cal fi n0 ⟨dst, op, none⟩ want r k e s) := by
  simp only [runDI, wantedI]
  cases aget e d with
  | none => rfl
  | some v =>
    simp only [bnd_some]
    cases v with
    | bool b => cases b <;> cases want <;> simp [guardD, runDI, wantedI]
    | _ => rfl
theorem guardD_tt {n0 k : Nat} {dst : Option Nat} {op : Op} {g : Option (Option Nat × Bool)} : guardD C cal fi n0 ⟨dst, op, g⟩ true r k e s (.bool true) = runDI C cal fi n0 (⟨dst, op, none⟩ :: r) k e s := rfl
theorem guardD_ff {n0 k : Nat} {dst : Option Nat} {op : Op} {g : Option (Option Nat × Bool)} : guardD C cal fi n0 ⟨dst, op, g⟩ false r k e s (.bool false) = runDI C cal fi n0 (⟨dst, op, none⟩ :: r) k e s := rfl
theorem guardD_tf {n0 k : Nat} {dst : Option Nat} {op : Op} {g : Option (Option Nat × Bool)} : guardD C cal fi n0 ⟨dst, op, g⟩ true r k e s (.bool false) = runDI C cal fi n0 r (k + 1) (putE e dst .undef) s := rfl
theorem guardD_ft {n0 k : Nat} {dst : Option Nat} {op : Op} {g : Option (Option Nat × Bool)} : guardD C cal fi n0 ⟨dst, op, g⟩ false r k e s (.bool true) = runDI C cal fi n0 r (k + 1) (putE e dst .undef) s := rfl
theorem guardD_undef {n0 k : Nat} {dst : Option Nat} {op : Op} {g : Option (Option Nat × Bool)} {want : Bool} : guardD C cal fi n0 ⟨dst, op, g⟩ want r k e s .undef = runDI C cal fi n0 r (k + 1) (putE e dst .undef) s := rfl
theorem stepK_none {v : V} : stepK C cal fi r dst e s (v, .none) = runI C cal fi r (putE e dst v) s := rfl
theorem stepK_set {v : V} {i n : Nat} {l : List (Nat × Obj)} {o : Obj} : stepK C cal fi r dst e ⟨n, l⟩ (v, .set i o) = runI C cal fi r (putE e dst v) ⟨if i = n then n + 1 else n, aset l i o⟩ := by
  simp only [stepK]
  by_cases h : i = n
  · subst h; simp
  · have : (i == n) = false := by simpa using h
    rw [this, if_neg h]
    rfl
theorem stepD_none {n0 k : Nat} {v : V} : stepD C cal fi n0 r k dst e s (v, .none) = runDI C cal fi n0 r (k + 1) (putE e dst v) s := rfl
theorem stepD_set {n0 k : Nat} {v : V} {i n : Nat} {l : List (Nat × Obj)} {o : Obj} : stepD C cal fi n0 r k dst e ⟨n, l⟩ (v, .set i o) = runDI C cal fi n0 r (k + 1) (putE e dst v) ⟨n, aset l i o⟩ := rfl
theorem callK_mk {v : V} : callK C cal fi r dst e (v, s) = runI C cal fi r (putE e dst v) s := rfl
theorem callD_mk {n0 k : Nat} {v : V} : callD C cal fi n0 r k dst e (v, s) = runDI C cal fi n0 r (k + 1) (putE e dst v) s := rfl

theorem putE_some {d : Nat} {v : V} : putE e (some d) v = aset e d v := rfl
theorem putE_none {v : V} : putE e none v = e := rfl
theorem frzD_some {d : Nat} : frzD fi (some d) = fi.frz.contains d := rfl
theorem frzD_none : frzD fi none = false := rfl

/-! ### operations -/
def yes (v : V) : Option (V × Eff) := some (v, .none)
theorem yes_eq {v : V} : yes v = some (v, .none) := rfl
theorem map_bnd (v : Option V) : (v.map fun v => (v, Eff.none)) = bnd v yes := by cases v <;> rfl
theorem prim_move {x : Operand} : prim C frz e s id (.move x) = bnd (opnd C e x) yes := map_bnd _
theorem prim_assign {x : Operand} : prim C frz e s id (.assign x) = bnd (opnd C e x) yes := map_bnd _
theorem prim_alloc {t : TypeId} : prim C frz e s id (.alloc t) = bnd (C.ty t) fun y => bif y.size == 0 then none else some (.ptr id 0 0 0, .set id ⟨y.size, 0, true, [y.zero]⟩) := by
  simp only [prim]
  cases C.ty t with
  | none => rfl
  | some y => simp only [bnd_some, cond_eq_ite, beq_iff_eq]
theorem prim_box {t : TypeId} {x : Operand} : prim C frz e s id (.box t x) = bnd (C.ty t) fun y => bnd (opnd C e x) fun v => bif y.size == 0 then none else bif v.storable && v.cells.length == y.size then some (.ptr id 0 0 0, .set id ⟨y.size, 0, true, [v.cells]⟩) else none := by
  simp only [prim]
  cases C.ty t with
  | none => rfl
  | some y =>
    cases opnd C e x with
    | none => rfl
    | some v => simp only [bnd_some, cond_eq_ite, beq_iff_eq]; rfl
theorem prim_build {t : TypeId} {ps : Array (Nat × Operand)} : prim C frz e s id (.build t ps) = bnd (popnds C e ps.toList) fun l => bnd (build C t l) yes := by
  simp only [prim]
  cases popnds C e ps.toList with
  | none => rfl
  | some l => exact map_bnd _
theorem prim_load {t : TypeId} {x : Operand} : prim C frz e s id (.load t x) = bnd (C.ty t) fun y => bnd (opnd C e x) fun p => bnd (rd s p y.size) fun cs => bnd (ofCells y.kind.agg cs) yes := by
  simp only [prim]
  cases C.ty t with
  | none => rfl
  | some y =>
    cases opnd C e x with
    | none => rfl
    | some v =>
      simp only [bnd_some]
      cases rd s v y.size with
      | none => rfl
      | some cs => exact map_bnd _
/-- Cells put into a place. -/
def put1 (s : St) (sz : Nat) : V → V → Option (V × Eff)
  | .ptr i ver idx off, v => bif v.storable && v.cells.length == sz then bnd (s.get i) fun o => bif o.ver == ver then bnd o.rows[idx]? fun r => bif decide (off + v.cells.length ≤ r.length) then some (.undef, .set i ⟨o.sz, o.ver, o.var, o.rows.set idx (splice r off v.cells)⟩) else none else none else none
  | _, _ => none
theorem prim_store {t : TypeId} {p x : Operand} : prim C frz e s id (.store t p x) = bnd (C.ty t) fun y => bnd (opnd C e p) fun a => bnd (opnd C e x) fun v => put1 s y.size a v := by
  simp only [prim]
  cases C.ty t with
  | none => rfl
  | some y =>
    cases opnd C e p with
    | none => rfl
    | some a =>
      cases opnd C e x with
      | none => simp only [bnd_some, bnd_none]
      | some v =>
        simp only [bnd_some]
        cases a <;> try rfl
        rename_i i ver idx off
        simp only [put1, cond_eq_ite]
        have h1 : (v.storable && v.cells.length == y.size) = (v.storable && decide (v.cells.length = y.size)) := rfl
        rw [h1]
        split
        · rename_i hc
          cases s.get i with
          | none => rfl
          | some o =>
            simp only [bnd_some, beq_iff_eq]
            split
            · rename_i hv
              cases o.rows[idx]? with
              | none => rfl
              | some r => simp only [bnd_some, decide_eq_true_eq]
            · rfl
        · rfl
theorem prim_nilCheck {x : Operand} : prim C frz e s id (.nilCheck x) = bnd (opnd C e x) fun v => match v with
    | .ptr a b c d => some (.ptr a b c d, .none)
    | .cptr cs => some (.cptr cs, .none)
    | .fn f c => some (.fn f c, .none)
    | _ => none := by
  simp only [prim]
  cases opnd C e x with
  | none => rfl
  | some v => cases v <;> rfl
theorem prim_binOp {op : BinOp} {t u : TypeId} {x y : Operand} : prim C frz e s id (.binOp op t x y u) = bnd (opnd C e x) fun a => bnd (opnd C e y) fun b => bnd (bif isNilS y then nilCmp C op t a else bin C op t a b) yes := by
  simp only [prim]
  cases opnd C e x with
  | none => rfl
  | some v =>
    cases opnd C e y with
    | none => rfl
    | some w => simp only [bnd_some, cond_eq_ite]; exact map_bnd _
theorem prim_unOp {op : UnOp} {t : TypeId} {x : Operand} : prim C frz e s id (.unOp op t x) = bnd (opnd C e x) fun a => bnd (un op a) yes := by
  simp only [prim]
  cases opnd C e x with
  | none => rfl
  | some v => exact map_bnd _
theorem prim_slice {t : TypeId} {x : Operand} {lo hi mx : Option Operand} : prim C frz e s id (.slice t x lo hi mx) = bnd (opnd C e x) fun v => bnd (oopnd C e lo) fun a => bnd (oopnd C e hi) fun b => bnd (oopnd C e mx) fun c => bnd (sliceOp C t v a b c) yes := by
  simp only [prim]
  cases opnd C e x with
  | none => rfl
  | some v =>
    cases oopnd C e lo with
    | none => rfl
    | some a =>
      cases oopnd C e hi with
      | none => rfl
      | some b =>
        cases oopnd C e mx with
        | none => rfl
        | some c => exact map_bnd _
theorem prim_fieldAddr {t : TypeId} {x : Operand} {f : Nat} : prim C frz e s id (.fieldAddr t x f) = bnd (opnd C e x) fun a => bnd (fieldAddr C t a f) yes := by
  simp only [prim]
  cases opnd C e x with
  | none => rfl
  | some v => exact map_bnd _
theorem prim_field {t : TypeId} {x : Operand} {f : Nat} : prim C frz e s id (.field t x f) = bnd (opnd C e x) fun a => bnd (field C t a f) yes := by
  simp only [prim]
  cases opnd C e x with
  | none => rfl
  | some v => exact map_bnd _
theorem prim_indexAddr {t : TypeId} {x i : Operand} : prim C frz e s id (.indexAddr t x i) = bnd (opnd C e x) fun a => bnd (opnd C e i) fun b => bnd (indexAddr C t a b) yes := by
  simp only [prim]
  cases opnd C e x with
  | none => rfl
  | some v =>
    cases opnd C e i with
    | none => rfl
    | some w => exact map_bnd _
theorem prim_index {t : TypeId} {x i : Operand} : prim C frz e s id (.index t x i) = bnd (opnd C e x) fun a => bnd (opnd C e i) fun b => bnd (index C t a b) yes := by
  simp only [prim]
  cases opnd C e x with
  | none => rfl
  | some v =>
    cases opnd C e i with
    | none => rfl
    | some w => exact map_bnd _
theorem prim_extract {x : Operand} {i : Nat} : prim C frz e s id (.extract x i) = bnd (opnd C e x) fun a => match a with
    | .tup vs => bnd vs[i]? yes
    | _ => none := by
  simp only [prim]
  cases opnd C e x with
  | none => rfl
  | some v => cases v <;> first | rfl | exact map_bnd _
theorem prim_len {t : TypeId} {x : Operand} : prim C frz e s id (.call { callee := .builtin .len, args := #[x], argTypes := #[t] }) = bnd (opnd C e x) fun a => bnd (lenOp C t a) yes := by
  simp only [prim, opnds]
  cases opnd C e x with
  | none => rfl
  | some v => exact map_bnd _
/-- The elements' type of a slice type. -/
def elemTy (C : Cfg) (t : TypeId) : Option TypeId := match C.ty t with
  | some { kind := .slice et, .. } => some et
  | _ => none
theorem prim_append {t : TypeId} {x y : Operand} : prim C frz e s id (.call { callee := .builtin .append, args := #[x, y], argTypes := #[t, t] }) = bnd (opnd C e x) fun a => bnd (opnd C e y) fun b => bnd (elemTy C t) fun et => appendOp C frz s id et a b := by
  simp only [prim, opnds, elemTy]
  cases opnd C e x with
  | none => simp only [bnd_none]
  | some v =>
    cases opnd C e y with
    | none => rfl
    | some w =>
      simp only [bnd_some]
      cases C.ty t with
      | none => rfl
      | some y =>
        obtain ⟨kd, a, b, c⟩ := y
        cases kd <;> rfl
theorem prim_convert {a b : TypeId} {x : Operand} {k : IntKind} {n : Int} (h1 : (C.ty a).isSome = true) (h2 : ∃ y, C.ty b = some y ∧ y.kind = .int k) : prim C frz e s id (.convert a b x) = bnd (opnd C e x) fun v => match v with
    | .int _ n => some (.int k (k.wrap n), .none)
    | _ => none := by
  obtain ⟨y, h2, h3⟩ := h2
  obtain ⟨kd, p, q, z⟩ := y
  simp only at h3
  subst h3
  obtain ⟨z', h4⟩ := Option.isSome_iff_exists.1 h1
  simp only [prim, h2, h4]
  cases opnd C e x with
  | none => rfl
  | some v => cases v <;> rfl
theorem prim_pick {c x y : Operand} : prim C frz e s id (.pick c x y) = bnd (opnd C e c) fun t => match t with
    | .bool true => bnd (opnd C e x) yes
    | .bool false => bnd (opnd C e y) yes
    | _ => none := by
  simp only [prim]
  cases opnd C e c with
  | none => rfl
  | some t =>
    cases t <;> try rfl
    rename_i b
    cases b <;> cases opnd C e x <;> cases opnd C e y <;> rfl
/-- make. -/
def mkS (frz : Bool) (id : Nat) (y : Ty) : V → V → Option (V × Eff)
  | .int _ n, .int _ m => if y.size ≠ 0 ∧ 0 ≤ n ∧ n ≤ m ∧ roomOk m.toNat y.bytes = true then bnd (ofCells y.kind.agg y.zero) fun z => sliceOfRows frz id y.size (List.replicate n.toNat z) else none
  | _, _ => none
theorem prim_makeSlice {t : TypeId} {x z : Operand} : prim C frz e s id (.makeSlice t x z) = bnd (elemTy C t) fun et => bnd (C.ty et) fun y => bnd (opnd C e x) fun a => bnd (opnd C e z) fun b => mkS frz id y a b := by
  simp only [prim, elemTy]
  cases C.ty t with
  | none => rfl
  | some y =>
    obtain ⟨kd, a, b, c⟩ := y
    cases kd <;> try rfl
    rename_i et
    simp only [bnd_some]
    cases opnd C e x with
    | none => simp only [bnd_none]; cases C.ty et <;> rfl
    | some u =>
      cases opnd C e z with
      | none => simp only [bnd_some, bnd_none]; cases C.ty et <;> cases u <;> rfl
      | some v =>
        cases u <;> cases v <;> try (cases C.ty et <;> rfl)
        rename_i k1 n1 k2 n2
        cases hy : C.ty et with
        | none => simp only [hy, bnd_none]
        | some y0 =>
          simp only [hy, bnd_some, mkS]
          split
          · cases ofCells y0.kind.agg y0.zero <;> rfl
          · rfl
theorem prim_makeFunc {f : FuncId} {cap : Array Operand} : prim C frz e s id (.makeFunc (.func f) #[] cap) = bnd (opnds C e cap.toList) fun l => some (.fn f l, .none) := by
  simp only [prim]
  cases opnds C e cap.toList <;> rfl
theorem prim_buildSlice0 {t : TypeId} : prim C frz e s id (.buildSlice t 0 #[]) = bnd (elemTy C t) fun et => bnd (C.ty et) fun _ => yes .nils := by
  simp only [prim, elemTy]
  cases C.ty t with
  | none => rfl
  | some y =>
    obtain ⟨kd, a, b, c⟩ := y
    cases kd <;> try rfl
    rename_i et
    simp only [bnd_some, popnds]
    cases C.ty et <;> rfl
theorem nilCmp_eql {t et : TypeId} {x : V} (h : elemTy C t = some et) (hf : x.full = true) : nilCmp C .eql t x = some (.bool false) := by
  unfold elemTy at h
  split at h
  · rename_i y a b c hy
    simp [nilCmp, hy, hf]
  · cases h
theorem nilCmp_neq {t et : TypeId} {x : V} (h : elemTy C t = some et) (hf : x.full = true) : nilCmp C .neq t x = some (.bool true) := by
  unfold elemTy at h
  split at h
  · rename_i y a b c hy
    simp [nilCmp, hy, hf]
  · cases h
theorem prim_buildSlice {t : TypeId} {n : Nat} {ps : Array (Nat × Operand)} : prim C frz e s id (.buildSlice t (n + 1) ps) = bnd (elemTy C t) fun et => bnd (C.ty et) fun y => bnd (popnds C e ps.toList) fun l =>
    bif y.size == 0 then none else bif decide (l.length = n + 1) && partsIn 0 l && decide ((n + 1) * y.size ≤ 16777216) then sliceOfRows frz id y.size (l.map (·.2)) else none := by
  simp only [prim, elemTy]
  cases C.ty t with
  | none => rfl
  | some y =>
    obtain ⟨kd, a, b, c⟩ := y
    cases kd <;> try (cases popnds C e ps.toList <;> rfl)
    rename_i et
    simp only [bnd_some]
    cases popnds C e ps.toList with
    | none => simp only [bnd_none]; cases C.ty et <;> rfl
    | some l =>
      simp only [bnd_some]
      cases C.ty et with
      | none => rfl
      | some y => simp only [bnd_some, cond_eq_ite, beq_iff_eq, Nat.succ_ne_zero, if_false]
end
section
variable {C : Cfg} {cal : Callee} {fi : FnI} {e : Env} {s : St}
theorem opnd_tmp {t : Nat} : opnd C e (.tmp t) = aget e t := rfl
theorem opnd_int {k : IntKind} {n : Int} : opnd C e (.const (.int k n)) = some (.int k n) := by simp [opnd, ofConst]
theorem opnd_bool {b : Bool} : opnd C e (.const (.bool b)) = some (.bool b) := by simp [opnd, ofConst]
theorem opnd_str {b : ByteArray} : opnd C e (.const (.string b)) = some (.str b) := by simp [opnd, ofConst]
theorem opnd_nils : opnd C e (.const (.slice none 0 0)) = some .nils := by simp [opnd, ofConst]
theorem opnd_pnil : opnd C e (.const (.pointer none)) = some .pnil := by simp [opnd, ofConst]
theorem opnd_func {f : FuncId} : opnd C e (.func f) = some (.fn f []) := rfl
theorem opnds_nil : opnds C e [] = some [] := rfl
theorem opnds_cons {x : Operand} {r : List Operand} : opnds C e (x :: r) = bnd (opnd C e x) fun v => bnd (opnds C e r) fun l => some (v :: l) := by
  simp only [opnds]
  cases opnd C e x with
  | none => rfl
  | some v => cases opnds C e r <;> rfl
theorem popnds_nil : popnds C e [] = some [] := rfl
theorem popnds_cons {i : Nat} {x : Operand} {r : List (Nat × Operand)} : popnds C e ((i, x) :: r) = bnd (opnd C e x) fun v => bnd (popnds C e r) fun l => some ((i, v) :: l) := by
  simp only [popnds]
  cases opnd C e x with
  | none => rfl
  | some v => cases popnds C e r <;> rfl
theorem oopnd_none : oopnd C e none = some none := rfl
theorem oopnd_some {x : Operand} : oopnd C e (some x) = bnd (opnd C e x) fun v => some (some v) := by
  simp only [oopnd]
  cases opnd C e x <;> rfl
theorem nilS_tmp {t : Nat} : isNilS (.tmp t) = false := rfl
theorem nilS_int {k : IntKind} {n : Int} : isNilS (.const (.int k n)) = false := rfl
theorem nilS_bool {b : Bool} : isNilS (.const (.bool b)) = false := rfl
theorem nilS_str {b : ByteArray} : isNilS (.const (.string b)) = false := rfl
theorem nilS_pnil : isNilS (.const (.pointer none)) = false := rfl
theorem nilS_nil : isNilS (.const (.slice none 0 0)) = true := rfl
section
variable {t : TypeId} {k : IntKind} {a b : Int}
theorem bin_eql : bin C .eql t (.int k a) (.int k b) = some (.bool (decide (a = b))) := by simp [bin, arith, cmpInt]
theorem bin_neq : bin C .neq t (.int k a) (.int k b) = some (.bool (!decide (a = b))) := by simp [bin, arith, cmpInt]
theorem bin_lss : bin C .lss t (.int k a) (.int k b) = some (.bool (decide (a < b))) := by simp [bin, arith, cmpInt]
theorem bin_leq : bin C .leq t (.int k a) (.int k b) = some (.bool (decide (a ≤ b))) := by simp [bin, arith, cmpInt]
theorem bin_gtr : bin C .gtr t (.int k a) (.int k b) = some (.bool (decide (a > b))) := by simp [bin, arith, cmpInt]
theorem bin_geq : bin C .geq t (.int k a) (.int k b) = some (.bool (decide (a ≥ b))) := by simp [bin, arith, cmpInt]
theorem bin_add : bin C .add t (.int k a) (.int k b) = some (.int k (k.wrap (a + b))) := by simp [bin, arith]
theorem bin_sub : bin C .sub t (.int k a) (.int k b) = some (.int k (k.wrap (a - b))) := by simp [bin, arith]
theorem bin_mul : bin C .mul t (.int k a) (.int k b) = some (.int k (k.wrap (a * b))) := by simp [bin, arith]
theorem bin_quo : bin C .quo t (.int k a) (.int k b) = bif b == 0 then none else some (.int k (k.wrap (a.tdiv b))) := by simp [bin, arith, cond_eq_ite]
theorem bin_rem : bin C .rem t (.int k a) (.int k b) = bif b == 0 then none else some (.int k (a.tmod b)) := by simp [bin, arith, cond_eq_ite]
end
theorem bin_beq {t : TypeId} {y : Ty} {a b : Bool} (h : C.ty t = some y) (hk : y.kind = .bool) : bin C .eql t (.bool a) (.bool b) = some (.bool (a == b)) := by
  simp [bin, eqV, h, hk]
theorem bin_bne {t : TypeId} {y : Ty} {a b : Bool} (h : C.ty t = some y) (hk : y.kind = .bool) : bin C .neq t (.bool a) (.bool b) = some (.bool !(a == b)) := by
  simp [bin, eqV, h, hk]
theorem bin_seq {t : TypeId} {op : BinOp} {cs ds : List V} : bin C op t (.agg cs) (.agg ds) = match op with
    | .eql => bnd (eqV C t (.agg cs) (.agg ds)) fun b => some (.bool b)
    | .neq => bnd (eqV C t (.agg cs) (.agg ds)) fun b => some (.bool !b)
    | _ => none := by
  cases op <;> first | rfl | (simp only [bin]; cases eqV C t (.agg cs) (.agg ds) <;> rfl)
theorem un_not {b : Bool} : un .not (.bool b) = some (.bool !b) := rfl
theorem un_neg {k : IntKind} {n : Int} : un .neg (.int k n) = some (.int k (k.wrap (0 - n))) := rfl

theorem aget_hit {α : Type} {i : Nat} {v : α} {r : List (Nat × α)} : aget ((i, v) :: r) i = some v := by simp [aget]
theorem St_get {n i : Nat} {l : List (Nat × Obj)} : St.get ⟨n, l⟩ i = aget l i := rfl

/-! ### code -/
def thn (r : Option (Ex × Env × St)) (f : Env → St → Option (Ex × Env × St)) : Option (Ex × Env × St) := match r with
  | some (.normal, e, s) => f e s
  | r => r
@[congr] theorem thn_congr {r r' : Option (Ex × Env × St)} {f : Env → St → Option (Ex × Env × St)} (h : r = r') : thn r f = thn r' f := by rw [h]
theorem thn_normal {f : Env → St → Option (Ex × Env × St)} : thn (some (.normal, e, s)) f = f e s := rfl
theorem thn_exit {f : Env → St → Option (Ex × Env × St)} {i : Nat} : thn (some (.exit i, e, s)) f = some (.exit i, e, s) := rfl
theorem thn_ret {f : Env → St → Option (Ex × Env × St)} : thn (some (.ret, e, s)) f = some (.ret, e, s) := rfl
theorem thn_none {f : Env → St → Option (Ex × Env × St)} : thn none f = none := rfl
theorem x_seq {a b : Code} : execL C fi (.seq a b) e s = thn (execL C fi a e s) (execL C fi b) := by
  rw [execL_seq]
  cases execL C fi a e s with
  | none => rfl
  | some x => obtain ⟨ex, e1, s1⟩ := x; cases ex <;> rfl
def regK (fi : FnI) (id : Nat) : Env × St → Option (Ex × Env × St)
  | (e, s) => some (.normal, liveE fi id e, s)
theorem x_reg {id : Nat} {ops : Array Oper} : execL C fi (.region id ops false) e s = bnd (runI C (callL C) fi (inss ops) e s) (regK fi id) := by
  rw [execL_region, reg_seq]
  cases runI C (callL C) fi (inss ops) e s <;> rfl
theorem x_draw {id : Nat} {ops : Array Oper} : execL C fi (.region id ops true) e s = bnd (regD C (callL C) fi id ops e s) (regK fi id) := by
  rw [execL_region, reg_draw]
  cases regD C (callL C) fi id ops e s <;> rfl
/-- A region of open order, by what is known of it. -/
def drawK (C : Cfg) (cal : Callee) (fi : FnI) (ops : Array Oper) (e : Env) (s : St) : Option (List (Nat × Nat)) → Bool → Option (Env × St)
  | none, true => runDI C cal fi s.nxt (inss ops) 0 e ⟨s.nxt + ops.size, s.objs⟩
  | none, false => runDI C cal fi s.nxt (inss ops) 0 e s
  | some l, b => let s0 : St := bif b then ⟨s.nxt + ops.size, s.objs⟩ else s
    bif (let fs := feet C cal fi ops s.nxt (List.range ops.size) e s0
      l.all fun p => (footAt fs p.1).indep (footAt fs p.2)) then runDI C cal fi s.nxt (inss ops) 0 e s0 else none
theorem regD_drawK {cal : Callee} {id : Nat} {ops : Array Oper} : regD C cal fi id ops e s = drawK C cal fi ops e s (aget fi.conf id) (ops.toList.any (bumps C fi)) := by
  rw [Array.any_toList]
  unfold regD drawK
  cases aget fi.conf id with
  | none => cases ops.any (bumps C fi) <;> rfl
  | some l => cases ops.any (bumps C fi) <;> rfl
theorem x_drawK {id : Nat} {ops : Array Oper} : execL C fi (.region id ops true) e s = bnd (drawK C (callL C) fi ops e s (aget fi.conf id) (ops.toList.any (bumps C fi))) (regK fi id) := by
  rw [x_draw, regD_drawK]
theorem drawK_t {cal : Callee} {ops : Array Oper} : drawK C cal fi ops e s none true = runDI C cal fi s.nxt (inss ops) 0 e ⟨s.nxt + ops.size, s.objs⟩ := rfl
theorem drawK_f {cal : Callee} {ops : Array Oper} : drawK C cal fi ops e s none false = runDI C cal fi s.nxt (inss ops) 0 e s := rfl
theorem regK_mk {id : Nat} : regK fi id (e, s) = some (.normal, liveE fi id e, s) := rfl
noncomputable def condK (C : Cfg) (fi : FnI) (a b : Code) (e : Env) (s : St) : V → Option (Ex × Env × St)
  | .bool t => execL C fi (if t then a else b) e s
  | _ => none
theorem x_cond {x : Operand} {a b : Code} : execL C fi (.cond x a b) e s = bnd (opnd C e x) (condK C fi a b e s) := by
  rw [execL_cond]
  cases opnd C e x with
  | none => rfl
  | some v => cases v <;> rfl
theorem condK_tt {a b : Code} : condK C fi a b e s (.bool true) = execL C fi a e s := rfl
theorem condK_ff {a b : Code} : condK C fi a b e s (.bool false) = execL C fi b e s := rfl
def outB (id : Nat) : Ex × Env × St → Option (Ex × Env × St)
  | (.exit j, e, s) => some (bif j == id then (.normal, e, s) else (.exit j, e, s))
  | r => some r
theorem x_block {id : Nat} {b : Code} : execL C fi (.block id b) e s = bnd (execL C fi b e s) (outB id) := by
  rw [execL_block]
  cases execL C fi b e s with
  | none => rfl
  | some x =>
    obtain ⟨ex, e1, s1⟩ := x
    cases ex with
    | exit j => simp only [bnd_some, outB, cond_eq_ite, beq_iff_eq]; split <;> rfl
    | normal => rfl
    | ret => rfl
theorem outB_normal {id : Nat} : outB id (.normal, e, s) = some (.normal, e, s) := rfl
theorem outB_ret {id : Nat} : outB id (.ret, e, s) = some (.ret, e, s) := rfl
theorem outB_exit {id j : Nat} : outB id (.exit j, e, s) = some (bif j == id then (.normal, e, s) else (.exit j, e, s)) := rfl
/-- One round. -/
theorem x_loop {b : Code} : execL C fi (.loop b) e s = thn (execL C fi b e s) (execL C fi (.loop b)) := by
  rw [execL_loop]
  cases execL C fi b e s with
  | none => rfl
  | some x => obtain ⟨ex, e1, s1⟩ := x; cases ex <;> rfl
def finK (C : Cfg) (fi : FnI) (base : Nat) : Ex × Env × St → Option (V × St)
  | (.exit _, _, _) => none
  | (_, e, s) => bnd (results C fi e s) fun r => some (r, bif fi.keep then s else s.killVars base)
theorem x_call {f : FuncId} {args : List V} {b : Code} (hi : C.intr f = none) (hf : C.fn f = some fi) (hb : fi.fn.body = some b) : callL C f args s = bnd (execL C fi b (enumE 0 args) s) (finK C fi s.nxt) := by
  rw [callL_eq hi hf hb]
  cases execL C fi b (enumE 0 args) s with
  | none => rfl
  | some x =>
    obtain ⟨ex, e1, s1⟩ := x
    simp only [bnd_some, finish]
    cases ex with
    | exit j => rfl
    | normal => simp only [finK, cond_eq_ite]; cases results C fi e1 s1 <;> rfl
    | ret => simp only [finK, cond_eq_ite]; cases results C fi e1 s1 <;> rfl
theorem finK_ret {base : Nat} : finK C fi base (.ret, e, s) = bnd (results C fi e s) fun r => some (r, bif fi.keep then s else s.killVars base) := rfl
theorem finK_normal {base : Nat} : finK C fi base (.normal, e, s) = bnd (results C fi e s) fun r => some (r, bif fi.keep then s else s.killVars base) := rfl

theorem callI_func {cal : Callee} {g : FuncId} {args : Array Operand} : callI C cal (.func g) args e s = bnd (opnds C e args.toList) fun as => bnd (C.fn g) fun gi => callV cal gi.pure g as s := by
  simp only [callI, opnd]
  cases opnds C e args.toList with
  | none => rfl
  | some l =>
    simp only [bnd_some, List.append_nil]
    cases C.fn g <;> rfl
/-- A call of a function value. -/
def callF (C : Cfg) (cal : Callee) (s : St) (xs : List V) : V → Option (V × St)
  | .fn g cap => bnd (C.fn g) fun gi => callV cal gi.pure g (xs ++ cap) s
  | _ => none
theorem callI_tmp {cal : Callee} {t : Nat} {args : Array Operand} : callI C cal (.tmp t) args e s = bnd (aget e t) fun f => bnd (opnds C e args.toList) fun xs => callF C cal s xs f := by
  simp only [callI, opnd]
  cases aget e t with
  | none => rfl
  | some v =>
    cases opnds C e args.toList with
    | none => cases v <;> rfl
    | some l =>
      cases v <;> try rfl
      rename_i g cap
      simp only [bnd_some, callF]
      cases C.fn g <;> rfl
theorem callF_fn {cal : Callee} {xs cap : List V} {g : FuncId} : callF C cal s xs (.fn g cap) = bnd (C.fn g) fun gi => callV cal gi.pure g (xs ++ cap) s := rfl
theorem callV_t {cal : Callee} {f : FuncId} {args : List V} : callV cal true f args s = bnd (allSome (reify s 40) args) fun xs => bnd (cal f xs St.empty) fun r => bnd (reify r.2 40 r.1) fun r' => bif args.all V.flat || r'.scalar then some (r', s) else none := by
  simp only [callV, if_true]
  cases allSome (reify s 40) args with
  | none => rfl
  | some xs =>
    simp only [bnd_some]
    cases cal f xs St.empty with
    | none => rfl
    | some x =>
      simp only [bnd_some]
      cases reify x.2 40 x.1 with
      | none => rfl
      | some y => simp only [bnd_some, cond_eq_ite]
theorem callV_f {cal : Callee} {f : FuncId} {args : List V} : callV cal false f args s = cal f args s := rfl
theorem all_nil {α β : Type} {f : α → Option β} : allSome f [] = some [] := rfl
theorem all_cons {α β : Type} {f : α → Option β} {x : α} {r : List α} : allSome f (x :: r) = bnd (f x) fun y => bnd (allSome f r) fun l => some (y :: l) := by
  simp only [allSome]
  cases f x with
  | none => rfl
  | some y => cases allSome f r <;> rfl
theorem rf_int {n : Nat} {k : IntKind} {i : Int} : reify s (n + 1) (.int k i) = some (.int k i) := rfl
theorem rf_bool {n : Nat} {b : Bool} : reify s (n + 1) (.bool b) = some (.bool b) := rfl
theorem rf_str {n : Nat} {b : ByteArray} : reify s (n + 1) (.str b) = some (.str b) := rfl
theorem rf_lit {n : Nat} {l : List V} : reify s (n + 1) (.lit l) = some (.lit l) := rfl
theorem rf_nils {n : Nat} : reify s (n + 1) .nils = some (.lit []) := rfl
theorem rf_pnil {n : Nat} : reify s (n + 1) .pnil = some .pnil := rfl
theorem rf_agg {n : Nat} {cs : List V} : reify s (n + 1) (.agg cs) = bnd (allSome (reify s n) cs) fun l => some (.agg l) := by
  rw [reify]
  cases allSome (reify s n) cs <;> rfl
theorem rf_tup {n : Nat} {cs : List V} : reify s (n + 1) (.tup cs) = bnd (allSome (reify s n) cs) fun l => some (.tup l) := by
  rw [reify]
  cases allSome (reify s n) cs <;> rfl
theorem rf_ref {n id ver sz off len : Nat} : reify s (n + 1) (.ref id ver sz off len) = bnd (elems s (.ref id ver sz off len)) fun xs => bnd (allSome (reify s n) xs) fun l => some (.lit l) := by
  rw [reify]
  cases elems s (.ref id ver sz off len) with
  | none => rfl
  | some xs => simp only [bnd_some]; cases allSome (reify s n) xs <;> rfl
theorem told_of {f : FuncId} {args : List V} {s : St} {v : V} (h : bnd (callL C f args s) (fun r => some r.1) = some v) : ∃ s', callL C f args s = some (v, s') := by
  cases hc : callL C f args s with
  | none => rw [hc] at h; cases h
  | some r =>
    rw [hc] at h
    simp only [bnd_some, Option.some.injEq] at h
    obtain ⟨a, b⟩ := r
    simp only at h
    subst h
    exact ⟨b, rfl⟩
/-- The part of a code that a path leads to. -/
def sub : Code → List Nat → Code
  | c, [] => c
  | .seq a _, 0 :: r => sub a r
  | .seq _ b, _ :: r => sub b r
  | .cond _ a _, 0 :: r => sub a r
  | .cond _ _ b, _ :: r => sub b r
  | .block _ b, _ :: r => sub b r
  | .loop b, _ :: r => sub b r
  | .scope b, _ :: r => sub b r
  | c, _ => c
end
end Go.Ilv
