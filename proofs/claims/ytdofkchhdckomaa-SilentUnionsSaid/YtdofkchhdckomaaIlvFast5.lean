/- Code and calls, strict: closed calls are looked at by the kernel. -/
import Derived.Test.YtdofkchhdckomaaIlvFast4
set_option linter.unusedVariables false
set_option linter.unusedSimpArgs false
namespace Go.Ilv
open Go

section
variable {α : Type} (C : Cfg) (M : FuncId → List V → Option V)
abbrev ExT (α : Type) := Code → Env → St → (Ex → Env → St → Option α) → Option α
noncomputable def exC (cal : CalT α) (fi : FnI) (rec : ExT α) (c : Code) (e : Env) (s : St) (k : Ex → Env → St → Option α) : Option α :=
  match c with
  | .skip => k .normal e s
  | .region id ops draw => rgS C cal M fi id ops draw e s fun e' s' => liS fi id e' fun e'' => k .normal e'' s'
  | .seq a b => rec a e s fun x e' s' => Ex.rec (motive := fun _ => Option α) (rec b e' s' k) (fun i => k (.exit i) e' s') (k .ret e' s') x
  | .cond x a b => opS C e x fun v => onBool v fun t => Bool.rec (motive := fun _ => Option α) (rec b e s k) (rec a e s k) t
  | .block id b => rec b e s fun x e' s' => Ex.rec (motive := fun _ => Option α) (k .normal e' s') (fun j => Bool.rec (motive := fun _ => Option α) (k (.exit j) e' s') (k .normal e' s') (Nat.beq j id)) (k .ret e' s') x
  | .loop b => rec b e s fun x e' s' => Ex.rec (motive := fun _ => Option α) (rec (.loop b) e' s' k) (fun i => k (.exit i) e' s') (k .ret e' s') x
  | .exit id => k (.exit id) e s
  | .ret => k .ret e s
  | _ => none
noncomputable def exS (cal : CalT α) (fi : FnI) (n : Nat) : ExT α :=
  Nat.rec (motive := fun _ => ExT α) (fun _ _ _ _ => none) (fun _ ih c e s k => exC C M cal fi ih c e s k) n
def ExOk (fi : FnI) (rec : ExT α) : Prop := ∀ c e s k, Le (rec c e s k) ((execL C fi c e s).bind fun r => k r.1 r.2.1 r.2.2)
theorem exC_ok (cal : CalT α) (hc : CalOk C cal) (hM : MemOk C M) (fi : FnI) (rec : ExT α) (hr : ExOk C fi rec) : ExOk C fi (exC C M cal fi rec) := by
  intro c e s k
  cases c with
  | skip => rw [execL_skip]; exact Le.refl _
  | region id ops draw => exact rgS_ok C cal M fi hc hM id ops draw e s k
  | seq a b =>
    rw [x_seq]
    refine Le.trans (hr a e s _) ?_
    cases execL C fi a e s with
    | none => exact Le.none
    | some r =>
      obtain ⟨x, e1, s1⟩ := r
      simp only [Option.bind_some]
      cases x with
      | normal => exact hr b e1 s1 k
      | exit i => exact Le.refl _
      | ret => exact Le.refl _
  | cond x a b =>
    rw [x_cond, bnd]
    show Le (opS C e x _) _
    rw [opS_eq]
    cases opnd C e x with
    | none => exact Le.none
    | some v =>
      simp only [Option.bind_some]
      cases v with
      | bool t =>
        rw [onBool_bool]
        cases t with
        | true => exact hr a e s k
        | false => exact hr b e s k
      | _ => exact Le.none
  | block id b =>
    rw [x_block, bnd]
    refine Le.trans (hr b e s _) ?_
    cases execL C fi b e s with
    | none => exact Le.none
    | some r =>
      obtain ⟨x, e1, s1⟩ := r
      simp only [Option.bind_some]
      cases x with
      | normal => exact Le.refl _
      | exit j =>
        rw [outB_exit]
        have : (j == id) = Nat.beq j id := beq_n j id
        rw [this]
        show Le (Bool.rec (motive := fun _ => Option α) _ _ (Nat.beq j id)) _
        cases Nat.beq j id <;> exact Le.refl _
      | ret => exact Le.refl _
  | loop b =>
    rw [x_loop]
    refine Le.trans (hr b e s _) ?_
    cases execL C fi b e s with
    | none => exact Le.none
    | some r =>
      obtain ⟨x, e1, s1⟩ := r
      simp only [Option.bind_some]
      cases x with
      | normal => exact hr (.loop b) e1 s1 k
      | exit i => exact Le.refl _
      | ret => exact Le.refl _
  | exit id => rw [execL_exit]; exact Le.refl _
  | ret => rw [execL_ret]; exact Le.refl _
  | _ => exact Le.none
theorem exS_ok (cal : CalT α) (hc : CalOk C cal) (hM : MemOk C M) (fi : FnI) (n : Nat) : ExOk C fi (exS C M cal fi n) := by
  induction n with
  | zero => intro c e s k; exact Le.none
  | succ n ih => exact exC_ok C M cal hc hM fi _ ih

/-! ### The end of a call -/
noncomputable def rvS (e : Env) (s : St) (r : ResultVar) (k : V → Option α) : Option α :=
  ResultVar.rec (motive := fun _ => Option α) (fun t => agetS e t k) (fun a t => oB (resV C e s (.cell a t)) fun v => fV v k) r
theorem rvS_eq (e : Env) (s : St) (r : ResultVar) (k : V → Option α) : rvS C e s r k = (resV C e s r).bind k := by
  cases r with
  | tmp t => exact agetS_eq e t k
  | cell a t =>
    show oB _ _ = _
    rw [oB_eq]
    cases resV C e s (.cell a t) with
    | none => rfl
    | some v => exact fV_eq v k
noncomputable def rsS (fi : FnI) (e : Env) (s : St) (k : V → Option α) : Option α :=
  allS (rvS C e s) fi.fn.results.toList fun l => List.rec (motive := fun _ => Option α) (k (.tup [])) (fun x r _ => List.rec (motive := fun _ => Option α) (k x) (fun y u _ => k (.tup (x :: y :: u))) r) l
theorem rsS_eq (fi : FnI) (e : Env) (s : St) (k : V → Option α) : rsS C fi e s k = (results C fi e s).bind k := by
  unfold rsS results
  rw [allS_eq (rvS_eq C e s)]
  cases allSome (resV C e s) fi.fn.results.toList with
  | none => rfl
  | some l =>
    match l with
    | [] => rfl
    | [x] => rfl
    | x :: y :: u => rfl
noncomputable def kiS (s : St) (base : Nat) (l : List (Nat × Obj)) : (List (Nat × Obj) → Option α) → Option α :=
  List.rec (motive := fun _ => (List (Nat × Obj) → Option α) → Option α) (fun k => k []) (fun p _ ih k => Bool.rec (motive := fun _ => Option α) (ih fun r => k (p :: r)) (Bool.rec (motive := fun _ => Option α) (ih fun r => k (p :: r)) (ih k) (s.kills base p.1)) (Nat.ble base p.1)) l
theorem kiS_eq (s : St) (base : Nat) (l : List (Nat × Obj)) : ∀ k : List (Nat × Obj) → Option α, kiS s base l k = k (l.filter fun x => !(s.kills base x.1)) := by
  induction l with
  | nil => intro k; rfl
  | cons p r ih =>
    intro k
    have h1 : kiS s base (p :: r) k = Bool.rec (motive := fun _ => Option α) (kiS s base r fun r => k (p :: r)) (Bool.rec (motive := fun _ => Option α) (kiS s base r fun r => k (p :: r)) (kiS s base r k) (s.kills base p.1)) (Nat.ble base p.1) := rfl
    rw [h1, ih, ih, List.filter_cons]
    cases hb : Nat.ble base p.1 with
    | false =>
      have : s.kills base p.1 = false := by
        rw [nble] at hb
        simp only [St.kills, hb, Bool.false_and]
      rw [this]; rfl
    | true => cases hk : s.kills base p.1 <;> rfl
noncomputable def fiS (fi : FnI) (base : Nat) (x : Ex) (e : Env) (s : St) (k : V → St → Option α) : Option α :=
  Ex.rec (motive := fun _ => Option α) (rsS C fi e s fun r => Bool.rec (motive := fun _ => Option α) (kiS s base s.objs fun o => fN s.nxt fun n => k r ⟨n, o⟩) (k r s) fi.keep) (fun _ => none)
    (rsS C fi e s fun r => Bool.rec (motive := fun _ => Option α) (kiS s base s.objs fun o => fN s.nxt fun n => k r ⟨n, o⟩) (k r s) fi.keep) x
theorem fiS_eq (fi : FnI) (base : Nat) (x : Ex) (e : Env) (s : St) (k : V → St → Option α) : fiS C fi base x e s k = (finK C fi base (x, e, s)).bind fun r => k r.1 r.2 := by
  have key : (rsS C fi e s fun r => Bool.rec (motive := fun _ => Option α) (kiS s base s.objs fun o => fN s.nxt fun n => k r ⟨n, o⟩) (k r s) fi.keep) = (bnd (results C fi e s) fun r => some (r, bif fi.keep then s else s.killVars base)).bind fun r => k r.1 r.2 := by
    rw [rsS_eq, bnd]
    cases results C fi e s with
    | none => rfl
    | some r =>
      simp only [Option.bind_some]
      rw [kiS_eq]
      cases fi.keep <;> rfl
  cases x with
  | normal => exact key
  | exit i => rfl
  | ret => exact key
noncomputable def enS (n : Nat) (l : List V) (k : Env → Option α) : Option α :=
  List.rec (motive := fun _ => Nat → (Env → Option α) → Option α) (fun _ k => k []) (fun v _ ih n k => fN (Nat.succ n) fun m => ih m fun e => k ((n, v) :: e)) l n k
theorem enS_eq (l : List V) : ∀ (n : Nat) (k : Env → Option α), enS n l k = k (enumE n l) := by
  induction l with
  | nil => intro n k; rfl
  | cons v r ih => intro n k; exact ih (Nat.succ n) _
noncomputable def fSt (s : St) (k : St → Option α) : Option α :=
  fN s.nxt fun n => fL (fun p k => Prod.rec (motive := fun _ => Option α) (fun i o => fN i fun i => fO o fun o => k (i, o)) p) s.objs fun l => k ⟨n, l⟩
theorem fSt_eq (s : St) (k : St → Option α) : fSt s k = k s := by
  unfold fSt
  rw [fN_eq, fL_eq]
  intro p k
  obtain ⟨i, o⟩ := p
  show fN i _ = _
  rw [fN_eq, fO_eq]
noncomputable def caN (n : Nat) : CalT α :=
  Nat.rec (motive := fun _ => CalT α) (fun _ _ _ _ => none) (fun m ih f args s k =>
    Option.rec (motive := fun _ => Option α) (oB (C.fn f) fun fi => oB fi.fn.body fun b => enS 0 args fun e => exS C M ih fi m b e s fun x e' s' => fiS C fi s.nxt x e' s' k)
      (fun g => oB (g args s) fun r => fV r.1 fun v => fSt r.2 fun s' => k v s') (C.intr f)) n
theorem caN_ok (hM : MemOk C M) (n : Nat) : CalOk C (caN C M n : CalT α) := by
  induction n with
  | zero => intro f args s k; exact Le.none
  | succ n ih =>
    intro f args s k
    have h1 : caN C M (n + 1) f args s k = Option.rec (motive := fun _ => Option α) (oB (C.fn f) fun fi => oB fi.fn.body fun b => enS 0 args fun e => exS C M (caN C M n) fi n b e s fun x e' s' => fiS C fi s.nxt x e' s' k)
      (fun g => oB (g args s) fun r => fV r.1 fun v => fSt r.2 fun s' => k v s') (C.intr f) := rfl
    rw [h1]
    cases hi : C.intr f with
    | some g =>
      rw [callL_intr hi]
      show Le (oB _ _) _
      rw [oB_eq]
      cases g args s with
      | none => exact Le.none
      | some r =>
        simp only [Option.bind_some]
        rw [fV_eq, fSt_eq]; exact Le.refl _
    | none =>
      show Le (oB _ _) _
      rw [oB_eq]
      cases hf : C.fn f with
      | none => exact Le.none
      | some fi =>
        simp only [Option.bind_some]
        rw [oB_eq]
        cases hb : fi.fn.body with
        | none => exact Le.none
        | some b =>
          simp only [Option.bind_some]
          rw [enS_eq, x_call hi hf hb, bnd]
          refine Le.trans (exS_ok C M _ ih hM fi n b _ s _) ?_
          cases execL C fi b (enumE 0 args) s with
          | none => exact Le.none
          | some r =>
            obtain ⟨x, e1, s1⟩ := r
            simp only [Option.bind_some]
            rw [fiS_eq]; exact Le.refl _
end

/-- A closed call: looked at. -/
noncomputable def closed (C : Cfg) (M : FuncId → List V → Option V) (n : Nat) (f : FuncId) (args : List V) : Option V :=
  caN C M n f args St.empty fun r _ => some r
theorem closed_ok {C : Cfg} {M : FuncId → List V → Option V} (hM : MemOk C M) {n : Nat} {f : FuncId} {args : List V} {v : V} (h : closed C M n f args = some v) : ∃ s', callL C f args St.empty = some (v, s') := by
  have := caN_ok C M hM n f args St.empty (fun r _ => some r) v h
  cases hc : callL C f args St.empty with
  | none => rw [hc] at this; cases this
  | some r =>
    rw [hc] at this
    simp only [Option.bind_some, Option.some.injEq] at this
    exact ⟨r.2, by rw [← this]⟩
/-- A closed call's result, told without objects. -/
noncomputable def closedR (C : Cfg) (M : FuncId → List V → Option V) (n : Nat) (f : FuncId) (args : List V) : Option V :=
  caN C M n f args St.empty fun r s => rfS s 40 r some
theorem closedR_ok {C : Cfg} {M : FuncId → List V → Option V} (hM : MemOk C M) {n : Nat} {f : FuncId} {args : List V} {v : V} (h : closedR C M n f args = some v) : ∃ r0 s', callL C f args St.empty = some (r0, s') ∧ reify s' 40 r0 = some v := by
  have := caN_ok C M hM n f args St.empty (fun r s => rfS s 40 r some) v h
  cases hc : callL C f args St.empty with
  | none => rw [hc] at this; cases this
  | some r =>
    rw [hc] at this
    simp only [Option.bind_some] at this
    rw [rfS_eq] at this
    cases hr : reify r.2 40 r.1 with
    | none => rw [hr] at this; cases this
    | some x =>
      rw [hr] at this
      exact ⟨r.1, r.2, rfl, by rw [hr]; exact this⟩
def noMem : FuncId → List V → Option V := fun _ _ => none
theorem noMem_ok (C : Cfg) : MemOk C noMem := fun _ _ _ h => by cases h
noncomputable def isT (x : Option V) : Bool := Option.rec (motive := fun _ => Bool) false (fun v => V.rec (motive_1 := fun _ => Bool) (motive_2 := fun _ => PUnit) (fun b => b) (fun _ _ => false) (fun _ => false) (fun _ _ => false) (fun _ _ => false) false (fun _ _ _ _ _ => false) (fun _ _ _ _ => false) (fun _ _ => false) false (fun _ _ _ => false) (fun _ _ => false) false PUnit.unit (fun _ _ _ _ => PUnit.unit) v) x
theorem isT_ok {x : Option V} (h : isT x = true) : x = some (.bool true) := by
  cases x with
  | none => cases h
  | some v => cases v <;> first | (exact congrArg (fun b => some (V.bool b)) h) | cases h
end Go.Ilv
