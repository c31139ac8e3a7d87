/- Regions, code and calls, strict: what the strict evaluator comes to, the evaluator comes to. -/
import Derived.Test.YtdofkchhdckomaaIlvFast3
set_option linter.unusedVariables false
set_option linter.unusedSimpArgs false
namespace Go.Ilv
open Go

section
variable {α : Type} (C : Cfg) (cal : CalT α) (M : FuncId → List V → Option V) (fi : FnI)
noncomputable def putS (e : Env) (dst : Option Nat) (v : V) (k : Env → Option α) : Option α :=
  Option.rec (motive := fun _ => Option α) (k e) (fun d => asetS e d v k) dst
theorem putS_eq (e : Env) (dst : Option Nat) (v : V) (k : Env → Option α) : putS e dst v k = k (putE e dst v) := by
  cases dst with
  | none => rfl
  | some d => exact asetS_eq e d v k
/-- Is an operation wanted? -/
noncomputable def waS (ops : Array Oper) (o : Oper) (e : Env) (t f : Option α) : Option α :=
  Option.rec (motive := fun _ => Option α) t (fun _ => oB (wantedI (ins ops o).guard e) fun b => Bool.rec (motive := fun _ => Option α) f t b) o.guard
theorem waS_eq (ops : Array Oper) (o : Oper) (e : Env) (t f : Option α) : waS ops o e t f = match wantedI (ins ops o).guard e with
    | some true => t
    | some false => f
    | none => none := by
  unfold waS
  cases hg : o.guard with
  | none => simp only [ins, hg, Option.map_none, wantedI]
  | some g =>
    show oB _ _ = _
    rw [oB_eq]
    cases wantedI (ins ops o).guard e with
    | none => rfl
    | some b => cases b <;> rfl
noncomputable def sqS (ops : Array Oper) (l : List Oper) : Env → St → (Env → St → Option α) → Option α :=
  List.rec (motive := fun _ => Env → St → (Env → St → Option α) → Option α) (fun e s k => k e s) (fun o _ ih e s k =>
    waS ops o e (cdS C cal M fi o.dst o.op e s s.nxt fun v s' b => putS e o.dst v fun e' => Bool.rec (motive := fun _ => Option α) (ih e' s' k) (fN (Nat.succ s'.nxt) fun n => ih e' ⟨n, s'.objs⟩ k) b)
      (putS e o.dst .undef fun e' => ih e' s k)) l
theorem sqS_ok (hc : CalOk C cal) (hM : MemOk C M) (ops : Array Oper) (l : List Oper) : ∀ e s (k : Env → St → Option α),
    Le (sqS C cal M fi ops l e s k) ((runI C (callL C) fi (l.map (ins ops)) e s).bind fun r => k r.1 r.2) := by
  induction l with
  | nil => intro e s k; exact Le.refl _
  | cons o r ih =>
    intro e s k
    show Le (waS ops o e _ _) _
    rw [waS_eq, List.map_cons, runI]
    cases wantedI (ins ops o).guard e with
    | none => exact Le.none
    | some b =>
      cases b with
      | false => show Le (putS _ _ _ _) _; rw [putS_eq]; exact ih _ _ _
      | true =>
        show Le (cdS C cal M fi o.dst o.op e s s.nxt _) _
        refine Le.trans (cdS_ok C cal M fi hc hM _ _ _ _ _ _) ?_
        simp only [ins]
        cases actI C (callL C) fi o.dst s.nxt o.op e s with
        | none => exact Le.none
        | some x =>
          obtain ⟨v, s', b⟩ := x
          simp only [Option.bind_some]
          rw [putS_eq]
          cases b with
          | false => exact ih _ _ _
          | true => exact ih _ _ _
noncomputable def drS (n0 : Nat) (ops : Array Oper) (l : List Oper) : Nat → Env → St → (Env → St → Option α) → Option α :=
  List.rec (motive := fun _ => Nat → Env → St → (Env → St → Option α) → Option α) (fun _ e s k => k e s) (fun o _ ih i e s k =>
    waS ops o e (fN (Nat.add n0 i) fun id => cdS C cal M fi o.dst o.op e s id fun v s' b => putS e o.dst v fun e' => fN (Nat.succ i) fun i => ih i e' s' k)
      (putS e o.dst .undef fun e' => fN (Nat.succ i) fun i => ih i e' s k)) l
theorem drS_ok (hc : CalOk C cal) (hM : MemOk C M) (n0 : Nat) (ops : Array Oper) (l : List Oper) : ∀ i e s (k : Env → St → Option α),
    Le (drS C cal M fi n0 ops l i e s k) ((runDI C (callL C) fi n0 (l.map (ins ops)) i e s).bind fun r => k r.1 r.2) := by
  induction l with
  | nil => intro i e s k; exact Le.refl _
  | cons o r ih =>
    intro i e s k
    show Le (waS ops o e _ _) _
    rw [waS_eq, List.map_cons, runDI]
    cases wantedI (ins ops o).guard e with
    | none => exact Le.none
    | some b =>
      cases b with
      | false => show Le (putS _ _ _ _) _; rw [putS_eq]; exact ih _ _ _ _
      | true =>
        show Le (fN (Nat.add n0 i) _) _
        rw [fN_eq]
        refine Le.trans (cdS_ok C cal M fi hc hM _ _ _ _ _ _) ?_
        simp only [ins]
        show Le ((actI C (callL C) fi o.dst (n0 + i) o.op e s).bind _) _
        cases actI C (callL C) fi o.dst (n0 + i) o.op e s with
        | none => exact Le.none
        | some x =>
          obtain ⟨v, s', b⟩ := x
          simp only [Option.bind_some]
          rw [putS_eq]
          exact ih _ _ _ _

/-! ### With feet -/
noncomputable def gfS (dst : Option Nat) (op : Op) (e : Env) (s : St) (id : Nat) (k : V → St → Foot → Option α) : Option α :=
  oB (prim C (frzD fi dst) e s id op) fun r => fV r.1 fun v => Eff.rec (motive := fun _ => Option α) (k v s (footP C e op .none)) (fun i o => fN i fun i => fO o fun o => asetS s.objs i o fun objs => fN s.nxt fun n => k v ⟨n, objs⟩ (footP C e op (.set i o))) r.2
noncomputable def cfS (f : Operand) (args : List Operand) (e : Env) (s : St) (k : V → St → Foot → Option α) : Option α :=
  opS C e f fun fv => opsS C e args fun xs => onFn fv fun g cap => appS xs cap fun ys => oB (C.fn g) fun gi => cvS cal M gi.pure g ys s fun r s' =>
    Bool.rec (motive := fun _ => Option α) (k r s' (.call s s')) (Bool.rec (motive := fun _ => Option α) (k r s' .top) (k r s' (.cells [] [])) (ys.all V.flat)) gi.pure
noncomputable def acF (dst : Option Nat) (op : Op) (e : Env) (s : St) (id : Nat) (k : V → St → Foot → Option α) : Option α :=
  Cd.rec (motive := fun _ => Option α) (fun x => gfS C fi dst op e s id k) (fun n g x => gfS C fi dst op e s id k) (fun n p x => gfS C fi dst op e s id k)
    (fun o t x y => gfS C fi dst op e s id k) (fun off x => gfS C fi dst op e s id k) (fun n x i => gfS C fi dst op e s id k) (fun off n g x => gfS C fi dst op e s id k)
    (fun x => gfS C fi dst op e s id k) (fun x i => gfS C fi dst op e s id k) (fun x => gfS C fi dst op e s id k)
    (fun f args => cfS C cal M f args e s k) (gfS C fi dst op e s id k) (comp C op)
theorem gfS_ok (dst : Option Nat) (op : Op) (hp : plainOp op = true) (e : Env) (s : St) (id : Nat) (k : V → St → Foot → Option α) :
    gfS C fi dst op e s id k = (actF C (callL C) fi dst id op e s).bind fun r => k r.1 r.2.1 r.2.2 := by
  have : actF C (callL C) fi dst id op e s = (prim C (frzD fi dst) e s id op).map fun r => (r.1, r.2.on s, footP C e op r.2) := by
    unfold actF
    split
    · simp [plainOp] at hp
    · rfl
  rw [this]
  unfold gfS
  rw [oB_eq]
  cases prim C (frzD fi dst) e s id op with
  | none => rfl
  | some r =>
    obtain ⟨v, eff⟩ := r
    simp only [Option.bind_some, fV_eq, Option.map_some]
    cases eff with
    | none => rfl
    | set i o =>
      show fN i _ = _
      rw [fN_eq, fO_eq, asetS_eq, fN_eq]; rfl
theorem comp_call {op : Op} {f : Operand} {args : List Operand} (h : comp C op = .call f args) : ∃ as ats, op = .call { callee := .value f, args := as, argTypes := ats } ∧ as.toList = args := by
  unfold comp at h
  split at h <;> (try (repeat' split at h)) <;> (try cases h)
  exact ⟨_, _, rfl, rfl⟩
theorem cfS_ok (hc : CalOk C cal) (hM : MemOk C M) (dst : Option Nat) (id : Nat) (f : Operand) (args : Array Operand) (ats : Array TypeId) (e : Env) (s : St) (k : V → St → Foot → Option α) :
    Le (cfS C cal M f args.toList e s k) ((actF C (callL C) fi dst id (.call { callee := .value f, args := args, argTypes := ats }) e s).bind fun r => k r.1 r.2.1 r.2.2) := by
  show Le _ ((callFt C (callL C) f args e s).bind _)
  unfold cfS callFt
  rw [opS_eq]
  cases opnd C e f with
  | none => exact Le.none
  | some fv =>
    simp only [Option.bind_some]
    rw [opsS_eq]
    cases opnds C e args.toList with
    | none => exact Le.none
    | some xs =>
      simp only [Option.bind_some]
      cases fv with
      | fn g cap =>
        rw [onFn_fn, appS_eq, oB_eq]
        simp only
        cases C.fn g with
        | none => exact Le.none
        | some gi =>
          simp only [Option.bind_some]
          refine Le.trans (cvS_ok C cal M hc hM _ _ _ _ _) ?_
          cases callV (callL C) gi.pure g (xs ++ cap) s with
          | none => exact Le.none
          | some r =>
            obtain ⟨v, s'⟩ := r
            simp only [Option.bind_some]
            cases gi.pure with
            | false => exact Le.refl _
            | true => cases (xs ++ cap).all V.flat <;> exact Le.refl _
      | _ => exact Le.none
theorem acF_ok (hc : CalOk C cal) (hM : MemOk C M) (dst : Option Nat) (op : Op) (e : Env) (s : St) (id : Nat) (k : V → St → Foot → Option α) :
    Le (acF C cal M fi dst op e s id k) ((actF C (callL C) fi dst id op e s).bind fun r => k r.1 r.2.1 r.2.2) := by
  unfold acF
  cases hp : plainOp op with
  | true =>
    have hg := gfS_ok C fi dst op hp e s id k
    cases hcm : comp C op <;> first | exact Le.of_eq hg | skip
    obtain ⟨as, ats, h, _⟩ := comp_call C hcm
    rw [h] at hp; cases hp
  | false =>
    have : ∃ f as ats, op = .call { callee := .value f, args := as, argTypes := ats } := by
      unfold plainOp at hp
      split at hp
      · exact ⟨_, _, _, rfl⟩
      · cases hp
    obtain ⟨f, as, ats, rfl⟩ := this
    exact cfS_ok C cal M fi hc hM dst id f as ats e s k
noncomputable def dfS (n0 : Nat) (ops : Array Oper) (l : List Oper) : Nat → Env → St → List (Nat × Foot) → (Env → St → List (Nat × Foot) → Option α) → Option α :=
  List.rec (motive := fun _ => Nat → Env → St → List (Nat × Foot) → (Env → St → List (Nat × Foot) → Option α) → Option α) (fun _ e s fs k => k e s fs) (fun o _ ih i e s fs k =>
    waS ops o e (fN (Nat.add n0 i) fun id => acF C cal M fi o.dst o.op e s id fun v s' ft => putS e o.dst v fun e' => fN (Nat.succ i) fun i' => appS fs [(i, ft)] fun fs' => ih i' e' s' fs' k)
      (putS e o.dst .undef fun e' => fN (Nat.succ i) fun i' => appS fs [(i, .cells [] [])] fun fs' => ih i' e' s fs' k)) l
theorem dfS_ok (hc : CalOk C cal) (hM : MemOk C M) (n0 : Nat) (ops : Array Oper) (l : List Oper) : ∀ i e s fs (k : Env → St → List (Nat × Foot) → Option α),
    Le (dfS C cal M fi n0 ops l i e s fs k) ((runDF C (callL C) fi n0 (l.map (ins ops)) i e s fs).bind fun r => k r.1 r.2.1 r.2.2) := by
  induction l with
  | nil => intro i e s fs k; exact Le.refl _
  | cons o r ih =>
    intro i e s fs k
    show Le (waS ops o e _ _) _
    rw [waS_eq, List.map_cons, runDF]
    cases wantedI (ins ops o).guard e with
    | none => exact Le.none
    | some b =>
      cases b with
      | false => show Le (putS _ _ _ _) _; rw [putS_eq, fN_eq, appS_eq]; exact ih _ _ _ _ _
      | true =>
        show Le (fN (Nat.add n0 i) _) _
        rw [fN_eq]
        refine Le.trans (acF_ok C cal M fi hc hM _ _ _ _ _ _) ?_
        simp only [ins]
        show Le ((actF C (callL C) fi o.dst (n0 + i) o.op e s).bind _) _
        cases actF C (callL C) fi o.dst (n0 + i) o.op e s with
        | none => exact Le.none
        | some x =>
          obtain ⟨v, s', b⟩ := x
          simp only [Option.bind_some]
          rw [putS_eq, fN_eq, appS_eq]
          exact ih _ _ _ _ _
/-- What remains of a walk with feet. -/
theorem drawK_feet {ops : Array Oper} {l : List (Nat × Nat)} {e : Env} {s : St} {b : Bool} {r : Env × St × List (Nat × Foot)}
    (h : runDF C (callL C) fi s.nxt (inss ops) 0 e (bif b then ⟨s.nxt + ops.size, s.objs⟩ else s) [] = some r) (hl : (l.all fun p => (footAt r.2.2 p.1).indep (footAt r.2.2 p.2)) = true) :
    drawK C (callL C) fi ops e s (some l) b = some (r.1, r.2.1) := by
  have h1 := runDraw_runDF C (callL C) fi ops s.nxt ops.size 0 e (bif b then ⟨s.nxt + ops.size, s.objs⟩ else s) [] (by omega)
  have h2 := runDraw_runDI C (callL C) fi ops s.nxt 0 e (bif b then ⟨s.nxt + ops.size, s.objs⟩ else s)
  simp only [List.drop_zero, Nat.sub_zero] at h1 h2
  have e0 : ops.toList.map (ins ops) = inss ops := rfl
  rw [e0, h] at h1
  rw [e0] at h2
  rw [h2] at h1
  cases hr : runDI C (callL C) fi s.nxt (inss ops) 0 e (bif b then ⟨s.nxt + ops.size, s.objs⟩ else s) with
  | none => rw [hr] at h1; cases h1
  | some x =>
    rw [hr] at h1
    simp only [Option.map_some, Option.some.injEq, List.nil_append] at h1
    subst h1
    simp only at hl
    simp only [drawK]
    rw [List.range_eq_range']
    rw [hl, hr]
    rfl

/-! ### Regions -/
noncomputable def keS (l : List Nat) (e : Env) : (Env → Option α) → Option α :=
  List.rec (motive := fun _ => (Env → Option α) → Option α) (fun k => k []) (fun t _ ih k => Option.rec (motive := fun _ => Option α) (ih k) (fun v => ih fun r => k ((t, v) :: r)) (aget e t)) l
theorem keS_eq (l : List Nat) (e : Env) : ∀ k : Env → Option α, keS l e k = k (keepE l e) := by
  induction l with
  | nil => intro k; rfl
  | cons t r ih =>
    intro k
    have : keS (t :: r) e k = Option.rec (motive := fun _ => Option α) (keS r e k) (fun v => keS r e fun r => k ((t, v) :: r)) (aget e t) := rfl
    rw [this]
    simp only [keepE, List.filterMap_cons]
    cases aget e t with
    | none => exact ih k
    | some v => exact ih _
noncomputable def liS (id : Nat) (e : Env) (k : Env → Option α) : Option α :=
  Option.rec (motive := fun _ => Option α) (k e) (fun l => keS l e k) (aget fi.live id)
theorem liS_eq (id : Nat) (e : Env) (k : Env → Option α) : liS fi id e k = k (liveE fi id e) := by
  unfold liS liveE
  cases aget fi.live id with
  | none => rfl
  | some l => exact keS_eq l e k
noncomputable def bpS (b : Bool) (s : St) (n : Nat) (k : St → Option α) : Option α :=
  Bool.rec (motive := fun _ => Option α) (k s) (fN (Nat.add s.nxt n) fun m => k ⟨m, s.objs⟩) b
noncomputable def rgS (id : Nat) (ops : Array Oper) (draw : Bool) (e : Env) (s : St) (k : Env → St → Option α) : Option α :=
  Bool.rec (motive := fun _ => Option α) (sqS C cal M fi ops ops.toList e s k)
    (bpS (ops.toList.any (bumps C fi)) s ops.size fun s0 =>
      Option.rec (motive := fun _ => Option α) (drS C cal M fi s.nxt ops ops.toList 0 e s0 k)
        (fun l => dfS C cal M fi s.nxt ops ops.toList 0 e s0 [] fun e' s' fs => tst (l.all fun p => (footAt fs p.1).indep (footAt fs p.2)) (k e' s')) (aget fi.conf id)) draw
theorem bpS_eq (b : Bool) (s : St) (n : Nat) (k : St → Option α) : bpS b s n k = k (bif b then ⟨s.nxt + n, s.objs⟩ else s) := by cases b <;> rfl
theorem rgS_f (id : Nat) (ops : Array Oper) (e : Env) (s : St) (k : Env → St → Option α) : rgS C cal M fi id ops false e s k = sqS C cal M fi ops ops.toList e s k := rfl
theorem rgS_t (id : Nat) (ops : Array Oper) (e : Env) (s : St) (k : Env → St → Option α) : rgS C cal M fi id ops true e s k = bpS (ops.toList.any (bumps C fi)) s ops.size fun s0 =>
      Option.rec (motive := fun _ => Option α) (drS C cal M fi s.nxt ops ops.toList 0 e s0 k)
        (fun l => dfS C cal M fi s.nxt ops ops.toList 0 e s0 [] fun e' s' fs => tst (l.all fun p => (footAt fs p.1).indep (footAt fs p.2)) (k e' s')) (aget fi.conf id) := rfl
theorem rgS_ok (hc : CalOk C cal) (hM : MemOk C M) (id : Nat) (ops : Array Oper) (draw : Bool) (e : Env) (s : St) (k : Ex → Env → St → Option α) :
    Le (rgS C cal M fi id ops draw e s fun e' s' => liS fi id e' fun e'' => k .normal e'' s') ((execL C fi (.region id ops draw) e s).bind fun r => k r.1 r.2.1 r.2.2) := by
  cases draw with
  | false =>
    rw [x_reg, bnd]
    rw [rgS_f]
    refine Le.trans (sqS_ok C cal M fi hc hM _ _ _ _ _) ?_
    show Le ((runI C (callL C) fi (inss ops) e s).bind _) _
    cases runI C (callL C) fi (inss ops) e s with
    | none => exact Le.none
    | some r => simp only [Option.bind_some]; rw [liS_eq]; exact Le.refl _
  | true =>
    rw [x_drawK, bnd, rgS_t, bpS_eq]
    cases hcf : aget fi.conf id with
    | none =>
      show Le (drS C cal M fi s.nxt ops ops.toList 0 e _ _) _
      refine Le.trans (drS_ok C cal M fi hc hM _ _ _ _ _ _ _) ?_
      show Le ((runDI C (callL C) fi s.nxt (inss ops) 0 e _).bind _) _
      have : drawK C (callL C) fi ops e s none (ops.toList.any (bumps C fi)) = runDI C (callL C) fi s.nxt (inss ops) 0 e (bif ops.toList.any (bumps C fi) then ⟨s.nxt + ops.size, s.objs⟩ else s) := by
        cases ops.toList.any (bumps C fi) <;> rfl
      rw [this]
      cases runDI C (callL C) fi s.nxt (inss ops) 0 e (bif ops.toList.any (bumps C fi) then ⟨s.nxt + ops.size, s.objs⟩ else s) with
      | none => exact Le.none
      | some r => simp only [Option.bind_some]; rw [liS_eq]; exact Le.refl _
    | some l =>
      show Le (dfS C cal M fi s.nxt ops ops.toList 0 e _ [] _) _
      refine Le.trans (dfS_ok C cal M fi hc hM _ _ _ _ _ _ _ _) ?_
      show Le ((runDF C (callL C) fi s.nxt (inss ops) 0 e _ []).bind _) _
      cases hr : runDF C (callL C) fi s.nxt (inss ops) 0 e (bif ops.toList.any (bumps C fi) then ⟨s.nxt + ops.size, s.objs⟩ else s) [] with
      | none => exact Le.none
      | some r =>
        simp only [Option.bind_some]
        rw [tst_eq]
        cases hl : (l.all fun p => (footAt r.2.2 p.1).indep (footAt r.2.2 p.2)) with
        | false => exact Le.none
        | true =>
          rw [drawK_feet C fi hr hl]
          simp only [if_true, Option.bind_some]
          rw [liS_eq]; exact Le.refl _
end
end Go.Ilv
