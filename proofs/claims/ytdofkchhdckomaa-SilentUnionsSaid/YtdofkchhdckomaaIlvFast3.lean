/- Regions, code and calls, strict: what the strict evaluator comes to, the evaluator comes to. -/
import Derived.Test.YtdofkchhdckomaaIlvFast2
set_option linter.unusedVariables false
set_option linter.unusedSimpArgs false
namespace Go.Ilv
open Go

section
variable {α : Type}
/-- What the left comes to, the right comes to. -/
def Le (l r : Option α) : Prop := ∀ a, l = some a → r = some a
theorem Le.refl (l : Option α) : Le l l := fun _ h => h
theorem Le.of_eq {l r : Option α} (h : l = r) : Le l r := fun _ g => h ▸ g
theorem Le.trans {a b c : Option α} (h : Le a b) (g : Le b c) : Le a c := fun x hx => g x (h x hx)
theorem Le.bind {β : Type} {x : Option β} {k k' : β → Option α} (h : ∀ r, Le (k r) (k' r)) : Le (x.bind k) (x.bind k') := by
  cases x with
  | none => exact Le.refl _
  | some r => exact h r
theorem Le.none {r : Option α} : Le none r := fun _ h => by cases h

abbrev CalT (α : Type) := FuncId → List V → St → (V → St → Option α) → Option α
def CalOk (C : Cfg) (cal : CalT α) : Prop := ∀ f args s k, Le (cal f args s k) ((callL C f args s).bind fun r => k r.1 r.2)

/-! ### Telling without objects -/
noncomputable def rowS (r : List V) (k : V → Option α) : Option α :=
  List.rec (motive := fun _ => Option α) (k (.agg [])) (fun x t _ => List.rec (motive := fun _ => Option α) (k x) (fun y u _ => k (.agg (x :: y :: u))) t) r
theorem rowS_eq (r : List V) (k : V → Option α) : rowS r k = k (rowV r) := by
  match r with
  | [] => rfl
  | [x] => rfl
  | x :: y :: u => rfl
noncomputable def elS (s : St) (id ver off len : Nat) (k : List V → Option α) : Option α :=
  objS s id ver fun _ _ rows => lenS rows 0 fun L => tst (Nat.ble (Nat.add off len) L) (dropS rows off fun d => takeS d len fun l => allS rowS l k)
theorem elS_eq (s : St) (id ver sz off len : Nat) (k : List V → Option α) : elS s id ver off len k = (elems s (.ref id ver sz off len)).bind k := by
  unfold elS objS
  rw [agetS_eq]
  simp only [elems, St.get]
  cases aget s.objs id with
  | none => rfl
  | some o =>
    simp only [Option.bind_some, tst_eq, nbeq, decide_eq_true_eq]
    by_cases h : o.ver = ver
    · simp only [h, if_true]
      rw [lenS_eq]
      simp only [nble, decide_eq_true_eq]
      by_cases h2 : off + len ≤ o.rows.length
      · have h2' : Nat.add off len ≤ o.rows.length := h2
        simp only [h2, h2', if_true]
        rw [dropS_eq, takeS_eq, allS_eq (g := fun r => some (rowV r)) (fun r k => by rw [rowS_eq]; rfl)]
        have : ∀ l : List (List V), allSome (fun r => some (rowV r)) l = some (l.map rowV) := by
          intro l
          induction l with
          | nil => rfl
          | cons x r ih => simp only [allSome, ih, List.map_cons]
        rw [this]
      · have h2' : ¬ Nat.add off len ≤ o.rows.length := h2
        simp only [h2, h2', if_false]; rfl
    · simp only [h, if_false]; rfl
noncomputable def rf1 (s : St) (ih : V → (V → Option α) → Option α) (v : V) (k : V → Option α) : Option α :=
  V.rec (motive_1 := fun _ => Option α) (motive_2 := fun _ => PUnit) (fun b => k (.bool b)) (fun a b => k (.int a b)) (fun a => k (.str a)) (fun l _ => allS ih l fun l => k (.agg l)) (fun l _ => k (.lit l)) (k (.lit []))
    (fun a b c d n => elS s a b d n fun xs => allS ih xs fun l => k (.lit l)) (fun a b c d => none) (fun l _ => k (.cptr l)) (k .pnil) (fun f l _ => none) (fun l _ => allS ih l fun l => k (.tup l)) none PUnit.unit (fun _ _ _ _ => PUnit.unit) v
noncomputable def rfS (s : St) (n : Nat) : V → (V → Option α) → Option α :=
  Nat.rec (motive := fun _ => V → (V → Option α) → Option α) (fun _ _ => none) (fun _ ih v k => rf1 s ih v k) n
theorem rfS_eq (s : St) (n : Nat) : ∀ (v : V) (k : V → Option α), rfS s n v k = (reify s n v).bind k := by
  induction n with
  | zero => intro v k; simp only [reify]; rfl
  | succ n ih =>
    intro v k
    show rf1 s (rfS s n) v k = _
    cases v with
    | agg cs =>
      show allS _ cs _ = _
      rw [allS_eq ih, reify]
      cases allSome (reify s n) cs <;> rfl
    | tup cs =>
      show allS _ cs _ = _
      rw [allS_eq ih, reify]
      cases allSome (reify s n) cs <;> rfl
    | ref a b c d len =>
      show elS s a b d len _ = _
      rw [elS_eq s a b c d len, reify]
      cases elems s (.ref a b c d len) with
      | none => rfl
      | some xs =>
        simp only [Option.bind_some]
        rw [allS_eq ih]
        cases allSome (reify s n) xs <;> rfl
    | _ => rw [reify] <;> first | rfl | (intros; simp_all)

/-! ### Calls -/
section
variable (C : Cfg) (cal : CalT α) (M : FuncId → List V → Option V)
/-- Results that are known. -/
def MemOk : Prop := ∀ g xs r, M g xs = some r → ∃ r0 s', callL C g xs St.empty = some (r0, s') ∧ reify s' 40 r0 = some r
noncomputable def cvS (pure : Bool) (g : FuncId) (ys : List V) (s : St) (k : V → St → Option α) : Option α :=
  Bool.rec (motive := fun _ => Option α) (cal g ys s k) (allS (rfS s 40) ys fun xs =>
    Option.rec (motive := fun _ => Option α) (cal g xs St.empty fun r s' => rfS s' 40 r fun r' => tst (or (ys.all V.flat) r'.scalar) (k r' s))
      (fun r' => tst (or (ys.all V.flat) r'.scalar) (k r' s)) (M g xs)) pure
theorem cvS_ok (hc : CalOk C cal) (hM : MemOk C M) (pure : Bool) (g : FuncId) (ys : List V) (s : St) (k : V → St → Option α) :
    Le (cvS cal M pure g ys s k) ((callV (callL C) pure g ys s).bind fun r => k r.1 r.2) := by
  cases pure with
  | false => exact hc g ys s k
  | true =>
    show Le (allS _ ys _) _
    rw [allS_eq (rfS_eq s 40), callV_t, bnd]
    cases allSome (reify s 40) ys with
    | none => exact Le.none
    | some xs =>
      simp only [Option.bind_some, bnd]
      have key : ∀ r', (tst (or (ys.all V.flat) r'.scalar) (k r' s)) = (bif (ys.all V.flat || r'.scalar) then some (r', s) else none : Option (V × St)).bind fun r => k r.1 r.2 := by
        intro r'
        rw [tst_eq]
        show (if (ys.all V.flat || r'.scalar) = true then _ else _) = _
        cases (ys.all V.flat || r'.scalar) <;> rfl
      cases hm : M g xs with
      | none =>
        show Le (cal g xs St.empty _) _
        refine Le.trans (hc _ _ _ _) ?_
        cases callL C g xs St.empty with
        | none => exact Le.none
        | some r =>
          simp only [Option.bind_some]
          rw [rfS_eq]
          cases reify r.2 40 r.1 with
          | none => exact Le.none
          | some r' => simp only [Option.bind_some]; exact Le.of_eq (key r')
      | some r' =>
        show Le (tst _ _) _
        obtain ⟨r0, s', h1, h2⟩ := hM _ _ _ hm
        rw [h1]
        simp only [Option.bind_some, h2]
        exact Le.of_eq (key r')
noncomputable def caS (f : Operand) (args : List Operand) (e : Env) (s : St) (k : V → St → Option α) : Option α :=
  opS C e f fun fv => opsS C e args fun xs => onFn fv fun g cap => appS xs cap fun ys => oB (C.fn g) fun gi => cvS cal M gi.pure g ys s k
theorem caS_ok (hc : CalOk C cal) (hM : MemOk C M) (f : Operand) (args : Array Operand) (e : Env) (s : St) (k : V → St → Option α) :
    Le (caS C cal M f args.toList e s k) ((callI C (callL C) f args e s).bind fun r => k r.1 r.2) := by
  unfold caS callI
  rw [opS_eq]
  cases opnd C e f with
  | none => exact Le.none
  | some fv =>
    simp only [Option.bind_some]
    rw [opsS_eq]
    cases opnds C e args.toList with
    | none => exact Le.none
    | some xs =>
      simp only [Option.bind_some]
      cases fv with
      | fn g cap =>
        rw [onFn_fn, appS_eq, oB_eq]
        simp only
        cases C.fn g with
        | none => exact Le.none
        | some gi => exact cvS_ok C cal M hc hM _ _ _ _ _
      | _ => exact Le.none

variable (fi : FnI)
noncomputable def cdS (dst : Option Nat) (op : Op) (e : Env) (s : St) (id : Nat) (k : V → St → Bool → Option α) : Option α :=
  Cd.rec (motive := fun _ => Option α) (fun x => opS C e x fun v => k v s false) (fun n g x => ldS C n g x e s fun v => k v s false) (fun n p x => stS C n p x e s id k)
    (fun o t x y => biS C o t x y e fun v => k v s false) (fun off x => faS C off x e fun v => k v s false) (fun n x i => ixS C n x i e fun v => k v s false) (fun off n g x => flS C off n g x e fun v => k v s false)
    (fun x => lnS C x e fun v => k v s false) (fun x i => xtS C x i e fun v => k v s false) (fun x => ntS C x e fun v => k v s false)
    (fun f args => caS C cal M f args e s fun v s => k v s false) (gnS C (frzD fi dst) op e s id k) (comp C op)

theorem actI_call {α : Type} {cal : Callee} {dst : Option Nat} {id : Nat} {f : Operand} {args : Array Operand} {ats : Array TypeId} {e : Env} {s : St} (k : V → St → Bool → Option α) :
    ((actI C cal fi dst id (.call { callee := .value f, args := args, argTypes := ats }) e s).bind fun r => k r.1 r.2.1 r.2.2) = (callI C cal f args e s).bind fun r => k r.1 r.2 false := by
  show (Option.map _ (callI C cal f args e s)).bind _ = _
  cases callI C cal f args e s <;> rfl
def plainOp (op : Op) : Bool := match op with
  | .call { callee := .value _, .. } => false
  | _ => true
theorem actI_plain {α : Type} {cal : Callee} {dst : Option Nat} {id : Nat} {op : Op} (h : plainOp op = true) {e : Env} {s : St} (k : V → St → Bool → Option α) :
    ((actI C cal fi dst id op e s).bind fun r => k r.1 r.2.1 r.2.2) = (prim C (frzD fi dst) e s id op).bind (prK s id k) := by
  have : actI C cal fi dst id op e s = (prim C (frzD fi dst) e s id op).map fun r => (r.1, r.2.on s, match r.2 with
      | .set i _ => i == id
      | .none => false) := by
    unfold actI
    split
    · simp [plainOp] at h
    · rfl
  rw [this]
  cases prim C (frzD fi dst) e s id op <;> rfl
/-- An operation that leaves the store alone. -/
theorem noEff {α : Type} {x : Option (V × Eff)} (h : ∀ r, x = some r → r.2 = .none) {s : St} {id : Nat} (k : V → St → Bool → Option α) : (x.bind fun r => k r.1 s false) = x.bind (prK s id k) := by
  cases x with
  | none => rfl
  | some r =>
    obtain ⟨v, eff⟩ := r
    have := h _ rfl
    simp only at this
    subst this
    rfl
theorem qEff {z : Option V} {r : V × Eff} (h : (z.map fun v => (v, Eff.none)) = some r) : r.2 = .none := by
  cases z with
  | none => cases h
  | some v => simp at h; rw [← h]
theorem ne_load {frz : Bool} {e : Env} {s : St} {id : Nat} {t : TypeId} {x : Operand} {r : V × Eff} (h : prim C frz e s id (.load t x) = some r) : r.2 = .none := by
  simp only [prim] at h
  split at h
  · split at h
    · exact qEff h
    · cases h
  · cases h
theorem ne_bin {frz : Bool} {e : Env} {s : St} {id : Nat} {o : BinOp} {t u : TypeId} {x y : Operand} {r : V × Eff} (h : prim C frz e s id (.binOp o t x y u) = some r) : r.2 = .none := by
  simp only [prim] at h
  split at h
  · exact qEff h
  · cases h
theorem ne_faddr {frz : Bool} {e : Env} {s : St} {id : Nat} {t : TypeId} {x : Operand} {f : Nat} {r : V × Eff} (h : prim C frz e s id (.fieldAddr t x f) = some r) : r.2 = .none := by
  simp only [prim] at h
  split at h
  · exact qEff h
  · cases h
theorem ne_iaddr {frz : Bool} {e : Env} {s : St} {id : Nat} {t : TypeId} {x y : Operand} {r : V × Eff} (h : prim C frz e s id (.indexAddr t x y) = some r) : r.2 = .none := by
  simp only [prim] at h
  split at h
  · exact qEff h
  · cases h
theorem ne_fld {frz : Bool} {e : Env} {s : St} {id : Nat} {t : TypeId} {x : Operand} {f : Nat} {r : V × Eff} (h : prim C frz e s id (.field t x f) = some r) : r.2 = .none := by
  simp only [prim] at h
  split at h
  · exact qEff h
  · cases h
theorem ne_len {frz : Bool} {e : Env} {s : St} {id : Nat} {args : Array Operand} {ats : Array TypeId} {r : V × Eff} (h : prim C frz e s id (.call { callee := .builtin .len, args, argTypes := ats }) = some r) : r.2 = .none := by
  simp only [prim] at h
  split at h
  · exact qEff h
  · cases h
theorem ne_ext {frz : Bool} {e : Env} {s : St} {id : Nat} {x : Operand} {f : Nat} {r : V × Eff} (h : prim C frz e s id (.extract x f) = some r) : r.2 = .none := by
  simp only [prim] at h
  split at h
  · exact qEff h
  · cases h
theorem ne_un {frz : Bool} {e : Env} {s : St} {id : Nat} {o : UnOp} {t : TypeId} {x : Operand} {r : V × Eff} (h : prim C frz e s id (.unOp o t x) = some r) : r.2 = .none := by
  simp only [prim] at h
  split at h
  · exact qEff h
  · cases h
theorem ne_move {frz : Bool} {e : Env} {s : St} {id : Nat} {x : Operand} {r : V × Eff} (h : prim C frz e s id (.move x) = some r) : r.2 = .none := by
  simp only [prim] at h
  exact qEff h
theorem gn_ok (dst : Option Nat) (op : Op) (hp : plainOp op = true) (e : Env) (s : St) (id : Nat) (k : V → St → Bool → Option α) :
    Le (gnS C (frzD fi dst) op e s id k) ((actI C (callL C) fi dst id op e s).bind fun r => k r.1 r.2.1 r.2.2) := by
  rw [actI_plain C fi hp, gnS_eq]; exact Le.refl _
theorem cdS_ok (hc : CalOk C cal) (hM : MemOk C M) (dst : Option Nat) (op : Op) (e : Env) (s : St) (id : Nat) (k : V → St → Bool → Option α) :
    Le (cdS C cal M fi dst op e s id k) ((actI C (callL C) fi dst id op e s).bind fun r => k r.1 r.2.1 r.2.2) := by
  have gen : plainOp op = true → comp C op = .gen → Le (cdS C cal M fi dst op e s id k) ((actI C (callL C) fi dst id op e s).bind fun r => k r.1 r.2.1 r.2.2) := by
    intro hp hg
    unfold cdS
    rw [hg]
    exact gn_ok C fi dst op hp e s id k
  unfold comp at gen
  unfold cdS comp
  split
  · rename_i x
    rw [actI_plain C fi rfl, ← noEff (fun r h => ne_move C h) k]
    exact Le.of_eq (mvS_eq C _ id x e s _)
  · rename_i x
    rw [actI_plain C fi rfl]
    have : prim C (frzD fi dst) e s id (.assign x) = prim C (frzD fi dst) e s id (.move x) := rfl
    rw [this, ← noEff (fun r h => ne_move C h) k]
    exact Le.of_eq (mvS_eq C _ id x e s _)
  · rename_i t x
    split
    · rename_i y hy
      split
      · exact gn_ok C fi dst _ rfl e s id k
      · rename_i h0
        rw [actI_plain C fi rfl, ← noEff (fun r h => ne_load C h) k]
        exact Le.of_eq (ldS_eq C hy h0 _ id x e s _)
    · exact gn_ok C fi dst _ rfl e s id k
  · rename_i t p x
    split
    · rename_i y hy
      rw [actI_plain C fi rfl]
      exact Le.of_eq (stS_eq C hy _ id p x e s k)
    · exact gn_ok C fi dst _ rfl e s id k
  · rename_i o t x y u
    split
    · exact gn_ok C fi dst _ rfl e s id k
    · rename_i hn
      split
      · rename_i hq
        rw [actI_plain C fi rfl, ← noEff (fun r h => ne_bin C h) k]
        exact Le.of_eq (biS_eq C hq (by simpa using hn) _ id e s _)
      · exact gn_ok C fi dst _ rfl e s id k
  · rename_i t x f
    split
    · rename_i fs a b z hy
      split
      · rename_i off ft hf
        split
        · rename_i y hft
          split
          · exact gn_ok C fi dst _ rfl e s id k
          · rename_i h0
            rw [actI_plain C fi rfl, ← noEff (fun r h => ne_faddr C h) k]
            exact Le.of_eq (faS_eq C hy hf hft h0 _ id x e s _)
        · exact gn_ok C fi dst _ rfl e s id k
      · exact gn_ok C fi dst _ rfl e s id k
    · exact gn_ok C fi dst _ rfl e s id k
  · rename_i t x i
    split
    · rename_i el a b z hy
      split
      · rename_i y he
        rw [actI_plain C fi rfl, ← noEff (fun r h => ne_iaddr C h) k]
        exact Le.of_eq (ixS_eq C hy he _ id x i e s _)
      · exact gn_ok C fi dst _ rfl e s id k
    · exact gn_ok C fi dst _ rfl e s id k
  · rename_i t x f
    split
    · rename_i fs a b z hy
      split
      · rename_i off ft hf
        split
        · rename_i y hft
          split
          · exact gn_ok C fi dst _ rfl e s id k
          · rename_i h0
            rw [actI_plain C fi rfl, ← noEff (fun r h => ne_fld C h) k]
            exact Le.of_eq (flS_eq C hy hf hft h0 _ id x e s _)
        · exact gn_ok C fi dst _ rfl e s id k
      · exact gn_ok C fi dst _ rfl e s id k
    · exact gn_ok C fi dst _ rfl e s id k
  · rename_i x i
    rw [actI_plain C fi rfl, ← noEff (fun r h => ne_ext C h) k]
    exact Le.of_eq (xtS_eq C _ id x i e s _)
  · rename_i t x
    rw [actI_plain C fi rfl, ← noEff (fun r h => ne_un C h) k]
    exact Le.of_eq (ntS_eq C _ id t x e s _)
  · rename_i args ats
    split
    · rename_i t x ht ha
      split
      · rename_i el a b z hy
        rw [actI_plain C fi rfl, ← noEff (fun r h => ne_len C h) k]
        exact Le.of_eq (lnS_eq C hy _ id x ha ht e s _)
      · exact gn_ok C fi dst _ rfl e s id k
    · exact gn_ok C fi dst _ rfl e s id k
  · rename_i f args ats
    rw [actI_call C fi k]
    exact caS_ok C cal M hc hM f args e s _
  · rename_i hne
    refine gn_ok C fi dst op ?_ e s id k
    unfold plainOp
    split
    · exfalso; first | exact (‹∀ (f : Operand) (args : Array Operand) (ats : Array TypeId), Op.call _ = Op.call { callee := .value f, args := args, argTypes := ats } → False› _ _ _ rfl) | simp_all
    · rfl
end
end
end Go.Ilv
