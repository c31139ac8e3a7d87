/- Single operations, strict: each does what the evaluator's does. -/
import Derived.Test.YtdofkchhdckomaaIlvFast1
set_option linter.unusedVariables false
set_option linter.unusedSimpArgs false
namespace Go.Ilv
open Go

/-- An operation, with what the tables say of it. -/
inductive Cd where
  | mv (x : Operand)
  | load (n : Nat) (agg : Bool) (x : Operand)
  | store (n : Nat) (p x : Operand)
  | bin (op : BinOp) (t : TypeId) (x y : Operand)
  | faddr (off : Nat) (x : Operand)
  | iaddr (n : Nat) (x i : Operand)
  | fld (off n : Nat) (agg : Bool) (x : Operand)
  | len (x : Operand)
  | ext (x : Operand) (i : Nat)
  | not (x : Operand)
  | call (f : Operand) (args : List Operand)
  | gen
def comp (C : Cfg) (op : Op) : Cd := match op with
  | .move x => .mv x
  | .assign x => .mv x
  | .load t x => match C.ty t with
    | some y => if y.size = 0 then .gen else .load y.size y.kind.agg x
    | none => .gen
  | .store t p x => match C.ty t with
    | some y => .store y.size p x
    | none => .gen
  | .binOp op t x y _ => if isNilS y then .gen else if binQ op then .bin op t x y else .gen
  | .fieldAddr t x f => match C.ty t with
    | some { kind := .struct fs, .. } => match fs[f]? with
      | some (off, ft) => match C.ty ft with
        | some y => if y.size = 0 then .gen else .faddr off x
        | none => .gen
      | none => .gen
    | _ => .gen
  | .indexAddr t x i => match C.ty t with
    | some { kind := .slice e, .. } => match C.ty e with
      | some y => .iaddr y.size x i
      | none => .gen
    | _ => .gen
  | .field t x f => match C.ty t with
    | some { kind := .struct fs, .. } => match fs[f]? with
      | some (off, ft) => match C.ty ft with
        | some y => if y.size = 0 then .gen else .fld off y.size y.kind.agg x
        | none => .gen
      | none => .gen
    | _ => .gen
  | .extract x i => .ext x i
  | .unOp .not _ x => .not x
  | .call { callee := .builtin .len, args, argTypes } => match argTypes.toList, args.toList with
    | [t], [x] => match C.ty t with
      | some { kind := .slice _, .. } => .len x
      | _ => .gen
    | _, _ => .gen
  | .call { callee := .value f, args, .. } => .call f args.toList
  | _ => .gen

section
variable {α : Type} (C : Cfg)
/-- An operand that names no slot, made ready. -/
noncomputable def cF (x : Operand) : Option V := (opnd C [] x).bind fun v => fV v some
theorem cF_eq (x : Operand) : cF C x = opnd C [] x := by
  unfold cF; cases opnd C [] x with
  | none => rfl
  | some v => exact fV_eq v some
noncomputable def opS (e : Env) (x : Operand) (k : V → Option α) : Option α :=
  Operand.rec (motive := fun _ => Option α) (fun t => agetS e t k) (fun v => oB (cF C (.const v)) k) (fun g => oB (cF C (.global g)) k) (fun f => k (.fn f [])) x
theorem opS_eq (e : Env) (x : Operand) (k : V → Option α) : opS C e x k = (opnd C e x).bind k := by
  cases x with
  | tmp t => exact agetS_eq e t k
  | const v => show oB (cF C (.const v)) k = _; rw [oB_eq, cF_eq]; rfl
  | global g => show oB (cF C (.global g)) k = _; rw [oB_eq, cF_eq]; rfl
  | func f => rfl
noncomputable def opsS (e : Env) (l : List Operand) (k : List V → Option α) : Option α := allS (opS C e) l k
theorem opnds_all (e : Env) (l : List Operand) : opnds C e l = allSome (opnd C e) l := by
  induction l with
  | nil => rfl
  | cons x r ih => simp only [opnds, allSome, ih]; cases opnd C e x <;> cases allSome (opnd C e) r <;> rfl
theorem opsS_eq (e : Env) (l : List Operand) (k : List V → Option α) : opsS C e l k = (opnds C e l).bind k := by
  rw [opnds_all]; exact allS_eq (opS_eq C e) l k

/-- An object, found. -/
noncomputable def objS (s : St) (id ver : Nat) (k : Nat → Bool → List (List V) → Option α) : Option α :=
  agetS s.objs id fun o => tst (Nat.beq o.ver ver) (k o.sz o.var o.rows)

noncomputable def ldS (n : Nat) (agg : Bool) (x : Operand) (e : Env) (s : St) (k : V → Option α) : Option α :=
  opS C e x fun p => onPtr p (fun id ver idx off => objS s id ver fun _ _ rows => nthS rows idx fun r => partS r off n agg k) (fun cs => partS cs 0 n agg k)
theorem rd_eq (s : St) (p : V) (n : Nat) (hn : n ≠ 0) (agg : Bool) (k : V → Option α) :
    onPtr p (fun id ver idx off => objS s id ver fun _ _ rows => nthS rows idx fun r => partS r off n agg k) (fun cs => partS cs 0 n agg k) = ((rd s p n).bind fun cs => ofCells agg cs).bind k := by
  cases p with
  | ptr id ver idx off =>
    rw [onPtr_ptr]
    unfold objS
    rw [agetS_eq]
    simp only [rd, St.get]
    cases aget s.objs id with
    | none => rfl
    | some o =>
      simp only [Option.bind_some, tst_eq, nbeq, decide_eq_true_eq]
      by_cases h : o.ver = ver
      · simp only [h, if_true]
        rw [nthS_eq]
        cases o.rows[idx]? with
        | none => rfl
        | some r =>
          simp only [Option.bind_some]
          rw [partS_eq _ _ _ hn]
          by_cases h2 : off + n ≤ r.length
          · simp only [h2, if_true, Option.bind_some]
          · simp only [h2, if_false]; rfl
      · simp only [h, if_false]; rfl
  | cptr cs =>
    rw [onPtr_cptr, partS_eq _ _ _ hn]
    simp only [rd, Nat.zero_add, List.drop_zero]
    by_cases h : n ≤ cs.length
    · simp only [h, if_true, Option.bind_some]
    · simp only [h, if_false]; rfl
  | _ => rfl
theorem ldS_eq {t : TypeId} {y : Ty} (hy : C.ty t = some y) (h0 : y.size ≠ 0) (frz : Bool) (id : Nat) (x : Operand) (e : Env) (s : St) (k : V → Option α) :
    ldS C y.size y.kind.agg x e s k = (prim C frz e s id (.load t x)).bind fun r => k r.1 := by
  unfold ldS
  rw [opS_eq]
  simp only [prim, hy]
  cases opnd C e x with
  | none => rfl
  | some p =>
    simp only [Option.bind_some]
    rw [rd_eq _ _ _ h0]
    cases rd s p y.size with
    | none => rfl
    | some cs =>
      simp only [Option.bind_some]
      cases ofCells y.kind.agg cs <;> rfl

noncomputable def splS (r : List V) (off : Nat) (xs : List V) (k : List V → Option α) : Option α :=
  lenS xs off fun en => lenS r 0 fun L => tst (Nat.ble en L) (takeS r off fun a => dropS r en fun b => appS xs b fun m => appS a m k)
theorem splS_eq (r : List V) (off : Nat) (xs : List V) (k : List V → Option α) : splS r off xs k = if off + xs.length ≤ r.length then k (splice r off xs) else none := by
  unfold splS splice
  rw [lenS_eq', lenS_eq, tst_eq, nble, takeS_eq, dropS_eq, appS_eq, appS_eq, List.append_assoc]
  by_cases h : off + xs.length ≤ r.length <;> simp only [h, decide_true, decide_false, if_true, if_false, Bool.false_eq_true]
noncomputable def stS (n : Nat) (p x : Operand) (e : Env) (s : St) (id : Nat) (k : V → St → Bool → Option α) : Option α :=
  opS C e p fun pv => opS C e x fun v => onPtr pv (fun i ver idx off => cellsS v fun cs => lenS cs 0 fun m => tst (Nat.beq m n)
    (objS s i ver fun sz var rows => nthS rows idx fun r => splS r off cs fun r' => setS r' rows idx fun rows' => asetS s.objs i ⟨sz, ver, var, rows'⟩ fun objs => fN s.nxt fun nx => fB (Nat.beq i id) fun b => k .undef ⟨nx, objs⟩ b)) (fun _ => none)
def prK (s : St) (id : Nat) (k : V → St → Bool → Option α) (r : V × Eff) : Option α := k r.1 (r.2.on s) (match r.2 with
  | .set i _ => i == id
  | .none => false)
theorem beq_n (i j : Nat) : (i == j) = Nat.beq i j := by rw [nbeq]; by_cases h : i = j <;> simp [h]
theorem stS_eq {t : TypeId} {y : Ty} (hy : C.ty t = some y) (frz : Bool) (id : Nat) (p x : Operand) (e : Env) (s : St) (k : V → St → Bool → Option α) :
    stS C y.size p x e s id k = (prim C frz e s id (.store t p x)).bind (prK s id k) := by
  unfold stS
  rw [opS_eq]
  simp only [prim, hy]
  cases opnd C e p with
  | none => rfl
  | some pv =>
    simp only [Option.bind_some]
    rw [opS_eq]
    cases opnd C e x with
    | none => cases pv <;> rfl
    | some v =>
      simp only [Option.bind_some]
      cases pv with
      | ptr i ver idx off =>
        rw [onPtr_ptr, cellsS_eq]
        by_cases hs : v.storable = true
        · simp only [hs, if_true, Bool.true_and, decide_eq_true_eq]
          rw [lenS_eq, tst_eq, nbeq]
          simp only [decide_eq_true_eq]
          by_cases hl : v.cells.length = y.size
          · simp only [hl, if_true]
            unfold objS
            rw [agetS_eq]
            simp only [St.get]
            cases aget s.objs i with
            | none => rfl
            | some o =>
              simp only [Option.bind_some, tst_eq, nbeq, decide_eq_true_eq]
              by_cases hv : o.ver = ver
              · simp only [hv, if_true]
                rw [nthS_eq]
                cases o.rows[idx]? with
                | none => rfl
                | some r =>
                  simp only [Option.bind_some]
                  rw [splS_eq, ← hl]
                  by_cases h2 : off + v.cells.length ≤ r.length
                  · simp only [h2, if_true, Option.bind_some]
                    rw [setS_eq, asetS_eq, fN_eq, fB_eq]
                    obtain ⟨sz, ov, var, rows⟩ := o
                    simp only at hv
                    subst hv
                    simp only [prK, beq_n, nbeq]; rfl
                  · simp only [h2, if_false]; rfl
              · simp only [hv, if_false]; rfl
          · simp only [hl, if_false]; rfl
        · simp only [hs]; rfl
      | _ => rfl

noncomputable def biS (op : BinOp) (t : TypeId) (x y : Operand) (e : Env) (k : V → Option α) : Option α :=
  opS C e x fun a => opS C e y fun b => onInt a (fun kd m => onInt b (fun ld n => tst (eqK kd ld) (arS op kd m n k)) (oB (bin C op t a b) fun v => fV v k)) (oB (bin C op t a b) fun v => fV v k)
theorem bin_gen (op : BinOp) (t : TypeId) (a b : V) (k : V → Option α) : (oB (bin C op t a b) fun v => fV v k) = (bin C op t a b).bind k := by
  rw [oB_eq]; cases bin C op t a b with
  | none => rfl
  | some v => exact fV_eq v k
theorem biS_eq {op : BinOp} (hq : binQ op = true) {t u : TypeId} {x y : Operand} (hn : isNilS y = false) (frz : Bool) (id : Nat) (e : Env) (s : St) (k : V → Option α) :
    biS C op t x y e k = (prim C frz e s id (.binOp op t x y u)).bind fun r => k r.1 := by
  unfold biS
  rw [opS_eq]
  simp only [prim, hn, Bool.false_eq_true, if_false]
  cases opnd C e x with
  | none => rfl
  | some a =>
    simp only [Option.bind_some]
    rw [opS_eq]
    cases opnd C e y with
    | none => rfl
    | some b =>
      simp only [Option.bind_some, bin_gen]
      have key : ∀ z : Option V, z.bind k = (z.map fun v => (v, Eff.none)).bind fun r => k r.1 := fun z => by cases z <;> rfl
      rw [← key]
      cases a with
      | int kd m =>
        rw [onInt_int]
        cases b with
        | int ld n =>
          rw [onInt_int, tst_eq, eqK_eq, arS_eq op hq]
          have hb : bin C op t (.int kd m) (.int ld n) = if kd = ld then arith op kd m n else none := by
            cases op <;> first | rfl | (exact absurd hq (by decide))
          rw [hb]
          by_cases h : kd = ld <;> simp only [h, decide_true, decide_false, if_true, if_false, Bool.false_eq_true] <;> rfl
        | _ => rfl
      | _ => rfl

noncomputable def faS (off : Nat) (x : Operand) (e : Env) (k : V → Option α) : Option α :=
  opS C e x fun p => onPtr p (fun id ver idx o => fN (Nat.add o off) fun o => k (.ptr id ver idx o)) (fun cs => dropS cs off fun d => k (.cptr d))
theorem faS_eq {t : TypeId} {f : Nat} {fs : List (Nat × TypeId)} {a b : Nat} {z : List V} (hy : C.ty t = some ⟨.struct fs, a, b, z⟩) {off : Nat} {ft : TypeId} (hf : fs[f]? = some (off, ft)) {y : Ty} (hft : C.ty ft = some y) (h0 : y.size ≠ 0)
    (frz : Bool) (id : Nat) (x : Operand) (e : Env) (s : St) (k : V → Option α) :
    faS C off x e k = (prim C frz e s id (.fieldAddr t x f)).bind fun r => k r.1 := by
  unfold faS
  rw [opS_eq]
  simp only [prim]
  cases opnd C e x with
  | none => rfl
  | some p =>
    simp only [Option.bind_some, fieldAddr, hy, hf, hft, h0, if_false]
    cases p with
    | ptr i v idx o => rfl
    | cptr cs => rw [onPtr_cptr, dropS_eq]; rfl
    | _ => rfl

/-- Any value's cells. -/
noncomputable def clS (v : V) (f : List V → Option α) : Option α :=
  V.rec (motive_1 := fun _ => Option α) (motive_2 := fun _ => PUnit) (fun b => f [.bool b]) (fun a b => f [.int a b]) (fun a => f [.str a]) (fun l _ => f l) (fun l _ => f [.lit l]) (f [.nils]) (fun a b c d e => f [.ref a b c d e]) (fun a b c d => f [.ptr a b c d]) (fun l _ => f [.cptr l]) (f [.pnil]) (fun g l _ => f [.fn g l]) (fun l _ => f [.tup l]) (f [.undef]) PUnit.unit (fun _ _ _ _ => PUnit.unit) v
theorem clS_eq (v : V) (f : List V → Option α) : clS v f = f v.cells := by cases v <;> rfl
noncomputable def ixS (n : Nat) (x i : Operand) (e : Env) (k : V → Option α) : Option α :=
  opS C e x fun v => opS C e i fun iv => onInt iv (fun _ m => Int.rec (motive := fun _ => Option α) (fun m =>
    onSl v (fun xs => nthS xs m fun r => clS r fun cs => lenS cs 0 fun L => tst (Nat.beq L n) (k (.cptr cs))) (fun id ver sz off len => tst (Nat.ble (Nat.succ m) len) (tst (Nat.beq sz n) (fN (Nat.add off m) fun o => k (.ptr id ver o 0)))) none) (fun _ => none) m) none
theorem ixS_eq {t el : TypeId} {a b : Nat} {z : List V} (hy : C.ty t = some ⟨.slice el, a, b, z⟩) {y : Ty} (he : C.ty el = some y)
    (frz : Bool) (id : Nat) (x i : Operand) (e : Env) (s : St) (k : V → Option α) :
    ixS C y.size x i e k = (prim C frz e s id (.indexAddr t x i)).bind fun r => k r.1 := by
  unfold ixS
  rw [opS_eq]
  simp only [prim]
  cases opnd C e x with
  | none => rfl
  | some v =>
    simp only [Option.bind_some]
    rw [opS_eq]
    cases opnd C e i with
    | none => rfl
    | some iv =>
      simp only [Option.bind_some, indexAddr, hy]
      cases iv with
      | int kd m =>
        rw [onInt_int]
        simp only [he]
        cases m with
        | ofNat m =>
          dsimp only
          have h0 : (0 : Int) ≤ Int.ofNat m := Int.natCast_nonneg m
          have h1 : (Int.ofNat m).toNat = m := rfl
          cases v with
          | lit xs =>
            simp only [h0, if_true, h1]
            rw [onSl_lit, nthS_eq]
            cases xs[m]? with
            | none => rfl
            | some r =>
              simp only [Option.bind_some]
              rw [clS_eq, lenS_eq, tst_eq, nbeq]
              by_cases h : r.cells.length = y.size <;> simp only [h, decide_true, decide_false, if_true, if_false, Bool.false_eq_true] <;> rfl
          | ref i' ver sz off len =>
            rw [onSl_ref, tst_eq, tst_eq, nble, nbeq]
            simp only [h0, true_and, h1, decide_eq_true_eq]
            by_cases h : m < len
            · have h' : Int.ofNat m < (len : Int) := by show (m : Int) < len; omega
              have h'' : m.succ ≤ len := h
              simp only [h', h'', if_true, true_and]
              by_cases hz : sz = y.size <;> simp only [hz, if_true, if_false] <;> rfl
            · have h' : ¬ Int.ofNat m < (len : Int) := by show ¬ (m : Int) < len; omega
              have h'' : ¬ m.succ ≤ len := h
              simp only [h', h'', if_false, false_and]; rfl
          | _ => rfl
        | negSucc m =>
          have h0 : ¬ (0 : Int) ≤ Int.negSucc m := by rw [Int.negSucc_eq]; omega
          cases v with
          | lit xs => simp only [h0, if_false]; rfl
          | ref i' ver sz off len => simp only [h0, if_false, false_and]; rfl
          | _ => rfl
      | _ => rfl

noncomputable def flS (off n : Nat) (agg : Bool) (x : Operand) (e : Env) (k : V → Option α) : Option α :=
  opS C e x fun v => onAgg v (fun cs => partS cs off n agg k) (fun _ => none)
theorem flS_eq {t : TypeId} {f : Nat} {fs : List (Nat × TypeId)} {a b : Nat} {z : List V} (hy : C.ty t = some ⟨.struct fs, a, b, z⟩) {off : Nat} {ft : TypeId} (hf : fs[f]? = some (off, ft)) {y : Ty} (hft : C.ty ft = some y) (h0 : y.size ≠ 0)
    (frz : Bool) (id : Nat) (x : Operand) (e : Env) (s : St) (k : V → Option α) :
    flS C off y.size y.kind.agg x e k = (prim C frz e s id (.field t x f)).bind fun r => k r.1 := by
  unfold flS
  rw [opS_eq]
  simp only [prim]
  cases opnd C e x with
  | none => rfl
  | some v =>
    simp only [Option.bind_some, field, hy]
    cases v with
    | agg cs =>
      rw [onAgg_agg, partS_eq _ _ _ h0]
      simp only [hf, part, hft]
      by_cases h : off + y.size ≤ cs.length
      · simp only [h, if_true]; cases ofCells y.kind.agg ((cs.drop off).take y.size) <;> rfl
      · simp only [h, if_false]; rfl
    | _ => rfl

noncomputable def lnS (x : Operand) (e : Env) (k : V → Option α) : Option α :=
  opS C e x fun v => onSl v (fun xs => lenS xs 0 fun n => k (.int .i64 (.ofNat n))) (fun _ _ _ _ n => k (.int .i64 (.ofNat n))) (k (.int .i64 (.ofNat 0)))
theorem lnS_eq {t el : TypeId} {a b : Nat} {z : List V} (hy : C.ty t = some ⟨.slice el, a, b, z⟩) (frz : Bool) (id : Nat) (x : Operand) {args : Array Operand} (ha : args.toList = [x]) {ats : Array TypeId} (ht : ats.toList = [t]) (e : Env) (s : St) (k : V → Option α) :
    lnS C x e k = (prim C frz e s id (.call { callee := .builtin .len, args, argTypes := ats })).bind fun r => k r.1 := by
  unfold lnS
  rw [opS_eq]
  simp only [prim, ha, ht, opnds]
  cases opnd C e x with
  | none => rfl
  | some v =>
    simp only [Option.bind_some, lenOp, hy]
    cases v with
    | lit xs => rw [onSl_lit, lenS_eq]; rfl
    | _ => rfl

noncomputable def xtS (x : Operand) (i : Nat) (e : Env) (k : V → Option α) : Option α :=
  opS C e x fun v => onAgg v (fun _ => none) (fun l => nthS l i k)
theorem xtS_eq (frz : Bool) (id : Nat) (x : Operand) (i : Nat) (e : Env) (s : St) (k : V → Option α) :
    xtS C x i e k = (prim C frz e s id (.extract x i)).bind fun r => k r.1 := by
  unfold xtS
  rw [opS_eq]
  simp only [prim]
  cases opnd C e x with
  | none => rfl
  | some v =>
    cases v with
    | tup l => simp only [Option.bind_some]; rw [onAgg_tup, nthS_eq]; cases l[i]? <;> rfl
    | _ => rfl
noncomputable def ntS (x : Operand) (e : Env) (k : V → Option α) : Option α :=
  opS C e x fun v => onBool v fun b => fB (notB b) fun b => k (.bool b)
theorem ntS_eq (frz : Bool) (id : Nat) (t : TypeId) (x : Operand) (e : Env) (s : St) (k : V → Option α) :
    ntS C x e k = (prim C frz e s id (.unOp .not t x)).bind fun r => k r.1 := by
  unfold ntS
  rw [opS_eq]
  simp only [prim]
  cases opnd C e x with
  | none => rfl
  | some v =>
    cases v with
    | bool b => simp only [Option.bind_some]; rw [onBool_bool, fB_eq, notB_eq]; rfl
    | _ => rfl
theorem mvS_eq (frz : Bool) (id : Nat) (x : Operand) (e : Env) (s : St) (k : V → Option α) :
    opS C e x k = (prim C frz e s id (.move x)).bind fun r => k r.1 := by
  rw [opS_eq]; simp only [prim]; cases opnd C e x <;> rfl

/-- An object made ready. -/
noncomputable def fO {ρ : Type} (o : Obj) (k : Obj → ρ) : ρ := fN o.sz fun a => fN o.ver fun b => fB o.var fun c => fL (fL fV) o.rows fun d => k ⟨a, b, c, d⟩
theorem fO_eq {ρ : Type} (o : Obj) (k : Obj → ρ) : fO o k = k o := by
  unfold fO
  rw [fN_eq, fN_eq, fB_eq, fL_eq (fun x k => fL_eq (fun x k => fV_eq x k) x k)]
noncomputable def gnS (frz : Bool) (op : Op) (e : Env) (s : St) (id : Nat) (k : V → St → Bool → Option α) : Option α :=
  oB (prim C frz e s id op) fun r => fV r.1 fun v => Eff.rec (motive := fun _ => Option α) (k v s false) (fun i o => fN i fun i => fO o fun o => fB (Nat.beq i id) fun b => asetS s.objs i o fun objs => fN s.nxt fun n => k v ⟨n, objs⟩ b) r.2
theorem gnS_eq (frz : Bool) (op : Op) (e : Env) (s : St) (id : Nat) (k : V → St → Bool → Option α) : gnS C frz op e s id k = (prim C frz e s id op).bind (prK s id k) := by
  unfold gnS
  rw [oB_eq]
  cases prim C frz e s id op with
  | none => rfl
  | some r =>
    obtain ⟨v, eff⟩ := r
    simp only [Option.bind_some, fV_eq]
    cases eff with
    | none => rfl
    | set i o =>
      show fN i _ = _
      rw [fN_eq, fO_eq, fB_eq, asetS_eq, fN_eq]; simp only [prK, beq_n]; rfl
end
end Go.Ilv
