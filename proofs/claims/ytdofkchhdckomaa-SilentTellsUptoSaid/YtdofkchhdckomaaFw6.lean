import Derived.Test.YtdofkchhdckomaaFw5
/- Single operations, strict: each does what the evaluator's does. -/
set_option linter.unusedVariables false
set_option linter.unusedSimpArgs false
namespace Go.Ilv
open Go

/-- An operation, with what the tables say of it. -/
inductive Cd where
  | mv (x : Operand)
  | load (n : Nat) (agg : Bool) (x : Operand)
  | store (n : Nat) (p x : Operand)
  | bin (op : BinOp) (t : TypeId) (x y : Operand)
  | faddr (off : Nat) (x : Operand)
  | iaddr (n : Nat) (x i : Operand)
  | fld (off n : Nat) (agg : Bool) (x : Operand)
  | len (x : Operand)
  | ext (x : Operand) (i : Nat)
  | not (x : Operand)
  | call (f : Operand) (args : List Operand)
  | gen
def comp (C : Cfg) (op : Op) : Cd := match op with
  | .move x => .mv x
  | .assign x => .mv x
  | .load t x => match C.ty t with
    | some y => if y.size = 0 then .gen else .load y.size y.kind.agg x
    | none => .gen
  | .store t p x => match C.ty t with
    | some y => .store y.size p x
    | none => .gen
  | .binOp op t x y _ => if isNilS y then .gen else if binQ op then .bin op t x y else .gen
  | .fieldAddr t x f => match C.ty t with
    | some { kind := .struct fs, .. } => match fs[f]? with
      | some (off, ft) => match C.ty ft with
        | some y => if y.size = 0 then .gen else .faddr off x
        | none => .gen
      | none => .gen
    | _ => .gen
  | .indexAddr t x i => match C.ty t with
    | some { kind := .slice e, .. } => match C.ty e with
      | some y => .iaddr y.size x i
      | none => .gen
    | _ => .gen
  | .field t x f => match C.ty t with
    | some { kind := .struct fs, .. } => match fs[f]? with
      | some (off, ft) => match C.ty ft with
        | some y => if y.size = 0 then .gen else .fld off y.size y.kind.agg x
        | none => .gen
      | none => .gen
    | _ => .gen
  | .extract x i => .ext x i
  | .unOp .not _ x => .not x
  | .call { callee := .builtin .len, args, argTypes } => match argTypes.toList, args.toList with
    | [t], [x] => match C.ty t with
      | some { kind := .slice _, .. } => .len x
      | _ => .gen
    | _, _ => .gen
  | .call { callee := .value f, args, .. } => .call f args.toList
  | _ => .gen

section
variable {α : Type} (C : Cfg)
/-- An operand that names no slot, made ready. -/
noncomputable def cF (x : Operand) : Option V := (opnd C [] x).bind fun v => fV v some
theorem cF_eq (x : Operand) : cF C x = opnd C [] x := by
  unfold cF; cases opnd C [] x with
  | none => rfl
  | some v => exact fV_eq v some
noncomputable def opS (e : Env) (x : Operand) (k : V → Option α) : Option α :=
  Operand.rec (motive := fun _ => Option α) (fun t => agetS e t k) (fun v => oB (cF C (.const v)) k) (fun g => oB (cF C (.global g)) k) (fun f => k (.fn f [])) x
theorem opS_eq (e : Env) (x : Operand) (k : V → Option α) : opS C e x k = (opnd C e x).bind k := by
  cases x with
  | tmp t => exact agetS_eq e t k
  | const v => show oB (cF C (.const v)) k = _; rw [oB_eq, cF_eq]; rfl
  | global g => show oB (cF C (.global g)) k = _; rw [oB_eq, cF_eq]; rfl
  | func f => rfl
noncomputable def opsS (e : Env) (l : List Operand) (k : List V → Option α) : Option α := allS (opS C e) l k
theorem opnds_all (e : Env) (l : List Operand) : opnds C e l = allSome (opnd C e) l := by
  induction l with
  | nil => rfl
  | cons x r ih => simp only [opnds, allSome, ih]; cases opnd C e x <;> cases allSome (opnd C e) r <;> rfl
theorem opsS_eq (e : Env) (l : List Operand) (k : List V → Option α) : opsS C e l k = (opnds C e l).bind k := by
  rw [opnds_all]; exact allS_eq (opS_eq C e) l k

/-- An object, found. -/
noncomputable def objS (s : St) (id ver : Nat) (k : Nat → Bool → List (List V) → Option α) : Option α :=
  agetS s.objs id fun o => tst (Nat.beq o.ver ver) (k o.sz o.var o.rows)

noncomputable def ldS (n : Nat) (agg : Bool) (x : Operand) (e : Env) (s : St) (k : V → Option α) : Option α :=
  opS C e x fun p => onPtr p (fun id ver idx off => objS s id ver fun _ _ rows => nthS rows idx fun r => partS r off n agg k) (fun cs => partS cs 0 n agg k)
theorem rd_eq (s : St) (p : V) (n : Nat) (hn : n ≠ 0) (agg : Bool) (k : V → Option α) :
    onPtr p (fun id ver idx off => objS s id ver fun _ _ rows => nthS rows idx fun r => partS r off n agg k) (fun cs => partS cs 0 n agg k) = ((rd s p n).bind fun cs => ofCells agg cs).bind k := by
  cases p with
  | ptr id ver idx off =>
    rw [onPtr_ptr]
    unfold objS
    rw [agetS_eq]
    simp only [rd, St.get]
    cases aget s.objs id with
    | none => rfl
    | some o =>
      simp only [Option.bind_some, tst_eq, nbeq, decide_eq_true_eq]
      by_cases h : o.ver = ver
      · simp only [h, if_true]
        rw [nthS_eq]
        cases o.rows[idx]? with
        | none => rfl
        | some r =>
          simp only [Option.bind_some]
          rw [partS_eq _ _ _ hn]
          by_cases h2 : off + n ≤ r.length
          · simp only [h2, if_true, Option.bind_some]
          · simp only [h2, if_false]; rfl
      · simp only [h, if_false]; rfl
  | cptr cs =>
    rw [onPtr_cptr, partS_eq _ _ _ hn]
    simp only [rd, Nat.zero_add, List.drop_zero]
    by_cases h : n ≤ cs.length
    · simp only [h, if_true, Option.bind_some]
    · simp only [h, if_false]; rfl
  | _ => rfl
theorem ldS_eq {t : TypeId} {y : Ty} (hy : C.ty t = some y) (h0 : y.size ≠ 0) (frz : Bool) (id : Nat) (x : Operand) (e : Env) (s : St) (k : V → Option α) :
    ldS C y.size y.kind.agg x e s k = (prim C frz e s id (.load t x)).bind fun r => k r.1 := by
  unfold ldS
  rw [opS_eq]
  simp only [prim, hy]
  cases opnd C e x with
  | none => rfl
  | some p =>
    simp only [Option.bind_some]
    rw [rd_eq _ _ _ h0]
    cases rd s p y.size with
    | none => rfl
    | some cs =>
      simp only [Option.bind_some]
      cases ofCells y.kind.agg cs <;> rfl

noncomputable def splS (r : List V) (off : Nat) (xs : List V) (k : List V → Option α) : Option α :=
  lenS xs off fun en => lenS r 0 fun L => tst (Nat.ble en L) (takeS r off fun a => dropS r en fun b => appS xs b fun m => appS a m k)
theorem splS_eq (r : List V) (off : Nat) (xs : List V) (k : List V → Option α) : splS r off xs k = if off + xs.length ≤ r.length then k (splice r off xs) else none := by
  unfold splS splice
  rw [lenS_eq', lenS_eq, tst_eq, nble, takeS_eq, dropS_eq, appS_eq, appS_eq, List.append_assoc]
  by_cases h : off + xs.length ≤ r.length <;> simp only [h, decide_true, decide_false, if_true, if_false, Bool.false_eq_true]
noncomputable def stS (n : Nat) (p x : Operand) (e : Env) (s : St) (id : Nat) (k : V → St → Bool → Option α) : Option α :=
  opS C e p fun pv => opS C e x fun v => onPtr pv (fun i ver idx off => cellsS v fun cs => lenS cs 0 fun m => tst (Nat.beq m n)
    (objS s i ver fun sz var rows => nthS rows idx fun r => splS r off cs fun r' => setS r' rows idx fun rows' => asetS s.objs i ⟨sz, ver, var, rows'⟩ fun objs => fN s.nxt fun nx => fB (Nat.beq i id) fun b => k .undef ⟨nx, objs⟩ b)) (fun _ => none)
def prK (s : St) (id : Nat) (k : V → St → Bool → Option α) (r : V × Eff) : Option α := k r.1 (r.2.on s) (match r.2 with
  | .set i _ => i == id
  | .none => false)
theorem beq_n (i j : Nat) : (i == j) = Nat.beq i j := by rw [nbeq]; by_cases h : i = j <;> simp [h]
theorem stS_eq {t : TypeId} {y : Ty} (hy : C.ty t = some y) (frz : Bool) (id : Nat) (p x : Operand) (e : Env) (s : St) (k : V → St → Bool → Option α) :
    stS C y.size p x e s id k = (prim C frz e s id (.store t p x)).bind (prK s id k) := by
  unfold stS
  rw [opS_eq]
  simp only [prim, hy]
  cases opnd C e p with
  | none => rfl
  | some pv =>
    simp only [Option.bind_some]
    rw [opS_eq]
    cases opnd C e x with
    | none => cases pv <;> rfl
    | some v =>
      simp only [Option.bind_some]
      cases pv with
      | ptr i ver idx off =>
        rw [onPtr_ptr, cellsS_eq]
        by_cases hs : v.storable = true
        · simp only [hs, if_true, Bool.true_and, decide_eq_true_eq]
          rw [lenS_eq, tst_eq, nbeq]
          simp only [decide_eq_true_eq]
          by_cases hl : v.cells.length = y.size
          · simp only [hl, if_true]
            unfold objS
            rw [agetS_eq]
            simp only [St.get]
            cases aget s.objs i with
            | none => rfl
            | some o =>
              simp only [Option.bind_some, tst_eq, nbeq, decide_eq_true_eq]
              by_cases hv : o.ver = ver
              · simp only [hv, if_true]
                rw [nthS_eq]
                cases o.rows[idx]? with
                | none => rfl
                | some r =>
                  simp only [Option.bind_some]
                  rw [splS_eq, ← hl]
                  by_cases h2 : off + v.cells.length ≤ r.length
                  · simp only [h2, if_true, Option.bind_some]
                    rw [setS_eq, asetS_eq, fN_eq, fB_eq]
                    obtain ⟨sz, ov, var, rows⟩ := o
                    simp only at hv
                    subst hv
                    simp only [prK, beq_n, nbeq]; rfl
                  · simp only [h2, if_false]; rfl
              · simp only [hv, if_false]; rfl
          · simp only [hl, if_false]; rfl
        · simp only [hs]; rfl
      | _ => rfl

noncomputable def biS (op : BinOp) (t : TypeId) (x y : Operand) (e : Env) (k : V → Option α) : Option α :=
  opS C e x fun a => opS C e y fun b => onInt a (fun kd m => onInt b (fun ld n => tst (eqK kd ld) (arS op kd m n k)) (oB (bin C op t a b) fun v => fV v k)) (oB (bin C op t a b) fun v => fV v k)
theorem bin_gen (op : BinOp) (t : TypeId) (a b : V) (k : V → Option α) : (oB (bin C op t a b) fun v => fV v k) = (bin C op t a b).bind k := by
  rw [oB_eq]; cases bin C op t a b with
  | none => rfl
  | some v => exact fV_eq v k
theorem biS_eq {op : BinOp} (hq : binQ op = true) {t u : TypeId} {x y : Operand} (hn : isNilS y = false) (frz : Bool) (id : Nat) (e : Env) (s : St) (k : V → Option α) :
    biS C op t x y e k = (prim C frz e s id (.binOp op t x y u)).bind fun r => k r.1 := by
  unfold biS
  rw [opS_eq]
  simp only [prim, hn, Bool.false_eq_true, if_false]
  cases opnd C e x with
  | none => rfl
  | some a =>
    simp only [Option.bind_some]
    rw [opS_eq]
    cases opnd C e y with
    | none => rfl
    | some b =>
      simp only [Option.bind_some, bin_gen]
      have key : ∀ z : Option V, z.bind k = (z.map fun v => (v, Eff.none)).bind fun r => k r.1 := fun z => by cases z <;> rfl
      rw [← key]
      cases a with
      | int kd m =>
        rw [onInt_int]
        cases b with
        | int ld n =>
          rw [onInt_int, tst_eq, eqK_eq, arS_eq op hq]
          have hb : bin C op t (.int kd m) (.int ld n) = if kd = ld then arith op kd m n else none := by
            cases op <;> first | rfl | (exact absurd hq (by decide))
          rw [hb]
          by_cases h : kd = ld <;> simp only [h, decide_true, decide_false, if_true, if_false, Bool.false_eq_true] <;> rfl
        | _ => rfl
      | _ => rfl

noncomputable def faS (off : Nat) (x : Operand) (e : Env) (k : V → Option α) : Option α :=
  opS C e x fun p => onPtr p (fun id ver idx o => fN (Nat.add o off) fun o => k (.ptr id ver idx o)) (fun cs => dropS cs off fun d => k (.cptr d))
theorem faS_eq {t : TypeId} {f : Nat} {fs : List (Nat × TypeId)} {a b : Nat} {z : List V} (hy : C.ty t = some ⟨.struct fs, a, b, z⟩) {off : Nat} {ft : TypeId} (hf : fs[f]? = some (off, ft)) {y : Ty} (hft : C.ty ft = some y) (h0 : y.size ≠ 0)
    (frz : Bool) (id : Nat) (x : Operand) (e : Env) (s : St) (k : V → Option α) :
    faS C off x e k = (prim C frz e s id (.fieldAddr t x f)).bind fun r => k r.1 := by
  unfold faS
  rw [opS_eq]
  simp only [prim]
  cases opnd C e x with
  | none => rfl
  | some p =>
    simp only [Option.bind_some, fieldAddr, hy, hf, hft, h0, if_false]
    cases p with
    | ptr i v idx o => rfl
    | cptr cs => rw [onPtr_cptr, dropS_eq]; rfl
    | _ => rfl

/-- Any value's cells. -/
noncomputable def clS (v : V) (f : List V → Option α) : Option α :=
  V.rec (motive_1 := fun _ => Option α) (motive_2 := fun _ => PUnit) (fun b => f [.bool b]) (fun a b => f [.int a b]) (fun a => f [.str a]) (fun l _ => f l) (fun l _ => f [.lit l]) (f [.nils]) (fun a b c d e => f [.ref a b c d e]) (fun a b c d => f [.ptr a b c d]) (fun l _ => f [.cptr l]) (f [.pnil]) (fun g l _ => f [.fn g l]) (fun l _ => f [.tup l]) (f [.undef]) PUnit.unit (fun _ _ _ _ => PUnit.unit) v
theorem clS_eq (v : V) (f : List V → Option α) : clS v f = f v.cells := by cases v <;> rfl
noncomputable def ixS (n : Nat) (x i : Operand) (e : Env) (k : V → Option α) : Option α :=
  opS C e x fun v => opS C e i fun iv => onInt iv (fun _ m => Int.rec (motive := fun _ => Option α) (fun m =>
    onSl v (fun xs => nthS xs m fun r => clS r fun cs => lenS cs 0 fun L => tst (Nat.beq L n) (k (.cptr cs))) (fun id ver sz off len => tst (Nat.ble (Nat.succ m) len) (tst (Nat.beq sz n) (fN (Nat.add off m) fun o => k (.ptr id ver o 0)))) none) (fun _ => none) m) none
theorem ixS_eq {t el : TypeId} {a b : Nat} {z : List V} (hy : C.ty t = some ⟨.slice el, a, b, z⟩) {y : Ty} (he : C.ty el = some y)
    (frz : Bool) (id : Nat) (x i : Operand) (e : Env) (s : St) (k : V → Option α) :
    ixS C y.size x i e k = (prim C frz e s id (.indexAddr t x i)).bind fun r => k r.1 := by
  unfold ixS
  rw [opS_eq]
  simp only [prim]
  cases opnd C e x with
  | none => rfl
  | some v =>
    simp only [Option.bind_some]
    rw [opS_eq]
    cases opnd C e i with
    | none => rfl
    | some iv =>
      simp only [Option.bind_some, indexAddr, hy]
      cases iv with
      | int kd m =>
        rw [onInt_int]
        simp only [he]
        cases m with
        | ofNat m =>
          dsimp only
          have h0 : (0 : Int) ≤ Int.ofNat m := Int.natCast_nonneg m
          have h1 : (Int.ofNat m).toNat = m := rfl
          cases v with
          | lit xs =>
            simp only [h0, if_true, h1]
            rw [onSl_lit, nthS_eq]
            cases xs[m]? with
            | none => rfl
            | some r =>
              simp only [Option.bind_some]
              rw [clS_eq, lenS_eq, tst_eq, nbeq]
              by_cases h : r.cells.length = y.size <;> simp only [h, decide_true, decide_false, if_true, if_false, Bool.false_eq_true] <;> rfl
          | ref i' ver sz off len =>
            rw [onSl_ref, tst_eq, tst_eq, nble, nbeq]
            simp only [h0, true_and, h1, decide_eq_true_eq]
            by_cases h : m < len
            · have h' : Int.ofNat m < (len : Int) := by show (m : Int) < len; omega
              have h'' : m.succ ≤ len := h
              simp only [h', h'', if_true, true_and]
              by_cases hz : sz = y.size <;> simp only [hz, if_true, if_false] <;> rfl
            · have h' : ¬ Int.ofNat m < (len : Int) := by show ¬ (m : Int) < len; omega
              have h'' : ¬ m.succ ≤ len := h
              simp only [h', h'', if_false, false_and]; rfl
          | _ => rfl
        | negSucc m =>
          have h0 : ¬ (0 : Int) ≤ Int.negSucc m := by rw [Int.negSucc_eq]; omega
          cases v with
          | lit xs => simp only [h0, if_false]; rfl
          | ref i' ver sz off len => simp only [h0, if_false, false_and]; rfl
          | _ => rfl
      | _ => rfl

noncomputable def flS (off n : Nat) (agg : Bool) (x : Operand) (e : Env) (k : V → Option α) : Option α :=
  opS C e x fun v => onAgg v (fun cs => partS cs off n agg k) (fun _ => none)
theorem flS_eq {t : TypeId} {f : Nat} {fs : List (Nat × TypeId)} {a b : Nat} {z : List V} (hy : C.ty t = some ⟨.struct fs, a, b, z⟩) {off : Nat} {ft : TypeId} (hf : fs[f]? = some (off, ft)) {y : Ty} (hft : C.ty ft = some y) (h0 : y.size ≠ 0)
    (frz : Bool) (id : Nat) (x : Operand) (e : Env) (s : St) (k : V → Option α) :
    flS C off y.size y.kind.agg x e k = (prim C frz e s id (.field t x f)).bind fun r => k r.1 := by
  unfold flS
  rw [opS_eq]
  simp only [prim]
  cases opnd C e x with
  | none => rfl
  | some v =>
    simp only [Option.bind_some, field, hy]
    cases v with
    | agg cs =>
      rw [onAgg_agg, partS_eq _ _ _ h0]
      simp only [hf, part, hft]
      by_cases h : off + y.size ≤ cs.length
      · simp only [h, if_true]; cases ofCells y.kind.agg ((cs.drop off).take y.size) <;> rfl
      · simp only [h, if_false]; rfl
    | _ => rfl

noncomputable def lnS (x : Operand) (e : Env) (k : V → Option α) : Option α :=
  opS C e x fun v => onSl v (fun xs => lenS xs 0 fun n => k (.int .i64 (.ofNat n))) (fun _ _ _ _ n => k (.int .i64 (.ofNat n))) (k (.int .i64 (.ofNat 0)))
theorem lnS_eq {t el : TypeId} {a b : Nat} {z : List V} (hy : C.ty t = some ⟨.slice el, a, b, z⟩) (frz : Bool) (id : Nat) (x : Operand) {args : Array Operand} (ha : args.toList = [x]) {ats : Array TypeId} (ht : ats.toList = [t]) (e : Env) (s : St) (k : V → Option α) :
    lnS C x e k = (prim C frz e s id (.call { callee := .builtin .len, args, argTypes := ats })).bind fun r => k r.1 := by
  unfold lnS
  rw [opS_eq]
  simp only [prim, ha, ht, opnds]
  cases opnd C e x with
  | none => rfl
  | some v =>
    simp only [Option.bind_some, lenOp, hy]
    cases v with
    | lit xs => rw [onSl_lit, lenS_eq]; rfl
    | _ => rfl

noncomputable def xtS (x : Operand) (i : Nat) (e : Env) (k : V → Option α) : Option α :=
  opS C e x fun v => onAgg v (fun _ => none) (fun l => nthS l i k)
theorem xtS_eq (frz : Bool) (id : Nat) (x : Operand) (i : Nat) (e : Env) (s : St) (k : V → Option α) :
    xtS C x i e k = (prim C frz e s id (.extract x i)).bind fun r => k r.1 := by
  unfold xtS
  rw [opS_eq]
  simp only [prim]
  cases opnd C e x with
  | none => rfl
  | some v =>
    cases v with
    | tup l => simp only [Option.bind_some]; rw [onAgg_tup, nthS_eq]; cases l[i]? <;> rfl
    | _ => rfl
noncomputable def ntS (x : Operand) (e : Env) (k : V → Option α) : Option α :=
  opS C e x fun v => onBool v fun b => fB (notB b) fun b => k (.bool b)
theorem ntS_eq (frz : Bool) (id : Nat) (t : TypeId) (x : Operand) (e : Env) (s : St) (k : V → Option α) :
    ntS C x e k = (prim C frz e s id (.unOp .not t x)).bind fun r => k r.1 := by
  unfold ntS
  rw [opS_eq]
  simp only [prim]
  cases opnd C e x with
  | none => rfl
  | some v =>
    cases v with
    | bool b => simp only [Option.bind_some]; rw [onBool_bool, fB_eq, notB_eq]; rfl
    | _ => rfl
theorem mvS_eq (frz : Bool) (id : Nat) (x : Operand) (e : Env) (s : St) (k : V → Option α) :
    opS C e x k = (prim C frz e s id (.move x)).bind fun r => k r.1 := by
  rw [opS_eq]; simp only [prim]; cases opnd C e x <;> rfl

/-- An object made ready. -/
noncomputable def fO {ρ : Type} (o : Obj) (k : Obj → ρ) : ρ := fN o.sz fun a => fN o.ver fun b => fB o.var fun c => fL (fL fV) o.rows fun d => k ⟨a, b, c, d⟩
theorem fO_eq {ρ : Type} (o : Obj) (k : Obj → ρ) : fO o k = k o := by
  unfold fO
  rw [fN_eq, fN_eq, fB_eq, fL_eq (fun x k => fL_eq (fun x k => fV_eq x k) x k)]
noncomputable def gnS (frz : Bool) (op : Op) (e : Env) (s : St) (id : Nat) (k : V → St → Bool → Option α) : Option α :=
  oB (prim C frz e s id op) fun r => fV r.1 fun v => Eff.rec (motive := fun _ => Option α) (k v s false) (fun i o => fN i fun i => fO o fun o => fB (Nat.beq i id) fun b => asetS s.objs i o fun objs => fN s.nxt fun n => k v ⟨n, objs⟩ b) r.2
theorem gnS_eq (frz : Bool) (op : Op) (e : Env) (s : St) (id : Nat) (k : V → St → Bool → Option α) : gnS C frz op e s id k = (prim C frz e s id op).bind (prK s id k) := by
  unfold gnS
  rw [oB_eq]
  cases prim C frz e s id op with
  | none => rfl
  | some r =>
    obtain ⟨v, eff⟩ := r
    simp only [Option.bind_some, fV_eq]
    cases eff with
    | none => rfl
    | set i o =>
      show fN i _ = _
      rw [fN_eq, fO_eq, fB_eq, asetS_eq, fN_eq]; simp only [prK, beq_n]; rfl
end
end Go.Ilv

/- Regions, code and calls, strict: what the strict evaluator comes to, the evaluator comes to. -/
set_option linter.unusedVariables false
set_option linter.unusedSimpArgs false
namespace Go.Ilv
open Go

section
variable {α : Type}
/-- What the left comes to, the right comes to. -/
def Le (l r : Option α) : Prop := ∀ a, l = some a → r = some a
theorem Le.refl (l : Option α) : Le l l := fun _ h => h
theorem Le.of_eq {l r : Option α} (h : l = r) : Le l r := fun _ g => h ▸ g
theorem Le.trans {a b c : Option α} (h : Le a b) (g : Le b c) : Le a c := fun x hx => g x (h x hx)
theorem Le.bind {β : Type} {x : Option β} {k k' : β → Option α} (h : ∀ r, Le (k r) (k' r)) : Le (x.bind k) (x.bind k') := by
  cases x with
  | none => exact Le.refl _
  | some r => exact h r
theorem Le.none {r : Option α} : Le none r := fun _ h => by cases h

abbrev CalT (α : Type) := FuncId → List V → St → (V → St → Option α) → Option α
def CalOk (C : Cfg) (cal : CalT α) : Prop := ∀ f args s k, Le (cal f args s k) ((callL C f args s).bind fun r => k r.1 r.2)

/-! ### Telling without objects -/
noncomputable def rowS (r : List V) (k : V → Option α) : Option α :=
  List.rec (motive := fun _ => Option α) (k (.agg [])) (fun x t _ => List.rec (motive := fun _ => Option α) (k x) (fun y u _ => k (.agg (x :: y :: u))) t) r
theorem rowS_eq (r : List V) (k : V → Option α) : rowS r k = k (rowV r) := by
  match r with
  | [] => rfl
  | [x] => rfl
  | x :: y :: u => rfl
noncomputable def elS (s : St) (id ver off len : Nat) (k : List V → Option α) : Option α :=
  objS s id ver fun _ _ rows => lenS rows 0 fun L => tst (Nat.ble (Nat.add off len) L) (dropS rows off fun d => takeS d len fun l => allS rowS l k)
theorem elS_eq (s : St) (id ver sz off len : Nat) (k : List V → Option α) : elS s id ver off len k = (elems s (.ref id ver sz off len)).bind k := by
  unfold elS objS
  rw [agetS_eq]
  simp only [elems, St.get]
  cases aget s.objs id with
  | none => rfl
  | some o =>
    simp only [Option.bind_some, tst_eq, nbeq, decide_eq_true_eq]
    by_cases h : o.ver = ver
    · simp only [h, if_true]
      rw [lenS_eq]
      simp only [nble, decide_eq_true_eq]
      by_cases h2 : off + len ≤ o.rows.length
      · have h2' : Nat.add off len ≤ o.rows.length := h2
        simp only [h2, h2', if_true]
        rw [dropS_eq, takeS_eq, allS_eq (g := fun r => some (rowV r)) (fun r k => by rw [rowS_eq]; rfl)]
        have : ∀ l : List (List V), allSome (fun r => some (rowV r)) l = some (l.map rowV) := by
          intro l
          induction l with
          | nil => rfl
          | cons x r ih => simp only [allSome, ih, List.map_cons]
        rw [this]
      · have h2' : ¬ Nat.add off len ≤ o.rows.length := h2
        simp only [h2, h2', if_false]; rfl
    · simp only [h, if_false]; rfl
noncomputable def rf1 (s : St) (ih : V → (V → Option α) → Option α) (v : V) (k : V → Option α) : Option α :=
  V.rec (motive_1 := fun _ => Option α) (motive_2 := fun _ => PUnit) (fun b => k (.bool b)) (fun a b => k (.int a b)) (fun a => k (.str a)) (fun l _ => allS ih l fun l => k (.agg l)) (fun l _ => k (.lit l)) (k (.lit []))
    (fun a b c d n => elS s a b d n fun xs => allS ih xs fun l => k (.lit l)) (fun a b c d => none) (fun l _ => k (.cptr l)) (k .pnil) (fun f l _ => none) (fun l _ => allS ih l fun l => k (.tup l)) none PUnit.unit (fun _ _ _ _ => PUnit.unit) v
noncomputable def rfS (s : St) (n : Nat) : V → (V → Option α) → Option α :=
  Nat.rec (motive := fun _ => V → (V → Option α) → Option α) (fun _ _ => none) (fun _ ih v k => rf1 s ih v k) n
theorem rfS_eq (s : St) (n : Nat) : ∀ (v : V) (k : V → Option α), rfS s n v k = (reify s n v).bind k := by
  induction n with
  | zero => intro v k; simp only [reify]; rfl
  | succ n ih =>
    intro v k
    show rf1 s (rfS s n) v k = _
    cases v with
    | agg cs =>
      show allS _ cs _ = _
      rw [allS_eq ih, reify]
      cases allSome (reify s n) cs <;> rfl
    | tup cs =>
      show allS _ cs _ = _
      rw [allS_eq ih, reify]
      cases allSome (reify s n) cs <;> rfl
    | ref a b c d len =>
      show elS s a b d len _ = _
      rw [elS_eq s a b c d len, reify]
      cases elems s (.ref a b c d len) with
      | none => rfl
      | some xs =>
        simp only [Option.bind_some]
        rw [allS_eq ih]
        cases allSome (reify s n) xs <;> rfl
    | _ => rw [reify] <;> first | rfl | (intros; simp_all)

/-! ### Calls -/
section
variable (C : Cfg) (cal : CalT α) (M : FuncId → List V → Option V)
/-- Results that are known. -/
def MemOk : Prop := ∀ g xs r, M g xs = some r → ∃ r0 s', callL C g xs St.empty = some (r0, s') ∧ reify s' 40 r0 = some r
noncomputable def cvS (pure : Bool) (g : FuncId) (ys : List V) (s : St) (k : V → St → Option α) : Option α :=
  Bool.rec (motive := fun _ => Option α) (cal g ys s k) (allS (rfS s 40) ys fun xs =>
    Option.rec (motive := fun _ => Option α) (cal g xs St.empty fun r s' => rfS s' 40 r fun r' => tst (or (ys.all V.flat) r'.scalar) (k r' s))
      (fun r' => tst (or (ys.all V.flat) r'.scalar) (k r' s)) (M g xs)) pure
theorem cvS_ok (hc : CalOk C cal) (hM : MemOk C M) (pure : Bool) (g : FuncId) (ys : List V) (s : St) (k : V → St → Option α) :
    Le (cvS cal M pure g ys s k) ((callV (callL C) pure g ys s).bind fun r => k r.1 r.2) := by
  cases pure with
  | false => exact hc g ys s k
  | true =>
    show Le (allS _ ys _) _
    rw [allS_eq (rfS_eq s 40), callV_t, bnd]
    cases allSome (reify s 40) ys with
    | none => exact Le.none
    | some xs =>
      simp only [Option.bind_some, bnd]
      have key : ∀ r', (tst (or (ys.all V.flat) r'.scalar) (k r' s)) = (bif (ys.all V.flat || r'.scalar) then some (r', s) else none : Option (V × St)).bind fun r => k r.1 r.2 := by
        intro r'
        rw [tst_eq]
        show (if (ys.all V.flat || r'.scalar) = true then _ else _) = _
        cases (ys.all V.flat || r'.scalar) <;> rfl
      cases hm : M g xs with
      | none =>
        show Le (cal g xs St.empty _) _
        refine Le.trans (hc _ _ _ _) ?_
        cases callL C g xs St.empty with
        | none => exact Le.none
        | some r =>
          simp only [Option.bind_some]
          rw [rfS_eq]
          cases reify r.2 40 r.1 with
          | none => exact Le.none
          | some r' => simp only [Option.bind_some]; exact Le.of_eq (key r')
      | some r' =>
        show Le (tst _ _) _
        obtain ⟨r0, s', h1, h2⟩ := hM _ _ _ hm
        rw [h1]
        simp only [Option.bind_some, h2]
        exact Le.of_eq (key r')
noncomputable def caS (f : Operand) (args : List Operand) (e : Env) (s : St) (k : V → St → Option α) : Option α :=
  opS C e f fun fv => opsS C e args fun xs => onFn fv fun g cap => appS xs cap fun ys => oB (C.fn g) fun gi => cvS cal M gi.pure g ys s k
theorem caS_ok (hc : CalOk C cal) (hM : MemOk C M) (f : Operand) (args : Array Operand) (e : Env) (s : St) (k : V → St → Option α) :
    Le (caS C cal M f args.toList e s k) ((callI C (callL C) f args e s).bind fun r => k r.1 r.2) := by
  unfold caS callI
  rw [opS_eq]
  cases opnd C e f with
  | none => exact Le.none
  | some fv =>
    simp only [Option.bind_some]
    rw [opsS_eq]
    cases opnds C e args.toList with
    | none => exact Le.none
    | some xs =>
      simp only [Option.bind_some]
      cases fv with
      | fn g cap =>
        rw [onFn_fn, appS_eq, oB_eq]
        simp only
        cases C.fn g with
        | none => exact Le.none
        | some gi => exact cvS_ok C cal M hc hM _ _ _ _ _
      | _ => exact Le.none

variable (fi : FnI)
noncomputable def cdS (dst : Option Nat) (op : Op) (e : Env) (s : St) (id : Nat) (k : V → St → Bool → Option α) : Option α :=
  Cd.rec (motive := fun _ => Option α) (fun x => opS C e x fun v => k v s false) (fun n g x => ldS C n g x e s fun v => k v s false) (fun n p x => stS C n p x e s id k)
    (fun o t x y => biS C o t x y e fun v => k v s false) (fun off x => faS C off x e fun v => k v s false) (fun n x i => ixS C n x i e fun v => k v s false) (fun off n g x => flS C off n g x e fun v => k v s false)
    (fun x => lnS C x e fun v => k v s false) (fun x i => xtS C x i e fun v => k v s false) (fun x => ntS C x e fun v => k v s false)
    (fun f args => caS C cal M f args e s fun v s => k v s false) (gnS C (frzD fi dst) op e s id k) (comp C op)

theorem actI_call {α : Type} {cal : Callee} {dst : Option Nat} {id : Nat} {f : Operand} {args : Array Operand} {ats : Array TypeId} {e : Env} {s : St} (k : V → St → Bool → Option α) :
    ((actI C cal fi dst id (.call { callee := .value f, args := args, argTypes := ats }) e s).bind fun r => k r.1 r.2.1 r.2.2) = (callI C cal f args e s).bind fun r => k r.1 r.2 false := by
  show (Option.map _ (callI C cal f args e s)).bind _ = _
  cases callI C cal f args e s <;> rfl
def plainOp (op : Op) : Bool := match op with
  | .call { callee := .value _, .. } => false
  | _ => true
theorem actI_plain {α : Type} {cal : Callee} {dst : Option Nat} {id : Nat} {op : Op} (h : plainOp op = true) {e : Env} {s : St} (k : V → St → Bool → Option α) :
    ((actI C cal fi dst id op e s).bind fun r => k r.1 r.2.1 r.2.2) = (prim C (frzD fi dst) e s id op).bind (prK s id k) := by
  have : actI C cal fi dst id op e s = (prim C (frzD fi dst) e s id op).map fun r => (r.1, r.2.on s, match r.2 with
      | .set i _ => i == id
      | .none => false) := by
    unfold actI
    split
    · simp [plainOp] at h
    · rfl
  rw [this]
  cases prim C (frzD fi dst) e s id op <;> rfl
/-- An operation that leaves the store alone. -/
theorem noEff {α : Type} {x : Option (V × Eff)} (h : ∀ r, x = some r → r.2 = .none) {s : St} {id : Nat} (k : V → St → Bool → Option α) : (x.bind fun r => k r.1 s false) = x.bind (prK s id k) := by
  cases x with
  | none => rfl
  | some r =>
    obtain ⟨v, eff⟩ := r
    have := h _ rfl
    simp only at this
    subst this
    rfl
theorem qEff {z : Option V} {r : V × Eff} (h : (z.map fun v => (v, Eff.none)) = some r) : r.2 = .none := by
  cases z with
  | none => cases h
  | some v => simp at h; rw [← h]
theorem ne_load {frz : Bool} {e : Env} {s : St} {id : Nat} {t : TypeId} {x : Operand} {r : V × Eff} (h : prim C frz e s id (.load t x) = some r) : r.2 = .none := by
  simp only [prim] at h
  split at h
  · split at h
    · exact qEff h
    · cases h
  · cases h
theorem ne_bin {frz : Bool} {e : Env} {s : St} {id : Nat} {o : BinOp} {t u : TypeId} {x y : Operand} {r : V × Eff} (h : prim C frz e s id (.binOp o t x y u) = some r) : r.2 = .none := by
  simp only [prim] at h
  split at h
  · exact qEff h
  · cases h
theorem ne_faddr {frz : Bool} {e : Env} {s : St} {id : Nat} {t : TypeId} {x : Operand} {f : Nat} {r : V × Eff} (h : prim C frz e s id (.fieldAddr t x f) = some r) : r.2 = .none := by
  simp only [prim] at h
  split at h
  · exact qEff h
  · cases h
theorem ne_iaddr {frz : Bool} {e : Env} {s : St} {id : Nat} {t : TypeId} {x y : Operand} {r : V × Eff} (h : prim C frz e s id (.indexAddr t x y) = some r) : r.2 = .none := by
  simp only [prim] at h
  split at h
  · exact qEff h
  · cases h
theorem ne_fld {frz : Bool} {e : Env} {s : St} {id : Nat} {t : TypeId} {x : Operand} {f : Nat} {r : V × Eff} (h : prim C frz e s id (.field t x f) = some r) : r.2 = .none := by
  simp only [prim] at h
  split at h
  · exact qEff h
  · cases h
theorem ne_len {frz : Bool} {e : Env} {s : St} {id : Nat} {args : Array Operand} {ats : Array TypeId} {r : V × Eff} (h : prim C frz e s id (.call { callee := .builtin .len, args, argTypes := ats }) = some r) : r.2 = .none := by
  simp only [prim] at h
  split at h
  · exact qEff h
  · cases h
theorem ne_ext {frz : Bool} {e : Env} {s : St} {id : Nat} {x : Operand} {f : Nat} {r : V × Eff} (h : prim C frz e s id (.extract x f) = some r) : r.2 = .none := by
  simp only [prim] at h
  split at h
  · exact qEff h
  · cases h
theorem ne_un {frz : Bool} {e : Env} {s : St} {id : Nat} {o : UnOp} {t : TypeId} {x : Operand} {r : V × Eff} (h : prim C frz e s id (.unOp o t x) = some r) : r.2 = .none := by
  simp only [prim] at h
  split at h
  · exact qEff h
  · cases h
theorem ne_move {frz : Bool} {e : Env} {s : St} {id : Nat} {x : Operand} {r : V × Eff} (h : prim C frz e s id (.move x) = some r) : r.2 = .none := by
  simp only [prim] at h
  exact qEff h
theorem gn_ok (dst : Option Nat) (op : Op) (hp : plainOp op = true) (e : Env) (s : St) (id : Nat) (k : V → St → Bool → Option α) :
    Le (gnS C (frzD fi dst) op e s id k) ((actI C (callL C) fi dst id op e s).bind fun r => k r.1 r.2.1 r.2.2) := by
  rw [actI_plain C fi hp, gnS_eq]; exact Le.refl _
theorem cdS_ok (hc : CalOk C cal) (hM : MemOk C M) (dst : Option Nat) (op : Op) (e : Env) (s : St) (id : Nat) (k : V → St → Bool → Option α) :
    Le (cdS C cal M fi dst op e s id k) ((actI C (callL C) fi dst id op e s).bind fun r => k r.1 r.2.1 r.2.2) := by
  have gen : plainOp op = true → comp C op = .gen → Le (cdS C cal M fi dst op e s id k) ((actI C (callL C) fi dst id op e s).bind fun r => k r.1 r.2.1 r.2.2) := by
    intro hp hg
    unfold cdS
    rw [hg]
    exact gn_ok C fi dst op hp e s id k
  unfold comp at gen
  unfold cdS comp
  split
  · rename_i x
    rw [actI_plain C fi rfl, ← noEff (fun r h => ne_move C h) k]
    exact Le.of_eq (mvS_eq C _ id x e s _)
  · rename_i x
    rw [actI_plain C fi rfl]
    have : prim C (frzD fi dst) e s id (.assign x) = prim C (frzD fi dst) e s id (.move x) := rfl
    rw [this, ← noEff (fun r h => ne_move C h) k]
    exact Le.of_eq (mvS_eq C _ id x e s _)
  · rename_i t x
    split
    · rename_i y hy
      split
      · exact gn_ok C fi dst _ rfl e s id k
      · rename_i h0
        rw [actI_plain C fi rfl, ← noEff (fun r h => ne_load C h) k]
        exact Le.of_eq (ldS_eq C hy h0 _ id x e s _)
    · exact gn_ok C fi dst _ rfl e s id k
  · rename_i t p x
    split
    · rename_i y hy
      rw [actI_plain C fi rfl]
      exact Le.of_eq (stS_eq C hy _ id p x e s k)
    · exact gn_ok C fi dst _ rfl e s id k
  · rename_i o t x y u
    split
    · exact gn_ok C fi dst _ rfl e s id k
    · rename_i hn
      split
      · rename_i hq
        rw [actI_plain C fi rfl, ← noEff (fun r h => ne_bin C h) k]
        exact Le.of_eq (biS_eq C hq (by simpa using hn) _ id e s _)
      · exact gn_ok C fi dst _ rfl e s id k
  · rename_i t x f
    split
    · rename_i fs a b z hy
      split
      · rename_i off ft hf
        split
        · rename_i y hft
          split
          · exact gn_ok C fi dst _ rfl e s id k
          · rename_i h0
            rw [actI_plain C fi rfl, ← noEff (fun r h => ne_faddr C h) k]
            exact Le.of_eq (faS_eq C hy hf hft h0 _ id x e s _)
        · exact gn_ok C fi dst _ rfl e s id k
      · exact gn_ok C fi dst _ rfl e s id k
    · exact gn_ok C fi dst _ rfl e s id k
  · rename_i t x i
    split
    · rename_i el a b z hy
      split
      · rename_i y he
        rw [actI_plain C fi rfl, ← noEff (fun r h => ne_iaddr C h) k]
        exact Le.of_eq (ixS_eq C hy he _ id x i e s _)
      · exact gn_ok C fi dst _ rfl e s id k
    · exact gn_ok C fi dst _ rfl e s id k
  · rename_i t x f
    split
    · rename_i fs a b z hy
      split
      · rename_i off ft hf
        split
        · rename_i y hft
          split
          · exact gn_ok C fi dst _ rfl e s id k
          · rename_i h0
            rw [actI_plain C fi rfl, ← noEff (fun r h => ne_fld C h) k]
            exact Le.of_eq (flS_eq C hy hf hft h0 _ id x e s _)
        · exact gn_ok C fi dst _ rfl e s id k
      · exact gn_ok C fi dst _ rfl e s id k
    · exact gn_ok C fi dst _ rfl e s id k
  · rename_i x i
    rw [actI_plain C fi rfl, ← noEff (fun r h => ne_ext C h) k]
    exact Le.of_eq (xtS_eq C _ id x i e s _)
  · rename_i t x
    rw [actI_plain C fi rfl, ← noEff (fun r h => ne_un C h) k]
    exact Le.of_eq (ntS_eq C _ id t x e s _)
  · rename_i args ats
    split
    · rename_i t x ht ha
      split
      · rename_i el a b z hy
        rw [actI_plain C fi rfl, ← noEff (fun r h => ne_len C h) k]
        exact Le.of_eq (lnS_eq C hy _ id x ha ht e s _)
      · exact gn_ok C fi dst _ rfl e s id k
    · exact gn_ok C fi dst _ rfl e s id k
  · rename_i f args ats
    rw [actI_call C fi k]
    exact caS_ok C cal M hc hM f args e s _
  · rename_i hne
    refine gn_ok C fi dst op ?_ e s id k
    unfold plainOp
    split
    · exfalso; first | exact (‹∀ (f : Operand) (args : Array Operand) (ats : Array TypeId), Op.call _ = Op.call { callee := .value f, args := args, argTypes := ats } → False› _ _ _ rfl) | simp_all
    · rfl
end
end
end Go.Ilv

/- Regions, code and calls, strict: what the strict evaluator comes to, the evaluator comes to. -/
set_option linter.unusedVariables false
set_option linter.unusedSimpArgs false
namespace Go.Ilv
open Go

section
variable {α : Type} (C : Cfg) (cal : CalT α) (M : FuncId → List V → Option V) (fi : FnI)
noncomputable def putS (e : Env) (dst : Option Nat) (v : V) (k : Env → Option α) : Option α :=
  Option.rec (motive := fun _ => Option α) (k e) (fun d => asetS e d v k) dst
theorem putS_eq (e : Env) (dst : Option Nat) (v : V) (k : Env → Option α) : putS e dst v k = k (putE e dst v) := by
  cases dst with
  | none => rfl
  | some d => exact asetS_eq e d v k
/-- Is an operation wanted? -/
noncomputable def waS (ops : Array Oper) (o : Oper) (e : Env) (t f : Option α) : Option α :=
  Option.rec (motive := fun _ => Option α) t (fun _ => oB (wantedI (ins ops o).guard e) fun b => Bool.rec (motive := fun _ => Option α) f t b) o.guard
theorem waS_eq (ops : Array Oper) (o : Oper) (e : Env) (t f : Option α) : waS ops o e t f = match wantedI (ins ops o).guard e with
    | some true => t
    | some false => f
    | none => none := by
  unfold waS
  cases hg : o.guard with
  | none => simp only [ins, hg, Option.map_none, wantedI]
  | some g =>
    show oB _ _ = _
    rw [oB_eq]
    cases wantedI (ins ops o).guard e with
    | none => rfl
    | some b => cases b <;> rfl
noncomputable def sqS (ops : Array Oper) (l : List Oper) : Env → St → (Env → St → Option α) → Option α :=
  List.rec (motive := fun _ => Env → St → (Env → St → Option α) → Option α) (fun e s k => k e s) (fun o _ ih e s k =>
    waS ops o e (cdS C cal M fi o.dst o.op e s s.nxt fun v s' b => putS e o.dst v fun e' => Bool.rec (motive := fun _ => Option α) (ih e' s' k) (fN (Nat.succ s'.nxt) fun n => ih e' ⟨n, s'.objs⟩ k) b)
      (putS e o.dst .undef fun e' => ih e' s k)) l
theorem sqS_ok (hc : CalOk C cal) (hM : MemOk C M) (ops : Array Oper) (l : List Oper) : ∀ e s (k : Env → St → Option α),
    Le (sqS C cal M fi ops l e s k) ((runI C (callL C) fi (l.map (ins ops)) e s).bind fun r => k r.1 r.2) := by
  induction l with
  | nil => intro e s k; exact Le.refl _
  | cons o r ih =>
    intro e s k
    show Le (waS ops o e _ _) _
    rw [waS_eq, List.map_cons, runI]
    cases wantedI (ins ops o).guard e with
    | none => exact Le.none
    | some b =>
      cases b with
      | false => show Le (putS _ _ _ _) _; rw [putS_eq]; exact ih _ _ _
      | true =>
        show Le (cdS C cal M fi o.dst o.op e s s.nxt _) _
        refine Le.trans (cdS_ok C cal M fi hc hM _ _ _ _ _ _) ?_
        simp only [ins]
        cases actI C (callL C) fi o.dst s.nxt o.op e s with
        | none => exact Le.none
        | some x =>
          obtain ⟨v, s', b⟩ := x
          simp only [Option.bind_some]
          rw [putS_eq]
          cases b with
          | false => exact ih _ _ _
          | true => exact ih _ _ _
noncomputable def drS (n0 : Nat) (ops : Array Oper) (l : List Oper) : Nat → Env → St → (Env → St → Option α) → Option α :=
  List.rec (motive := fun _ => Nat → Env → St → (Env → St → Option α) → Option α) (fun _ e s k => k e s) (fun o _ ih i e s k =>
    waS ops o e (fN (Nat.add n0 i) fun id => cdS C cal M fi o.dst o.op e s id fun v s' b => putS e o.dst v fun e' => fN (Nat.succ i) fun i => ih i e' s' k)
      (putS e o.dst .undef fun e' => fN (Nat.succ i) fun i => ih i e' s k)) l
theorem drS_ok (hc : CalOk C cal) (hM : MemOk C M) (n0 : Nat) (ops : Array Oper) (l : List Oper) : ∀ i e s (k : Env → St → Option α),
    Le (drS C cal M fi n0 ops l i e s k) ((runDI C (callL C) fi n0 (l.map (ins ops)) i e s).bind fun r => k r.1 r.2) := by
  induction l with
  | nil => intro i e s k; exact Le.refl _
  | cons o r ih =>
    intro i e s k
    show Le (waS ops o e _ _) _
    rw [waS_eq, List.map_cons, runDI]
    cases wantedI (ins ops o).guard e with
    | none => exact Le.none
    | some b =>
      cases b with
      | false => show Le (putS _ _ _ _) _; rw [putS_eq]; exact ih _ _ _ _
      | true =>
        show Le (fN (Nat.add n0 i) _) _
        rw [fN_eq]
        refine Le.trans (cdS_ok C cal M fi hc hM _ _ _ _ _ _) ?_
        simp only [ins]
        show Le ((actI C (callL C) fi o.dst (n0 + i) o.op e s).bind _) _
        cases actI C (callL C) fi o.dst (n0 + i) o.op e s with
        | none => exact Le.none
        | some x =>
          obtain ⟨v, s', b⟩ := x
          simp only [Option.bind_some]
          rw [putS_eq]
          exact ih _ _ _ _

/-! ### With feet -/
noncomputable def gfS (dst : Option Nat) (op : Op) (e : Env) (s : St) (id : Nat) (k : V → St → Foot → Option α) : Option α :=
  oB (prim C (frzD fi dst) e s id op) fun r => fV r.1 fun v => Eff.rec (motive := fun _ => Option α) (k v s (footP C e op .none)) (fun i o => fN i fun i => fO o fun o => asetS s.objs i o fun objs => fN s.nxt fun n => k v ⟨n, objs⟩ (footP C e op (.set i o))) r.2
noncomputable def cfS (f : Operand) (args : List Operand) (e : Env) (s : St) (k : V → St → Foot → Option α) : Option α :=
  opS C e f fun fv => opsS C e args fun xs => onFn fv fun g cap => appS xs cap fun ys => oB (C.fn g) fun gi => cvS cal M gi.pure g ys s fun r s' =>
    Bool.rec (motive := fun _ => Option α) (k r s' (.call s s')) (Bool.rec (motive := fun _ => Option α) (k r s' .top) (k r s' (.cells [] [])) (ys.all V.flat)) gi.pure
noncomputable def acF (dst : Option Nat) (op : Op) (e : Env) (s : St) (id : Nat) (k : V → St → Foot → Option α) : Option α :=
  Cd.rec (motive := fun _ => Option α) (fun x => gfS C fi dst op e s id k) (fun n g x => gfS C fi dst op e s id k) (fun n p x => gfS C fi dst op e s id k)
    (fun o t x y => gfS C fi dst op e s id k) (fun off x => gfS C fi dst op e s id k) (fun n x i => gfS C fi dst op e s id k) (fun off n g x => gfS C fi dst op e s id k)
    (fun x => gfS C fi dst op e s id k) (fun x i => gfS C fi dst op e s id k) (fun x => gfS C fi dst op e s id k)
    (fun f args => cfS C cal M f args e s k) (gfS C fi dst op e s id k) (comp C op)
theorem gfS_ok (dst : Option Nat) (op : Op) (hp : plainOp op = true) (e : Env) (s : St) (id : Nat) (k : V → St → Foot → Option α) :
    gfS C fi dst op e s id k = (actF C (callL C) fi dst id op e s).bind fun r => k r.1 r.2.1 r.2.2 := by
  have : actF C (callL C) fi dst id op e s = (prim C (frzD fi dst) e s id op).map fun r => (r.1, r.2.on s, footP C e op r.2) := by
    unfold actF
    split
    · simp [plainOp] at hp
    · rfl
  rw [this]
  unfold gfS
  rw [oB_eq]
  cases prim C (frzD fi dst) e s id op with
  | none => rfl
  | some r =>
    obtain ⟨v, eff⟩ := r
    simp only [Option.bind_some, fV_eq, Option.map_some]
    cases eff with
    | none => rfl
    | set i o =>
      show fN i _ = _
      rw [fN_eq, fO_eq, asetS_eq, fN_eq]; rfl
theorem comp_call {op : Op} {f : Operand} {args : List Operand} (h : comp C op = .call f args) : ∃ as ats, op = .call { callee := .value f, args := as, argTypes := ats } ∧ as.toList = args := by
  unfold comp at h
  split at h <;> (try (repeat' split at h)) <;> (try cases h)
  exact ⟨_, _, rfl, rfl⟩
theorem cfS_ok (hc : CalOk C cal) (hM : MemOk C M) (dst : Option Nat) (id : Nat) (f : Operand) (args : Array Operand) (ats : Array TypeId) (e : Env) (s : St) (k : V → St → Foot → Option α) :
    Le (cfS C cal M f args.toList e s k) ((actF C (callL C) fi dst id (.call { callee := .value f, args := args, argTypes := ats }) e s).bind fun r => k r.1 r.2.1 r.2.2) := by
  show Le _ ((callFt C (callL C) f args e s).bind _)
  unfold cfS callFt
  rw [opS_eq]
  cases opnd C e f with
  | none => exact Le.none
  | some fv =>
    simp only [Option.bind_some]
    rw [opsS_eq]
    cases opnds C e args.toList with
    | none => exact Le.none
    | some xs =>
      simp only [Option.bind_some]
      cases fv with
      | fn g cap =>
        rw [onFn_fn, appS_eq, oB_eq]
        simp only
        cases C.fn g with
        | none => exact Le.none
        | some gi =>
          simp only [Option.bind_some]
          refine Le.trans (cvS_ok C cal M hc hM _ _ _ _ _) ?_
          cases callV (callL C) gi.pure g (xs ++ cap) s with
          | none => exact Le.none
          | some r =>
            obtain ⟨v, s'⟩ := r
            simp only [Option.bind_some]
            cases gi.pure with
            | false => exact Le.refl _
            | true => cases (xs ++ cap).all V.flat <;> exact Le.refl _
      | _ => exact Le.none
theorem acF_ok (hc : CalOk C cal) (hM : MemOk C M) (dst : Option Nat) (op : Op) (e : Env) (s : St) (id : Nat) (k : V → St → Foot → Option α) :
    Le (acF C cal M fi dst op e s id k) ((actF C (callL C) fi dst id op e s).bind fun r => k r.1 r.2.1 r.2.2) := by
  unfold acF
  cases hp : plainOp op with
  | true =>
    have hg := gfS_ok C fi dst op hp e s id k
    cases hcm : comp C op <;> first | exact Le.of_eq hg | skip
    obtain ⟨as, ats, h, _⟩ := comp_call C hcm
    rw [h] at hp; cases hp
  | false =>
    have : ∃ f as ats, op = .call { callee := .value f, args := as, argTypes := ats } := by
      unfold plainOp at hp
      split at hp
      · exact ⟨_, _, _, rfl⟩
      · cases hp
    obtain ⟨f, as, ats, rfl⟩ := this
    exact cfS_ok C cal M fi hc hM dst id f as ats e s k
noncomputable def dfS (n0 : Nat) (ops : Array Oper) (l : List Oper) : Nat → Env → St → List (Nat × Foot) → (Env → St → List (Nat × Foot) → Option α) → Option α :=
  List.rec (motive := fun _ => Nat → Env → St → List (Nat × Foot) → (Env → St → List (Nat × Foot) → Option α) → Option α) (fun _ e s fs k => k e s fs) (fun o _ ih i e s fs k =>
    waS ops o e (fN (Nat.add n0 i) fun id => acF C cal M fi o.dst o.op e s id fun v s' ft => putS e o.dst v fun e' => fN (Nat.succ i) fun i' => appS fs [(i, ft)] fun fs' => ih i' e' s' fs' k)
      (putS e o.dst .undef fun e' => fN (Nat.succ i) fun i' => appS fs [(i, .cells [] [])] fun fs' => ih i' e' s fs' k)) l
theorem dfS_ok (hc : CalOk C cal) (hM : MemOk C M) (n0 : Nat) (ops : Array Oper) (l : List Oper) : ∀ i e s fs (k : Env → St → List (Nat × Foot) → Option α),
    Le (dfS C cal M fi n0 ops l i e s fs k) ((runDF C (callL C) fi n0 (l.map (ins ops)) i e s fs).bind fun r => k r.1 r.2.1 r.2.2) := by
  induction l with
  | nil => intro i e s fs k; exact Le.refl _
  | cons o r ih =>
    intro i e s fs k
    show Le (waS ops o e _ _) _
    rw [waS_eq, List.map_cons, runDF]
    cases wantedI (ins ops o).guard e with
    | none => exact Le.none
    | some b =>
      cases b with
      | false => show Le (putS _ _ _ _) _; rw [putS_eq, fN_eq, appS_eq]; exact ih _ _ _ _ _
      | true =>
        show Le (fN (Nat.add n0 i) _) _
        rw [fN_eq]
        refine Le.trans (acF_ok C cal M fi hc hM _ _ _ _ _ _) ?_
        simp only [ins]
        show Le ((actF C (callL C) fi o.dst (n0 + i) o.op e s).bind _) _
        cases actF C (callL C) fi o.dst (n0 + i) o.op e s with
        | none => exact Le.none
        | some x =>
          obtain ⟨v, s', b⟩ := x
          simp only [Option.bind_some]
          rw [putS_eq, fN_eq, appS_eq]
          exact ih _ _ _ _ _
/-- What remains of a walk with feet. -/
theorem drawK_feet {ops : Array Oper} {l : List (Nat × Nat)} {e : Env} {s : St} {b : Bool} {r : Env × St × List (Nat × Foot)}
    (h : runDF C (callL C) fi s.nxt (inss ops) 0 e (bif b then ⟨s.nxt + ops.size, s.objs⟩ else s) [] = some r) (hl : (l.all fun p => (footAt r.2.2 p.1).indep (footAt r.2.2 p.2)) = true) :
    drawK C (callL C) fi ops e s (some l) b = some (r.1, r.2.1) := by
  have h1 := runDraw_runDF C (callL C) fi ops s.nxt ops.size 0 e (bif b then ⟨s.nxt + ops.size, s.objs⟩ else s) [] (by omega)
  have h2 := runDraw_runDI C (callL C) fi ops s.nxt 0 e (bif b then ⟨s.nxt + ops.size, s.objs⟩ else s)
  simp only [List.drop_zero, Nat.sub_zero] at h1 h2
  have e0 : ops.toList.map (ins ops) = inss ops := rfl
  rw [e0, h] at h1
  rw [e0] at h2
  rw [h2] at h1
  cases hr : runDI C (callL C) fi s.nxt (inss ops) 0 e (bif b then ⟨s.nxt + ops.size, s.objs⟩ else s) with
  | none => rw [hr] at h1; cases h1
  | some x =>
    rw [hr] at h1
    simp only [Option.map_some, Option.some.injEq, List.nil_append] at h1
    subst h1
    simp only at hl
    simp only [drawK]
    rw [List.range_eq_range']
    rw [hl, hr]
    rfl

/-! ### Regions -/
noncomputable def keS (l : List Nat) (e : Env) : (Env → Option α) → Option α :=
  List.rec (motive := fun _ => (Env → Option α) → Option α) (fun k => k []) (fun t _ ih k => Option.rec (motive := fun _ => Option α) (ih k) (fun v => ih fun r => k ((t, v) :: r)) (aget e t)) l
theorem keS_eq (l : List Nat) (e : Env) : ∀ k : Env → Option α, keS l e k = k (keepE l e) := by
  induction l with
  | nil => intro k; rfl
  | cons t r ih =>
    intro k
    have : keS (t :: r) e k = Option.rec (motive := fun _ => Option α) (keS r e k) (fun v => keS r e fun r => k ((t, v) :: r)) (aget e t) := rfl
    rw [this]
    simp only [keepE, List.filterMap_cons]
    cases aget e t with
    | none => exact ih k
    | some v => exact ih _
noncomputable def liS (id : Nat) (e : Env) (k : Env → Option α) : Option α :=
  Option.rec (motive := fun _ => Option α) (k e) (fun l => keS l e k) (aget fi.live id)
theorem liS_eq (id : Nat) (e : Env) (k : Env → Option α) : liS fi id e k = k (liveE fi id e) := by
  unfold liS liveE
  cases aget fi.live id with
  | none => rfl
  | some l => exact keS_eq l e k
noncomputable def bpS (b : Bool) (s : St) (n : Nat) (k : St → Option α) : Option α :=
  Bool.rec (motive := fun _ => Option α) (k s) (fN (Nat.add s.nxt n) fun m => k ⟨m, s.objs⟩) b
noncomputable def rgS (id : Nat) (ops : Array Oper) (draw : Bool) (e : Env) (s : St) (k : Env → St → Option α) : Option α :=
  Bool.rec (motive := fun _ => Option α) (sqS C cal M fi ops ops.toList e s k)
    (bpS (ops.toList.any (bumps C fi)) s ops.size fun s0 =>
      Option.rec (motive := fun _ => Option α) (drS C cal M fi s.nxt ops ops.toList 0 e s0 k)
        (fun l => dfS C cal M fi s.nxt ops ops.toList 0 e s0 [] fun e' s' fs => tst (l.all fun p => (footAt fs p.1).indep (footAt fs p.2)) (k e' s')) (aget fi.conf id)) draw
theorem bpS_eq (b : Bool) (s : St) (n : Nat) (k : St → Option α) : bpS b s n k = k (bif b then ⟨s.nxt + n, s.objs⟩ else s) := by cases b <;> rfl
theorem rgS_f (id : Nat) (ops : Array Oper) (e : Env) (s : St) (k : Env → St → Option α) : rgS C cal M fi id ops false e s k = sqS C cal M fi ops ops.toList e s k := rfl
theorem rgS_t (id : Nat) (ops : Array Oper) (e : Env) (s : St) (k : Env → St → Option α) : rgS C cal M fi id ops true e s k = bpS (ops.toList.any (bumps C fi)) s ops.size fun s0 =>
      Option.rec (motive := fun _ => Option α) (drS C cal M fi s.nxt ops ops.toList 0 e s0 k)
        (fun l => dfS C cal M fi s.nxt ops ops.toList 0 e s0 [] fun e' s' fs => tst (l.all fun p => (footAt fs p.1).indep (footAt fs p.2)) (k e' s')) (aget fi.conf id) := rfl
theorem rgS_ok (hc : CalOk C cal) (hM : MemOk C M) (id : Nat) (ops : Array Oper) (draw : Bool) (e : Env) (s : St) (k : Ex → Env → St → Option α) :
    Le (rgS C cal M fi id ops draw e s fun e' s' => liS fi id e' fun e'' => k .normal e'' s') ((execL C fi (.region id ops draw) e s).bind fun r => k r.1 r.2.1 r.2.2) := by
  cases draw with
  | false =>
    rw [x_reg, bnd]
    rw [rgS_f]
    refine Le.trans (sqS_ok C cal M fi hc hM _ _ _ _ _) ?_
    show Le ((runI C (callL C) fi (inss ops) e s).bind _) _
    cases runI C (callL C) fi (inss ops) e s with
    | none => exact Le.none
    | some r => simp only [Option.bind_some]; rw [liS_eq]; exact Le.refl _
  | true =>
    rw [x_drawK, bnd, rgS_t, bpS_eq]
    cases hcf : aget fi.conf id with
    | none =>
      show Le (drS C cal M fi s.nxt ops ops.toList 0 e _ _) _
      refine Le.trans (drS_ok C cal M fi hc hM _ _ _ _ _ _ _) ?_
      show Le ((runDI C (callL C) fi s.nxt (inss ops) 0 e _).bind _) _
      have : drawK C (callL C) fi ops e s none (ops.toList.any (bumps C fi)) = runDI C (callL C) fi s.nxt (inss ops) 0 e (bif ops.toList.any (bumps C fi) then ⟨s.nxt + ops.size, s.objs⟩ else s) := by
        cases ops.toList.any (bumps C fi) <;> rfl
      rw [this]
      cases runDI C (callL C) fi s.nxt (inss ops) 0 e (bif ops.toList.any (bumps C fi) then ⟨s.nxt + ops.size, s.objs⟩ else s) with
      | none => exact Le.none
      | some r => simp only [Option.bind_some]; rw [liS_eq]; exact Le.refl _
    | some l =>
      show Le (dfS C cal M fi s.nxt ops ops.toList 0 e _ [] _) _
      refine Le.trans (dfS_ok C cal M fi hc hM _ _ _ _ _ _ _ _) ?_
      show Le ((runDF C (callL C) fi s.nxt (inss ops) 0 e _ []).bind _) _
      cases hr : runDF C (callL C) fi s.nxt (inss ops) 0 e (bif ops.toList.any (bumps C fi) then ⟨s.nxt + ops.size, s.objs⟩ else s) [] with
      | none => exact Le.none
      | some r =>
        simp only [Option.bind_some]
        rw [tst_eq]
        cases hl : (l.all fun p => (footAt r.2.2 p.1).indep (footAt r.2.2 p.2)) with
        | false => exact Le.none
        | true =>
          rw [drawK_feet C fi hr hl]
          simp only [if_true, Option.bind_some]
          rw [liS_eq]; exact Le.refl _
end
end Go.Ilv

/- Code and calls, strict: closed calls are looked at by the kernel. -/
set_option linter.unusedVariables false
set_option linter.unusedSimpArgs false
namespace Go.Ilv
open Go

section
variable {α : Type} (C : Cfg) (M : FuncId → List V → Option V)
abbrev ExT (α : Type) := Code → Env → St → (Ex → Env → St → Option α) → Option α
noncomputable def exC (cal : CalT α) (fi : FnI) (rec : ExT α) (c : Code) (e : Env) (s : St) (k : Ex → Env → St → Option α) : Option α :=
  match c with
  | .skip => k .normal e s
  | .region id ops draw => rgS C cal M fi id ops draw e s fun e' s' => liS fi id e' fun e'' => k .normal e'' s'
  | .seq a b => rec a e s fun x e' s' => Ex.rec (motive := fun _ => Option α) (rec b e' s' k) (fun i => k (.exit i) e' s') (k .ret e' s') x
  | .cond x a b => opS C e x fun v => onBool v fun t => Bool.rec (motive := fun _ => Option α) (rec b e s k) (rec a e s k) t
  | .block id b => rec b e s fun x e' s' => Ex.rec (motive := fun _ => Option α) (k .normal e' s') (fun j => Bool.rec (motive := fun _ => Option α) (k (.exit j) e' s') (k .normal e' s') (Nat.beq j id)) (k .ret e' s') x
  | .loop b => rec b e s fun x e' s' => Ex.rec (motive := fun _ => Option α) (rec (.loop b) e' s' k) (fun i => k (.exit i) e' s') (k .ret e' s') x
  | .exit id => k (.exit id) e s
  | .ret => k .ret e s
  | _ => none
noncomputable def exS (cal : CalT α) (fi : FnI) (n : Nat) : ExT α :=
  Nat.rec (motive := fun _ => ExT α) (fun _ _ _ _ => none) (fun _ ih c e s k => exC C M cal fi ih c e s k) n
def ExOk (fi : FnI) (rec : ExT α) : Prop := ∀ c e s k, Le (rec c e s k) ((execL C fi c e s).bind fun r => k r.1 r.2.1 r.2.2)
theorem exC_ok (cal : CalT α) (hc : CalOk C cal) (hM : MemOk C M) (fi : FnI) (rec : ExT α) (hr : ExOk C fi rec) : ExOk C fi (exC C M cal fi rec) := by
  intro c e s k
  cases c with
  | skip => rw [execL_skip]; exact Le.refl _
  | region id ops draw => exact rgS_ok C cal M fi hc hM id ops draw e s k
  | seq a b =>
    rw [x_seq]
    refine Le.trans (hr a e s _) ?_
    cases execL C fi a e s with
    | none => exact Le.none
    | some r =>
      obtain ⟨x, e1, s1⟩ := r
      simp only [Option.bind_some]
      cases x with
      | normal => exact hr b e1 s1 k
      | exit i => exact Le.refl _
      | ret => exact Le.refl _
  | cond x a b =>
    rw [x_cond, bnd]
    show Le (opS C e x _) _
    rw [opS_eq]
    cases opnd C e x with
    | none => exact Le.none
    | some v =>
      simp only [Option.bind_some]
      cases v with
      | bool t =>
        rw [onBool_bool]
        cases t with
        | true => exact hr a e s k
        | false => exact hr b e s k
      | _ => exact Le.none
  | block id b =>
    rw [x_block, bnd]
    refine Le.trans (hr b e s _) ?_
    cases execL C fi b e s with
    | none => exact Le.none
    | some r =>
      obtain ⟨x, e1, s1⟩ := r
      simp only [Option.bind_some]
      cases x with
      | normal => exact Le.refl _
      | exit j =>
        rw [outB_exit]
        have : (j == id) = Nat.beq j id := beq_n j id
        rw [this]
        show Le (Bool.rec (motive := fun _ => Option α) _ _ (Nat.beq j id)) _
        cases Nat.beq j id <;> exact Le.refl _
      | ret => exact Le.refl _
  | loop b =>
    rw [x_loop]
    refine Le.trans (hr b e s _) ?_
    cases execL C fi b e s with
    | none => exact Le.none
    | some r =>
      obtain ⟨x, e1, s1⟩ := r
      simp only [Option.bind_some]
      cases x with
      | normal => exact hr (.loop b) e1 s1 k
      | exit i => exact Le.refl _
      | ret => exact Le.refl _
  | exit id => rw [execL_exit]; exact Le.refl _
  | ret => rw [execL_ret]; exact Le.refl _
  | _ => exact Le.none
theorem exS_ok (cal : CalT α) (hc : CalOk C cal) (hM : MemOk C M) (fi : FnI) (n : Nat) : ExOk C fi (exS C M cal fi n) := by
  induction n with
  | zero => intro c e s k; exact Le.none
  | succ n ih => exact exC_ok C M cal hc hM fi _ ih

/-! ### The end of a call -/
noncomputable def rvS (e : Env) (s : St) (r : ResultVar) (k : V → Option α) : Option α :=
  ResultVar.rec (motive := fun _ => Option α) (fun t => agetS e t k) (fun a t => oB (resV C e s (.cell a t)) fun v => fV v k) r
theorem rvS_eq (e : Env) (s : St) (r : ResultVar) (k : V → Option α) : rvS C e s r k = (resV C e s r).bind k := by
  cases r with
  | tmp t => exact agetS_eq e t k
  | cell a t =>
    show oB _ _ = _
    rw [oB_eq]
    cases resV C e s (.cell a t) with
    | none => rfl
    | some v => exact fV_eq v k
noncomputable def rsS (fi : FnI) (e : Env) (s : St) (k : V → Option α) : Option α :=
  allS (rvS C e s) fi.fn.results.toList fun l => List.rec (motive := fun _ => Option α) (k (.tup [])) (fun x r _ => List.rec (motive := fun _ => Option α) (k x) (fun y u _ => k (.tup (x :: y :: u))) r) l
theorem rsS_eq (fi : FnI) (e : Env) (s : St) (k : V → Option α) : rsS C fi e s k = (results C fi e s).bind k := by
  unfold rsS results
  rw [allS_eq (rvS_eq C e s)]
  cases allSome (resV C e s) fi.fn.results.toList with
  | none => rfl
  | some l =>
    match l with
    | [] => rfl
    | [x] => rfl
    | x :: y :: u => rfl
noncomputable def kiS (s : St) (base : Nat) (l : List (Nat × Obj)) : (List (Nat × Obj) → Option α) → Option α :=
  List.rec (motive := fun _ => (List (Nat × Obj) → Option α) → Option α) (fun k => k []) (fun p _ ih k => Bool.rec (motive := fun _ => Option α) (ih fun r => k (p :: r)) (Bool.rec (motive := fun _ => Option α) (ih fun r => k (p :: r)) (ih k) (s.kills base p.1)) (Nat.ble base p.1)) l
theorem kiS_eq (s : St) (base : Nat) (l : List (Nat × Obj)) : ∀ k : List (Nat × Obj) → Option α, kiS s base l k = k (l.filter fun x => !(s.kills base x.1)) := by
  induction l with
  | nil => intro k; rfl
  | cons p r ih =>
    intro k
    have h1 : kiS s base (p :: r) k = Bool.rec (motive := fun _ => Option α) (kiS s base r fun r => k (p :: r)) (Bool.rec (motive := fun _ => Option α) (kiS s base r fun r => k (p :: r)) (kiS s base r k) (s.kills base p.1)) (Nat.ble base p.1) := rfl
    rw [h1, ih, ih, List.filter_cons]
    cases hb : Nat.ble base p.1 with
    | false =>
      have : s.kills base p.1 = false := by
        rw [nble] at hb
        simp only [St.kills, hb, Bool.false_and]
      rw [this]; rfl
    | true => cases hk : s.kills base p.1 <;> rfl
noncomputable def fiS (fi : FnI) (base : Nat) (x : Ex) (e : Env) (s : St) (k : V → St → Option α) : Option α :=
  Ex.rec (motive := fun _ => Option α) (rsS C fi e s fun r => Bool.rec (motive := fun _ => Option α) (kiS s base s.objs fun o => fN s.nxt fun n => k r ⟨n, o⟩) (k r s) fi.keep) (fun _ => none)
    (rsS C fi e s fun r => Bool.rec (motive := fun _ => Option α) (kiS s base s.objs fun o => fN s.nxt fun n => k r ⟨n, o⟩) (k r s) fi.keep) x
theorem fiS_eq (fi : FnI) (base : Nat) (x : Ex) (e : Env) (s : St) (k : V → St → Option α) : fiS C fi base x e s k = (finK C fi base (x, e, s)).bind fun r => k r.1 r.2 := by
  have key : (rsS C fi e s fun r => Bool.rec (motive := fun _ => Option α) (kiS s base s.objs fun o => fN s.nxt fun n => k r ⟨n, o⟩) (k r s) fi.keep) = (bnd (results C fi e s) fun r => some (r, bif fi.keep then s else s.killVars base)).bind fun r => k r.1 r.2 := by
    rw [rsS_eq, bnd]
    cases results C fi e s with
    | none => rfl
    | some r =>
      simp only [Option.bind_some]
      rw [kiS_eq]
      cases fi.keep <;> rfl
  cases x with
  | normal => exact key
  | exit i => rfl
  | ret => exact key
noncomputable def enS (n : Nat) (l : List V) (k : Env → Option α) : Option α :=
  List.rec (motive := fun _ => Nat → (Env → Option α) → Option α) (fun _ k => k []) (fun v _ ih n k => fN (Nat.succ n) fun m => ih m fun e => k ((n, v) :: e)) l n k
theorem enS_eq (l : List V) : ∀ (n : Nat) (k : Env → Option α), enS n l k = k (enumE n l) := by
  induction l with
  | nil => intro n k; rfl
  | cons v r ih => intro n k; exact ih (Nat.succ n) _
noncomputable def fSt (s : St) (k : St → Option α) : Option α :=
  fN s.nxt fun n => fL (fun p k => Prod.rec (motive := fun _ => Option α) (fun i o => fN i fun i => fO o fun o => k (i, o)) p) s.objs fun l => k ⟨n, l⟩
theorem fSt_eq (s : St) (k : St → Option α) : fSt s k = k s := by
  unfold fSt
  rw [fN_eq, fL_eq]
  intro p k
  obtain ⟨i, o⟩ := p
  show fN i _ = _
  rw [fN_eq, fO_eq]
noncomputable def caN (n : Nat) : CalT α :=
  Nat.rec (motive := fun _ => CalT α) (fun _ _ _ _ => none) (fun m ih f args s k =>
    Option.rec (motive := fun _ => Option α) (oB (C.fn f) fun fi => oB fi.fn.body fun b => enS 0 args fun e => exS C M ih fi m b e s fun x e' s' => fiS C fi s.nxt x e' s' k)
      (fun g => oB (g args s) fun r => fV r.1 fun v => fSt r.2 fun s' => k v s') (C.intr f)) n
theorem caN_ok (hM : MemOk C M) (n : Nat) : CalOk C (caN C M n : CalT α) := by
  induction n with
  | zero => intro f args s k; exact Le.none
  | succ n ih =>
    intro f args s k
    have h1 : caN C M (n + 1) f args s k = Option.rec (motive := fun _ => Option α) (oB (C.fn f) fun fi => oB fi.fn.body fun b => enS 0 args fun e => exS C M (caN C M n) fi n b e s fun x e' s' => fiS C fi s.nxt x e' s' k)
      (fun g => oB (g args s) fun r => fV r.1 fun v => fSt r.2 fun s' => k v s') (C.intr f) := rfl
    rw [h1]
    cases hi : C.intr f with
    | some g =>
      rw [callL_intr hi]
      show Le (oB _ _) _
      rw [oB_eq]
      cases g args s with
      | none => exact Le.none
      | some r =>
        simp only [Option.bind_some]
        rw [fV_eq, fSt_eq]; exact Le.refl _
    | none =>
      show Le (oB _ _) _
      rw [oB_eq]
      cases hf : C.fn f with
      | none => exact Le.none
      | some fi =>
        simp only [Option.bind_some]
        rw [oB_eq]
        cases hb : fi.fn.body with
        | none => exact Le.none
        | some b =>
          simp only [Option.bind_some]
          rw [enS_eq, x_call hi hf hb, bnd]
          refine Le.trans (exS_ok C M _ ih hM fi n b _ s _) ?_
          cases execL C fi b (enumE 0 args) s with
          | none => exact Le.none
          | some r =>
            obtain ⟨x, e1, s1⟩ := r
            simp only [Option.bind_some]
            rw [fiS_eq]; exact Le.refl _
end

/-- A closed call: looked at. -/
noncomputable def closed (C : Cfg) (M : FuncId → List V → Option V) (n : Nat) (f : FuncId) (args : List V) : Option V :=
  caN C M n f args St.empty fun r _ => some r
theorem closed_ok {C : Cfg} {M : FuncId → List V → Option V} (hM : MemOk C M) {n : Nat} {f : FuncId} {args : List V} {v : V} (h : closed C M n f args = some v) : ∃ s', callL C f args St.empty = some (v, s') := by
  have := caN_ok C M hM n f args St.empty (fun r _ => some r) v h
  cases hc : callL C f args St.empty with
  | none => rw [hc] at this; cases this
  | some r =>
    rw [hc] at this
    simp only [Option.bind_some, Option.some.injEq] at this
    exact ⟨r.2, by rw [← this]⟩
/-- A closed call's result, told without objects. -/
noncomputable def closedR (C : Cfg) (M : FuncId → List V → Option V) (n : Nat) (f : FuncId) (args : List V) : Option V :=
  caN C M n f args St.empty fun r s => rfS s 40 r some
theorem closedR_ok {C : Cfg} {M : FuncId → List V → Option V} (hM : MemOk C M) {n : Nat} {f : FuncId} {args : List V} {v : V} (h : closedR C M n f args = some v) : ∃ r0 s', callL C f args St.empty = some (r0, s') ∧ reify s' 40 r0 = some v := by
  have := caN_ok C M hM n f args St.empty (fun r s => rfS s 40 r some) v h
  cases hc : callL C f args St.empty with
  | none => rw [hc] at this; cases this
  | some r =>
    rw [hc] at this
    simp only [Option.bind_some] at this
    rw [rfS_eq] at this
    cases hr : reify r.2 40 r.1 with
    | none => rw [hr] at this; cases this
    | some x =>
      rw [hr] at this
      exact ⟨r.1, r.2, rfl, by rw [hr]; exact this⟩
def noMem : FuncId → List V → Option V := fun _ _ => none
theorem noMem_ok (C : Cfg) : MemOk C noMem := fun _ _ _ h => by cases h
noncomputable def isT (x : Option V) : Bool := Option.rec (motive := fun _ => Bool) false (fun v => V.rec (motive_1 := fun _ => Bool) (motive_2 := fun _ => PUnit) (fun b => b) (fun _ _ => false) (fun _ => false) (fun _ _ => false) (fun _ _ => false) false (fun _ _ _ _ _ => false) (fun _ _ _ _ => false) (fun _ _ => false) false (fun _ _ _ => false) (fun _ _ => false) false PUnit.unit (fun _ _ _ _ => PUnit.unit) v) x
theorem isT_ok {x : Option V} (h : isT x = true) : x = some (.bool true) := by
  cases x with
  | none => cases h
  | some v => cases v <;> first | (exact congrArg (fun b => some (V.bool b)) h) | cases h
end Go.Ilv

/- The walk with feet, in the form in which a rewriter takes it. -/
set_option linter.unusedVariables false
set_option linter.unusedSimpArgs false
namespace Go.Ilv
open Go
section
variable {C : Cfg} {cal : Callee} {fi : FnI} {e : Env} {s : St} {r : List Ins} {dst : Option Nat} {id : Nat} {fs : List (Nat × Foot)}
def stepF (C : Cfg) (cal : Callee) (fi : FnI) (n0 : Nat) (r : List Ins) (k : Nat) (dst : Option Nat) (e : Env) (s : St) (op : Op) (fs : List (Nat × Foot)) : V × Eff → Option (Env × St × List (Nat × Foot))
  | (v, .none) => runDF C cal fi n0 r (k + 1) (putE e dst v) s (fs ++ [(k, footP C e op .none)])
  | (v, .set i o) => runDF C cal fi n0 r (k + 1) (putE e dst v) ⟨s.nxt, aset s.objs i o⟩ (fs ++ [(k, footP C e op (.set i o))])
theorem stepF_none {n0 k : Nat} {op : Op} {v : V} : stepF C cal fi n0 r k dst e s op fs (v, .none) = runDF C cal fi n0 r (k + 1) (putE e dst v) s (fs ++ [(k, footP C e op .none)]) := rfl
theorem stepF_set {n0 k n i : Nat} {op : Op} {v : V} {l : List (Nat × Obj)} {o : Obj} : stepF C cal fi n0 r k dst e ⟨n, l⟩ op fs (v, .set i o) = runDF C cal fi n0 r (k + 1) (putE e dst v) ⟨n, aset l i o⟩ (fs ++ [(k, footP C e op (.set i o))]) := rfl
theorem runDF_prim {n0 k : Nat} {op : Op} (h : ∀ f args ats, op ≠ .call { callee := .value f, args := args, argTypes := ats }) : runDF C cal fi n0 (⟨dst, op, none⟩ :: r) k e s fs = bnd (prim C (frzD fi dst) e s (n0 + k) op) (stepF C cal fi n0 r k dst e s op fs) := by
  have ha : actF C cal fi dst (n0 + k) op e s = (prim C (frzD fi dst) e s (n0 + k) op).map fun r => (r.1, r.2.on s, footP C e op r.2) := by
    unfold actF
    split
    · rename_i h'; exact absurd rfl (h _ _ _)
    · rfl
  simp only [runDF, wantedI, ha]
  cases prim C (frzD fi dst) e s (n0 + k) op with
  | none => rfl
  | some x =>
    obtain ⟨v, eff⟩ := x
    cases eff <;> rfl
theorem runDF_nil {n0 k : Nat} : runDF C cal fi n0 [] k e s fs = some (e, s, fs) := rfl
@[congr] theorem runDF_congr {n0 k k' : Nat} {a : List Ins} {e e' : Env} {s s' : St} {fs fs' : List (Nat × Foot)} (hk : k = k') (h : e = e') (g : s = s') (hf : fs = fs') : runDF C cal fi n0 a k e s fs = runDF C cal fi n0 a k' e' s' fs' := by rw [hk, h, g, hf]
theorem f_move {n0 k : Nat} {x : Operand} : runDF C cal fi n0 (⟨dst, .move x, none⟩ :: r) k e s fs = bnd (prim C (frzD fi dst) e s (n0 + k) (.move x)) (stepF C cal fi n0 r k dst e s (.move x) fs) := runDF_prim (by intro _ _ _ h; cases h)
theorem f_assign {n0 k : Nat} {x : Operand} : runDF C cal fi n0 (⟨dst, .assign x, none⟩ :: r) k e s fs = bnd (prim C (frzD fi dst) e s (n0 + k) (.assign x)) (stepF C cal fi n0 r k dst e s (.assign x) fs) := runDF_prim (by intro _ _ _ h; cases h)
theorem f_pick {n0 k : Nat} {x y z : Operand} : runDF C cal fi n0 (⟨dst, .pick x y z, none⟩ :: r) k e s fs = bnd (prim C (frzD fi dst) e s (n0 + k) (.pick x y z)) (stepF C cal fi n0 r k dst e s (.pick x y z) fs) := runDF_prim (by intro _ _ _ h; cases h)
theorem f_alloc {n0 k : Nat} {t : TypeId} : runDF C cal fi n0 (⟨dst, .alloc t, none⟩ :: r) k e s fs = bnd (prim C (frzD fi dst) e s (n0 + k) (.alloc t)) (stepF C cal fi n0 r k dst e s (.alloc t) fs) := runDF_prim (by intro _ _ _ h; cases h)
theorem f_box {n0 k : Nat} {t : TypeId} {x : Operand} : runDF C cal fi n0 (⟨dst, .box t x, none⟩ :: r) k e s fs = bnd (prim C (frzD fi dst) e s (n0 + k) (.box t x)) (stepF C cal fi n0 r k dst e s (.box t x) fs) := runDF_prim (by intro _ _ _ h; cases h)
theorem f_build {n0 k : Nat} {t : TypeId} {ps : Array (Nat × Operand)} : runDF C cal fi n0 (⟨dst, .build t ps, none⟩ :: r) k e s fs = bnd (prim C (frzD fi dst) e s (n0 + k) (.build t ps)) (stepF C cal fi n0 r k dst e s (.build t ps) fs) := runDF_prim (by intro _ _ _ h; cases h)
theorem f_buildSlice {n0 k : Nat} {t : TypeId} {n : Nat} {ps : Array (Nat × Operand)} : runDF C cal fi n0 (⟨dst, .buildSlice t n ps, none⟩ :: r) k e s fs = bnd (prim C (frzD fi dst) e s (n0 + k) (.buildSlice t n ps)) (stepF C cal fi n0 r k dst e s (.buildSlice t n ps) fs) := runDF_prim (by intro _ _ _ h; cases h)
theorem f_load {n0 k : Nat} {t : TypeId} {x : Operand} : runDF C cal fi n0 (⟨dst, .load t x, none⟩ :: r) k e s fs = bnd (prim C (frzD fi dst) e s (n0 + k) (.load t x)) (stepF C cal fi n0 r k dst e s (.load t x) fs) := runDF_prim (by intro _ _ _ h; cases h)
theorem f_store {n0 k : Nat} {t : TypeId} {p x : Operand} : runDF C cal fi n0 (⟨dst, .store t p x, none⟩ :: r) k e s fs = bnd (prim C (frzD fi dst) e s (n0 + k) (.store t p x)) (stepF C cal fi n0 r k dst e s (.store t p x) fs) := runDF_prim (by intro _ _ _ h; cases h)
theorem f_nilCheck {n0 k : Nat} {x : Operand} : runDF C cal fi n0 (⟨dst, .nilCheck x, none⟩ :: r) k e s fs = bnd (prim C (frzD fi dst) e s (n0 + k) (.nilCheck x)) (stepF C cal fi n0 r k dst e s (.nilCheck x) fs) := runDF_prim (by intro _ _ _ h; cases h)
theorem f_binOp {n0 k : Nat} {op : BinOp} {t u : TypeId} {x y : Operand} : runDF C cal fi n0 (⟨dst, .binOp op t x y u, none⟩ :: r) k e s fs = bnd (prim C (frzD fi dst) e s (n0 + k) (.binOp op t x y u)) (stepF C cal fi n0 r k dst e s (.binOp op t x y u) fs) := runDF_prim (by intro _ _ _ h; cases h)
theorem f_unOp {n0 k : Nat} {op : UnOp} {t : TypeId} {x : Operand} : runDF C cal fi n0 (⟨dst, .unOp op t x, none⟩ :: r) k e s fs = bnd (prim C (frzD fi dst) e s (n0 + k) (.unOp op t x)) (stepF C cal fi n0 r k dst e s (.unOp op t x) fs) := runDF_prim (by intro _ _ _ h; cases h)
theorem f_convert {n0 k : Nat} {t u : TypeId} {x : Operand} : runDF C cal fi n0 (⟨dst, .convert t u x, none⟩ :: r) k e s fs = bnd (prim C (frzD fi dst) e s (n0 + k) (.convert t u x)) (stepF C cal fi n0 r k dst e s (.convert t u x) fs) := runDF_prim (by intro _ _ _ h; cases h)
theorem f_makeFunc {n0 k : Nat} {c : Fn} {a b : Array Operand} : runDF C cal fi n0 (⟨dst, .makeFunc c a b, none⟩ :: r) k e s fs = bnd (prim C (frzD fi dst) e s (n0 + k) (.makeFunc c a b)) (stepF C cal fi n0 r k dst e s (.makeFunc c a b) fs) := runDF_prim (by intro _ _ _ h; cases h)
theorem f_makeSlice {n0 k : Nat} {t : TypeId} {x y : Operand} : runDF C cal fi n0 (⟨dst, .makeSlice t x y, none⟩ :: r) k e s fs = bnd (prim C (frzD fi dst) e s (n0 + k) (.makeSlice t x y)) (stepF C cal fi n0 r k dst e s (.makeSlice t x y) fs) := runDF_prim (by intro _ _ _ h; cases h)
theorem f_slice {n0 k : Nat} {t : TypeId} {x : Operand} {lo hi mx : Option Operand} : runDF C cal fi n0 (⟨dst, .slice t x lo hi mx, none⟩ :: r) k e s fs = bnd (prim C (frzD fi dst) e s (n0 + k) (.slice t x lo hi mx)) (stepF C cal fi n0 r k dst e s (.slice t x lo hi mx) fs) := runDF_prim (by intro _ _ _ h; cases h)
theorem f_fieldAddr {n0 k : Nat} {t : TypeId} {x : Operand} {f : Nat} : runDF C cal fi n0 (⟨dst, .fieldAddr t x f, none⟩ :: r) k e s fs = bnd (prim C (frzD fi dst) e s (n0 + k) (.fieldAddr t x f)) (stepF C cal fi n0 r k dst e s (.fieldAddr t x f) fs) := runDF_prim (by intro _ _ _ h; cases h)
theorem f_field {n0 k : Nat} {t : TypeId} {x : Operand} {f : Nat} : runDF C cal fi n0 (⟨dst, .field t x f, none⟩ :: r) k e s fs = bnd (prim C (frzD fi dst) e s (n0 + k) (.field t x f)) (stepF C cal fi n0 r k dst e s (.field t x f) fs) := runDF_prim (by intro _ _ _ h; cases h)
theorem f_indexAddr {n0 k : Nat} {t : TypeId} {x i : Operand} : runDF C cal fi n0 (⟨dst, .indexAddr t x i, none⟩ :: r) k e s fs = bnd (prim C (frzD fi dst) e s (n0 + k) (.indexAddr t x i)) (stepF C cal fi n0 r k dst e s (.indexAddr t x i) fs) := runDF_prim (by intro _ _ _ h; cases h)
theorem f_index {n0 k : Nat} {t : TypeId} {x i : Operand} : runDF C cal fi n0 (⟨dst, .index t x i, none⟩ :: r) k e s fs = bnd (prim C (frzD fi dst) e s (n0 + k) (.index t x i)) (stepF C cal fi n0 r k dst e s (.index t x i) fs) := runDF_prim (by intro _ _ _ h; cases h)
theorem f_extract {n0 k : Nat} {x : Operand} {i : Nat} : runDF C cal fi n0 (⟨dst, .extract x i, none⟩ :: r) k e s fs = bnd (prim C (frzD fi dst) e s (n0 + k) (.extract x i)) (stepF C cal fi n0 r k dst e s (.extract x i) fs) := runDF_prim (by intro _ _ _ h; cases h)
theorem f_builtin {n0 k : Nat} {b : Builtin} {args : Array Operand} {ats : Array TypeId} : runDF C cal fi n0 (⟨dst, .call { callee := .builtin b, args := args, argTypes := ats }, none⟩ :: r) k e s fs = bnd (prim C (frzD fi dst) e s (n0 + k) (.call { callee := .builtin b, args := args, argTypes := ats })) (stepF C cal fi n0 r k dst e s (.call { callee := .builtin b, args := args, argTypes := ats }) fs) := runDF_prim (by intro _ _ _ h; cases h)
def callG (C : Cfg) (cal : Callee) (fi : FnI) (n0 : Nat) (r : List Ins) (k : Nat) (dst : Option Nat) (e : Env) (fs : List (Nat × Foot)) : V × St × Foot → Option (Env × St × List (Nat × Foot))
  | (v, s, ft) => runDF C cal fi n0 r (k + 1) (putE e dst v) s (fs ++ [(k, ft)])
theorem callG_mk {n0 k : Nat} {v : V} {ft : Foot} : callG C cal fi n0 r k dst e fs (v, s, ft) = runDF C cal fi n0 r (k + 1) (putE e dst v) s (fs ++ [(k, ft)]) := rfl
theorem runDF_call {n0 k : Nat} {f : Operand} {args : Array Operand} {ats : Array TypeId} : runDF C cal fi n0 (⟨dst, .call { callee := .value f, args := args, argTypes := ats }, none⟩ :: r) k e s fs = bnd (callFt C cal f args e s) (callG C cal fi n0 r k dst e fs) := by
  simp only [runDF, wantedI, actF]
  cases callFt C cal f args e s <;> rfl
theorem callFt_func {g : FuncId} {args : Array Operand} : callFt C cal (.func g) args e s = bnd (opnds C e args.toList) fun xs => bnd (C.fn g) fun gi => bnd (callV cal gi.pure g xs s) fun x => some (x.1, x.2, bif gi.pure then (bif xs.all V.flat then .cells [] [] else .top) else .call s x.2) := by
  simp only [callFt, opnd]
  cases opnds C e args.toList with
  | none => rfl
  | some l =>
    simp only [bnd_some, List.append_nil]
    cases C.fn g with
    | none => rfl
    | some gi =>
      simp only [bnd_some]
      cases callV cal gi.pure g l s with
      | none => rfl
      | some x => obtain ⟨a, b⟩ := x; simp only [bnd_some, cond_eq_ite]
def guardF (C : Cfg) (cal : Callee) (fi : FnI) (n0 : Nat) (i : Ins) (want : Bool) (r : List Ins) (k : Nat) (e : Env) (s : St) (fs : List (Nat × Foot)) : V → Option (Env × St × List (Nat × Foot))
  | .bool b => if b = want then runDF C cal fi n0 (⟨i.dst, i.op, none⟩ :: r) k e s fs else runDF C cal fi n0 r (k + 1) (putE e i.dst .undef) s (fs ++ [(k, .cells [] [])])
  | .undef => runDF C cal fi n0 r (k + 1) (putE e i.dst .undef) s (fs ++ [(k, .cells [] [])])
  | _ => none
theorem runDF_guard {n0 k : Nat} {op : Op} {d : Nat} {want : Bool} : runDF C cal fi n0 (⟨dst, op, some (some d, want)⟩ :: r) k e s fs = bnd (aget e d) (guardF C cal fi n0 ⟨dst, op, none⟩ want r k e s fs) := by
  simp only [runDF, wantedI]
  cases aget e d with
  | none => rfl
  | some v =>
    simp only [bnd_some]
    cases v with
    | bool b => cases b <;> cases want <;> simp [guardF, runDF, wantedI]
    | _ => rfl
theorem guardF_tt {n0 k : Nat} {dst : Option Nat} {op : Op} {g : Option (Option Nat × Bool)} : guardF C cal fi n0 ⟨dst, op, g⟩ true r k e s fs (.bool true) = runDF C cal fi n0 (⟨dst, op, none⟩ :: r) k e s fs := rfl
theorem guardF_ff {n0 k : Nat} {dst : Option Nat} {op : Op} {g : Option (Option Nat × Bool)} : guardF C cal fi n0 ⟨dst, op, g⟩ false r k e s fs (.bool false) = runDF C cal fi n0 (⟨dst, op, none⟩ :: r) k e s fs := rfl
theorem guardF_tf {n0 k : Nat} {dst : Option Nat} {op : Op} {g : Option (Option Nat × Bool)} : guardF C cal fi n0 ⟨dst, op, g⟩ true r k e s fs (.bool false) = runDF C cal fi n0 r (k + 1) (putE e dst .undef) s (fs ++ [(k, .cells [] [])]) := rfl
theorem guardF_ft {n0 k : Nat} {dst : Option Nat} {op : Op} {g : Option (Option Nat × Bool)} : guardF C cal fi n0 ⟨dst, op, g⟩ false r k e s fs (.bool true) = runDF C cal fi n0 r (k + 1) (putE e dst .undef) s (fs ++ [(k, .cells [] [])]) := rfl
theorem guardF_undef {n0 k : Nat} {dst : Option Nat} {op : Op} {g : Option (Option Nat × Bool)} {want : Bool} : guardF C cal fi n0 ⟨dst, op, g⟩ want r k e s fs .undef = runDF C cal fi n0 r (k + 1) (putE e dst .undef) s (fs ++ [(k, .cells [] [])]) := rfl
def footK (l : List (Nat × Nat)) : Env × St × List (Nat × Foot) → Option (Env × St)
  | (e, s, fs) => bif l.all (fun p => (footAt fs p.1).indep (footAt fs p.2)) then some (e, s) else none
theorem footK_mk {l : List (Nat × Nat)} : footK l (e, s, fs) = bif l.all (fun p => (footAt fs p.1).indep (footAt fs p.2)) then some (e, s) else none := rfl
theorem drawK_some {ops : Array Oper} {l : List (Nat × Nat)} {b : Bool} : drawK C cal fi ops e s (some l) b = bnd (runDF C cal fi s.nxt (inss ops) 0 e (bif b then ⟨s.nxt + ops.size, s.objs⟩ else s) []) (footK l) := by
  have h1 := runDraw_runDF C cal fi ops s.nxt ops.size 0 e (bif b then ⟨s.nxt + ops.size, s.objs⟩ else s) [] (by omega)
  have h2 := runDraw_runDI C cal fi ops s.nxt 0 e (bif b then ⟨s.nxt + ops.size, s.objs⟩ else s)
  simp only [List.drop_zero, Nat.sub_zero] at h1 h2
  have e0 : ops.toList.map (ins ops) = inss ops := rfl
  rw [e0] at h1 h2
  rw [h1]
  simp only [drawK]
  rw [List.range_eq_range', h2.symm]
  cases hr : runDraw C cal fi ops s.nxt (List.range' 0 ops.size) e (bif b then ⟨s.nxt + ops.size, s.objs⟩ else s) with
  | none =>
    simp only [Option.map_none, bnd_none]
    cases (l.all fun p => (footAt (feet C cal fi ops s.nxt (List.range' 0 ops.size) e (bif b then ⟨s.nxt + ops.size, s.objs⟩ else s)) p.1).indep (footAt (feet C cal fi ops s.nxt (List.range' 0 ops.size) e (bif b then ⟨s.nxt + ops.size, s.objs⟩ else s)) p.2)) <;> rfl
  | some x => simp only [Option.map_some, bnd_some, footK_mk, List.nil_append]
theorem footP_load {t : TypeId} {x : Operand} {eff : Eff} : footP C e (.load t x) eff = .cells (footR (opnd C e x)) (footW eff) := rfl
theorem footP_store {t : TypeId} {p x : Operand} {eff : Eff} : footP C e (.store t p x) eff = .cells (footR (opnd C e p)) (footW eff) := rfl
theorem footP_append {args : Array Operand} {ats : Array TypeId} {eff : Eff} : footP C e (.call { callee := .builtin .append, args := args, argTypes := ats }) eff = .cells (footA (opnds C e args.toList)) (footW eff) := rfl
theorem footP_len {args : Array Operand} {ats : Array TypeId} {eff : Eff} : footP C e (.call { callee := .builtin .len, args := args, argTypes := ats }) eff = .cells [] (footW eff) := rfl
theorem footP_move {x : Operand} {eff : Eff} : footP C e (.move x) eff = .cells [] (footW eff) := rfl
theorem footP_assign {x : Operand} {eff : Eff} : footP C e (.assign x) eff = .cells [] (footW eff) := rfl
theorem footP_pick {x y z : Operand} {eff : Eff} : footP C e (.pick x y z) eff = .cells [] (footW eff) := rfl
theorem footP_alloc {t : TypeId} {eff : Eff} : footP C e (.alloc t) eff = .cells [] (footW eff) := rfl
theorem footP_box {t : TypeId} {x : Operand} {eff : Eff} : footP C e (.box t x) eff = .cells [] (footW eff) := rfl
theorem footP_build {t : TypeId} {ps : Array (Nat × Operand)} {eff : Eff} : footP C e (.build t ps) eff = .cells [] (footW eff) := rfl
theorem footP_buildSlice {t : TypeId} {n : Nat} {ps : Array (Nat × Operand)} {eff : Eff} : footP C e (.buildSlice t n ps) eff = .cells [] (footW eff) := rfl
theorem footP_nilCheck {x : Operand} {eff : Eff} : footP C e (.nilCheck x) eff = .cells [] (footW eff) := rfl
theorem footP_binOp {op : BinOp} {t u : TypeId} {x y : Operand} {eff : Eff} : footP C e (.binOp op t x y u) eff = .cells [] (footW eff) := rfl
theorem footP_unOp {op : UnOp} {t : TypeId} {x : Operand} {eff : Eff} : footP C e (.unOp op t x) eff = .cells [] (footW eff) := rfl
theorem footP_convert {t u : TypeId} {x : Operand} {eff : Eff} : footP C e (.convert t u x) eff = .cells [] (footW eff) := rfl
theorem footP_makeFunc {c : Fn} {a b : Array Operand} {eff : Eff} : footP C e (.makeFunc c a b) eff = .cells [] (footW eff) := rfl
theorem footP_makeSlice {t : TypeId} {x y : Operand} {eff : Eff} : footP C e (.makeSlice t x y) eff = .cells [] (footW eff) := rfl
theorem footP_slice {t : TypeId} {x : Operand} {lo hi mx : Option Operand} {eff : Eff} : footP C e (.slice t x lo hi mx) eff = .cells [] (footW eff) := rfl
theorem footP_fieldAddr {t : TypeId} {x : Operand} {f : Nat} {eff : Eff} : footP C e (.fieldAddr t x f) eff = .cells [] (footW eff) := rfl
theorem footP_field {t : TypeId} {x : Operand} {f : Nat} {eff : Eff} : footP C e (.field t x f) eff = .cells [] (footW eff) := rfl
theorem footP_indexAddr {t : TypeId} {x i : Operand} {eff : Eff} : footP C e (.indexAddr t x i) eff = .cells [] (footW eff) := rfl
theorem footP_index {t : TypeId} {x i : Operand} {eff : Eff} : footP C e (.index t x i) eff = .cells [] (footW eff) := rfl
theorem footP_extract {x : Operand} {i : Nat} {eff : Eff} : footP C e (.extract x i) eff = .cells [] (footW eff) := rfl
theorem footW_none : footW .none = [] := rfl
theorem footW_set {i : Nat} {o : Obj} : footW (.set i o) = [i] := rfl
theorem footR_some {v : V} : footR (some v) = idOf v := rfl
theorem footA_some {l : List V} : footA (some l) = l.flatMap idOf := rfl
theorem indep_cells {a b c d : List Nat} : Foot.indep (.cells a b) (.cells c d) = (apartL b c && apartL b d && apartL d a) := rfl
theorem footAt_eq {l : List (Nat × Foot)} {i : Nat} : footAt l i = (aget l i).getD .top := rfl
theorem apartL_nil {b : List Nat} : apartL [] b = true := rfl
theorem apartL_cons {x : Nat} {a b : List Nat} : apartL (x :: a) b = (!b.contains x && apartL a b) := rfl
end
end Go.Ilv

/- Stores of which only some places are known. -/
set_option linter.unusedVariables false
set_option linter.unusedSimpArgs false
namespace Go.Ilv
open Go
theorem aget_self {α : Type} {l : List (Nat × α)} {i : Nat} {x : α} : aget (aset l i x) i = some x := aget_aset_self _ _ _
theorem aget_ne {α : Type} {l : List (Nat × α)} {i j : Nat} {x : α} (h : j ≠ i) : aget (aset l i x) j = aget l j := aget_aset_ne _ _ h
section
variable {C : Cfg} {cal : Callee} {fi : FnI} {e : Env} {r : List Ins} {dst : Option Nat}
theorem stepK_self {v : V} {n : Nat} {l : List (Nat × Obj)} {o : Obj} : stepK C cal fi r dst e ⟨n, l⟩ (v, .set n o) = runI C cal fi r (putE e dst v) ⟨n + 1, aset l n o⟩ := by
  rw [stepK_set, if_pos rfl]
theorem stepK_ne {v : V} {i n : Nat} {l : List (Nat × Obj)} {o : Obj} (h : i ≠ n) : stepK C cal fi r dst e ⟨n, l⟩ (v, .set i o) = runI C cal fi r (putE e dst v) ⟨n, aset l i o⟩ := by
  rw [stepK_set, if_neg h]
end
theorem sto_bool {b : Bool} : V.storable (.bool b) = true := rfl
theorem cel_bool {b : Bool} : V.cells (.bool b) = [.bool b] := rfl
theorem sto_int {k : IntKind} {n : Int} : V.storable (.int k n) = true := rfl
theorem cel_int {k : IntKind} {n : Int} : V.cells (.int k n) = [.int k n] := rfl
theorem sto_str {x : ByteArray} : V.storable (.str x) = true := rfl
theorem cel_str {x : ByteArray} : V.cells (.str x) = [.str x] := rfl
theorem sto_agg {l : List V} : V.storable (.agg l) = true := rfl
theorem cel_agg {l : List V} : V.cells (.agg l) = l := rfl
theorem sto_lit {l : List V} : V.storable (.lit l) = true := rfl
theorem cel_lit {l : List V} : V.cells (.lit l) = [.lit l] := rfl
theorem sto_nils  : V.storable (.nils) = true := rfl
theorem cel_nils  : V.cells (.nils) = [.nils] := rfl
theorem sto_ref {a b c d e : Nat} : V.storable (.ref a b c d e) = true := rfl
theorem cel_ref {a b c d e : Nat} : V.cells (.ref a b c d e) = [.ref a b c d e] := rfl
theorem sto_ptr {a b c d : Nat} : V.storable (.ptr a b c d) = true := rfl
theorem cel_ptr {a b c d : Nat} : V.cells (.ptr a b c d) = [.ptr a b c d] := rfl
theorem sto_cptr {l : List V} : V.storable (.cptr l) = true := rfl
theorem cel_cptr {l : List V} : V.cells (.cptr l) = [.cptr l] := rfl
theorem sto_pnil  : V.storable (.pnil) = true := rfl
theorem cel_pnil  : V.cells (.pnil) = [.pnil] := rfl
theorem sto_fn {f : FuncId} {l : List V} : V.storable (.fn f l) = true := rfl
theorem cel_fn {f : FuncId} {l : List V} : V.cells (.fn f l) = [.fn f l] := rfl
/-- What is kept, slot by slot. -/
def cons1 (t : Nat) : Option V → Env → Env
  | some v, r => (t, v) :: r
  | none, r => r
theorem cons1_some {t : Nat} {v : V} {r : Env} : cons1 t (some v) r = (t, v) :: r := rfl
theorem cons1_none {t : Nat} {r : Env} : cons1 t none r = r := rfl
theorem keepE_nil {e : Env} : keepE [] e = [] := rfl
theorem keepE_cons {t : Nat} {l : List Nat} {e : Env} : keepE (t :: l) e = cons1 t (aget e t) (keepE l e) := by
  simp only [keepE, List.filterMap_cons]
  cases aget e t <;> rfl
/-- The length of a slice, by its type. -/
def lenL (C : Cfg) (t : TypeId) (n : Nat) : Option V := match C.ty t with
  | some { kind := .slice _, .. } => some (.int .i64 n)
  | _ => none
theorem len_lit {C : Cfg} {t e : TypeId} {xs : List V} (h : elemTy C t = some e) : lenOp C t (.lit xs) = some (.int .i64 xs.length) := by
  unfold elemTy at h
  unfold lenOp
  split at h
  · rename_i hy; rw [hy]
  · cases h
theorem len_nils {C : Cfg} {t e : TypeId} (h : elemTy C t = some e) : lenOp C t .nils = some (.int .i64 0) := by
  unfold elemTy at h
  unfold lenOp
  split at h
  · rename_i hy; rw [hy]
  · cases h
theorem len_ref {C : Cfg} {t e : TypeId} {a b c d n : Nat} (h : elemTy C t = some e) : lenOp C t (.ref a b c d n) = some (.int .i64 n) := by
  unfold elemTy at h
  unfold lenOp
  split at h
  · rename_i hy; rw [hy]
  · cases h
theorem aget_none_of {α : Type} : ∀ {l : List (Nat × α)} {i : Nat}, aget l i = none → ∀ x ∈ l, x.1 ≠ i
  | [], i, _, x, hx => by cases hx
  | (k, v) :: r, i, h, x, hx => by
    simp only [aget] at h
    split at h
    · cases h
    · rename_i hne
      rcases List.mem_cons.1 hx with rfl | hx
      · exact fun e => hne e.symm
      · exact aget_none_of h x hx
theorem aget_of_none {α : Type} : ∀ {l : List (Nat × α)} {i : Nat}, (∀ x ∈ l, x.1 ≠ i) → aget l i = none
  | [], i, _ => rfl
  | (k, v) :: r, i, h => by
    simp only [aget]
    rw [if_neg (fun e => h (k, v) (by simp) e.symm)]
    exact aget_of_none fun x hx => h x (List.mem_cons_of_mem _ hx)
theorem aget_filt {α : Type} (p : Nat → Bool) : ∀ (l : List (Nat × α)) (i : Nat), p i = true → aget (l.filter fun x => p x.1) i = aget l i
  | [], i, _ => rfl
  | (k, v) :: r, i, h => by
    rw [List.filter_cons]
    by_cases hk : i = k
    · subst hk
      simp [h, aget]
    · cases hp : p k with
      | true => simp only [if_true, aget, if_neg hk]; exact aget_filt p r i h
      | false => simp only [Bool.false_eq_true, if_false, aget, if_neg hk]; exact aget_filt p r i h
theorem aget_kill {s : St} {base j : Nat} (h : j < base) : aget (s.killVars base).objs j = aget s.objs j := by
  unfold St.killVars
  refine aget_filt (fun i => !(s.kills base i)) s.objs j ?_
  have : ¬ base ≤ j := by omega
  simp [St.kills, this]
theorem aget_kill_none {s : St} {base j : Nat} (h : aget s.objs j = none) : aget (s.killVars base).objs j = none :=
  aget_of_none fun x hx => aget_none_of h x (List.mem_filter.1 hx |>.1)
/-- An object that is no variable stays. -/
theorem aget_kill_some {s : St} {base j : Nat} {o : Obj} (h : aget s.objs j = some o) (hv : o.var = false) : aget (s.killVars base).objs j = some o := by
  rw [← h]
  unfold St.killVars
  refine aget_filt (fun i => !(s.kills base i)) s.objs j ?_
  simp [St.kills, h, hv]
theorem nxt_kill {s : St} {base : Nat} : (s.killVars base).nxt = s.nxt := rfl
theorem Fresh.kill {n m base : Nat} {l : List (Nat × Obj)} (h : Fresh n l) : Fresh n (St.killVars ⟨m, l⟩ base).objs := fun j hj => aget_kill_none (h j hj)
theorem kill_fresh {n m : Nat} {l : List (Nat × Obj)} (h : Fresh n l) : St.killVars ⟨m, l⟩ n = ⟨m, l⟩ := by
  unfold St.killVars
  congr 1
  refine List.filter_eq_self.2 fun x hx => ?_
  by_cases hn : n ≤ x.1
  · exact absurd rfl (aget_none_of (h x.1 hn) x hx)
  · simp [St.kills, hn]
theorem Fresh.le {n m : Nat} {l : List (Nat × Obj)} (h : Fresh n l) (hn : n ≤ m) : Fresh m l := fun j hj => h j (Nat.le_trans hn hj)
end Go.Ilv
