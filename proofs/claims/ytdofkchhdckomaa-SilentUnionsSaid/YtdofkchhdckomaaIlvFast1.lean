/- Numbers, operands and single operations, strict. -/
import Derived.Test.YtdofkchhdckomaaIlvForce
set_option linter.unusedVariables false
set_option linter.unusedSimpArgs false
namespace Go.Ilv
open Go

section num
variable {ρ : Type}
noncomputable def addZ (a b : Int) (k : Int → ρ) : ρ :=
  Int.rec (motive := fun _ => ρ) (fun m => Int.rec (motive := fun _ => ρ) (fun n => fN (Nat.add m n) fun r => k (.ofNat r)) (fun n => fZ (Int.ofNat m + Int.negSucc n) k) b) (fun m => fZ (Int.negSucc m + b) k) a
theorem addZ_eq (a b : Int) (k : Int → ρ) : addZ a b k = k (a + b) := by
  cases a with
  | ofNat m => cases b with
    | ofNat n => rfl
    | negSucc n => exact fZ_eq _ k
  | negSucc m => exact fZ_eq _ k
noncomputable def subZ (a b : Int) (k : Int → ρ) : ρ :=
  Int.rec (motive := fun _ => ρ) (fun m => Int.rec (motive := fun _ => ρ) (fun n => Bool.rec (motive := fun _ => ρ) (fN (Nat.sub (Nat.sub n m) 1) fun r => k (.negSucc r)) (fN (Nat.sub m n) fun r => k (.ofNat r)) (Nat.ble n m)) (fun n => fZ (Int.ofNat m - Int.negSucc n) k) b) (fun m => fZ (Int.negSucc m - b) k) a
theorem subZ_eq (a b : Int) (k : Int → ρ) : subZ a b k = k (a - b) := by
  cases a with
  | ofNat m => cases b with
    | ofNat n =>
      show Bool.rec (motive := fun _ => ρ) (k (.negSucc (Nat.sub (Nat.sub n m) 1))) (k (.ofNat (Nat.sub m n))) (Nat.ble n m) = _
      cases hb : Nat.ble n m with
      | true =>
        have h := Nat.le_of_ble_eq_true hb
        have : Int.ofNat (Nat.sub m n) = Int.ofNat m - Int.ofNat n := by
          show ((m - n : Nat) : Int) = (m : Int) - (n : Int)
          omega
        rw [← this]
      | false =>
        have h : ¬ n ≤ m := fun h => by rw [Nat.ble_eq_true_of_le h] at hb; cases hb
        have : Int.negSucc (Nat.sub (Nat.sub n m) 1) = Int.ofNat m - Int.ofNat n := by
          show Int.negSucc (n - m - 1) = (m : Int) - (n : Int)
          rw [Int.negSucc_eq]; omega
        rw [← this]
    | negSucc n => exact fZ_eq (Int.ofNat m - Int.negSucc n) k
  | negSucc m => exact fZ_eq (Int.negSucc m - b) k
noncomputable def mulZ (a b : Int) (k : Int → ρ) : ρ :=
  Int.rec (motive := fun _ => ρ) (fun m => Int.rec (motive := fun _ => ρ) (fun n => fN (Nat.mul m n) fun r => k (.ofNat r)) (fun n => fZ (Int.ofNat m * Int.negSucc n) k) b) (fun m => fZ (Int.negSucc m * b) k) a
theorem mulZ_eq (a b : Int) (k : Int → ρ) : mulZ a b k = k (a * b) := by
  cases a with
  | ofNat m => cases b with
    | ofNat n => rfl
    | negSucc n => exact fZ_eq _ k
  | negSucc m => exact fZ_eq _ k
noncomputable def mxK (k : IntKind) : Nat := IntKind.rec (motive := fun _ => Nat) 127 32767 2147483647 9223372036854775807 255 65535 4294967295 18446744073709551615 k
noncomputable def sgK (k : IntKind) : Bool := IntKind.rec (motive := fun _ => Bool) true true true true false false false false k
noncomputable def wrS (kd : IntKind) (x : Int) (k : Int → ρ) : ρ :=
  Int.rec (motive := fun _ => ρ) (fun n => Bool.rec (motive := fun _ => ρ) (fZ (kd.wrap (.ofNat n)) k) (k (.ofNat n)) (Nat.ble n (mxK kd)))
    (fun n => Bool.rec (motive := fun _ => ρ) (fZ (kd.wrap (.negSucc n)) k) (Bool.rec (motive := fun _ => ρ) (fZ (kd.wrap (.negSucc n)) k) (k (.negSucc n)) (Nat.ble n (mxK kd))) (sgK kd)) x
theorem wrap_pos (kd : IntKind) (n : Nat) (h : n ≤ mxK kd) : kd.wrap (.ofNat n) = .ofNat n := by
  show kd.wrap (n : Int) = (n : Int)
  cases kd <;> simp only [mxK] at h <;> simp only [IntKind.wrap, IntKind.bits, IntKind.signed, Bool.true_and, Bool.false_and] <;> split <;> (try (rename_i hh; simp at hh)) <;> omega
theorem wrap_in (kd : IntKind) (x : Int) (hs : sgK kd = true) (h1 : -(mxK kd : Int) - 1 ≤ x) (h2 : x ≤ mxK kd) : kd.wrap x = x := by
  cases kd <;> (try (exact absurd hs (by decide))) <;> simp only [mxK] at h1 h2 <;> simp only [IntKind.wrap, IntKind.bits, IntKind.signed, Bool.true_and, Bool.false_and] <;> split <;> (try (rename_i hh; simp at hh)) <;> omega
theorem wrap_neg (kd : IntKind) (n : Nat) (hs : sgK kd = true) (h : n ≤ mxK kd) : kd.wrap (.negSucc n) = .negSucc n := by
  refine wrap_in kd _ hs ?_ ?_
  · rw [Int.negSucc_eq]; omega
  · rw [Int.negSucc_eq]; omega
theorem wrS_eq (kd : IntKind) (x : Int) (k : Int → ρ) : wrS kd x k = k (kd.wrap x) := by
  cases x with
  | ofNat n =>
    show Bool.rec (motive := fun _ => ρ) (fZ (kd.wrap (.ofNat n)) k) (k (.ofNat n)) (Nat.ble n (mxK kd)) = _
    cases hb : Nat.ble n (mxK kd) with
    | true => rw [wrap_pos kd n (Nat.le_of_ble_eq_true hb)]
    | false => exact fZ_eq _ k
  | negSucc n =>
    show Bool.rec (motive := fun _ => ρ) (fZ (kd.wrap (.negSucc n)) k) (Bool.rec (motive := fun _ => ρ) (fZ (kd.wrap (.negSucc n)) k) (k (.negSucc n)) (Nat.ble n (mxK kd))) (sgK kd) = _
    cases hs : sgK kd with
    | false => exact fZ_eq _ k
    | true =>
      cases hb : Nat.ble n (mxK kd) with
      | true => rw [wrap_neg kd n hs (Nat.le_of_ble_eq_true hb)]
      | false => exact fZ_eq _ k
noncomputable def eqZ (a b : Int) : Bool :=
  Int.rec (motive := fun _ => Bool) (fun m => Int.rec (motive := fun _ => Bool) (fun n => Nat.beq m n) (fun n => false) b) (fun m => Int.rec (motive := fun _ => Bool) (fun n => false) (fun n => Nat.beq m n) b) a
theorem nbeq (m n : Nat) : Nat.beq m n = decide (m = n) := by
  by_cases h : m = n
  · subst h; rw [Nat.beq_refl]; simp
  · rw [nbeq_f h]; simp [h]
theorem nble (m n : Nat) : Nat.ble m n = decide (m ≤ n) := by
  by_cases h : m ≤ n
  · rw [Nat.ble_eq_true_of_le h]; simp [h]
  · cases hb : Nat.ble m n with
    | false => simp [h]
    | true => exact absurd (Nat.le_of_ble_eq_true hb) h
theorem eqZ_eq (a b : Int) : eqZ a b = decide (a = b) := by
  cases a with
  | ofNat m => cases b with
    | ofNat n => simp only [eqZ, nbeq]; congr 1; simp only [Int.ofNat_eq_natCast, eq_iff_iff]; omega
    | negSucc n => simp [eqZ]
  | negSucc m => cases b with
    | ofNat n => simp [eqZ]
    | negSucc n => simp [eqZ, nbeq]
noncomputable def leZ (a b : Int) : Bool :=
  Int.rec (motive := fun _ => Bool) (fun m => Int.rec (motive := fun _ => Bool) (fun n => Nat.ble m n) (fun n => false) b) (fun m => Int.rec (motive := fun _ => Bool) (fun n => true) (fun n => Nat.ble n m) b) a
theorem leZ_eq (a b : Int) : leZ a b = decide (a ≤ b) := by
  cases a with
  | ofNat m => cases b with
    | ofNat n => simp only [leZ, nble]; congr 1; simp
    | negSucc n => simp only [leZ]; symm; simp only [decide_eq_false_iff_not]; simp only [Int.ofNat_eq_natCast, Int.negSucc_eq]; omega
  | negSucc m => cases b with
    | ofNat n => simp only [leZ]; symm; simp only [decide_eq_true_eq]; simp only [Int.ofNat_eq_natCast, Int.negSucc_eq]; omega
    | negSucc n => simp only [leZ, nble]; congr 1; simp only [Int.negSucc_eq, eq_iff_iff]; omega
theorem ltZ_eq (a b : Int) : (!leZ b a) = decide (a < b) := by
  rw [leZ_eq]
  by_cases h : a < b
  · have : ¬ b ≤ a := by omega
    simp [h, this]
  · have : b ≤ a := by omega
    simp [h, this]
noncomputable def notB (b : Bool) : Bool := Bool.rec (motive := fun _ => Bool) true false b
theorem notB_eq (b : Bool) : notB b = !b := by cases b <;> rfl
noncomputable def ixK (k : IntKind) : Nat := IntKind.rec (motive := fun _ => Nat) 0 1 2 3 4 5 6 7 k
noncomputable def eqK (k l : IntKind) : Bool := Nat.beq (ixK k) (ixK l)
theorem eqK_eq (k l : IntKind) : eqK k l = decide (k = l) := by cases k <;> cases l <;> rfl
end num

section
variable {α : Type}
/-- The operations on numbers that are done at once. -/
def binQ : BinOp → Bool
  | .add | .sub | .mul | .eql | .neq | .lss | .leq | .gtr | .geq => true
  | _ => false
noncomputable def arS (op : BinOp) (kd : IntKind) (a b : Int) (k : V → Option α) : Option α := match op with
  | .add => addZ a b fun r => wrS kd r fun r => k (.int kd r)
  | .sub => subZ a b fun r => wrS kd r fun r => k (.int kd r)
  | .mul => mulZ a b fun r => wrS kd r fun r => k (.int kd r)
  | .eql => fB (eqZ a b) fun r => k (.bool r)
  | .neq => fB (notB (eqZ a b)) fun r => k (.bool r)
  | .lss => fB (notB (leZ b a)) fun r => k (.bool r)
  | .leq => fB (leZ a b) fun r => k (.bool r)
  | .gtr => fB (notB (leZ a b)) fun r => k (.bool r)
  | .geq => fB (leZ b a) fun r => k (.bool r)
  | _ => none
theorem arS_eq (op : BinOp) (h : binQ op = true) (kd : IntKind) (a b : Int) (k : V → Option α) : arS op kd a b k = (arith op kd a b).bind k := by
  cases op <;> first | (exact absurd h (by decide)) | skip
  all_goals simp only [arS, arith, cmpInt, addZ_eq, subZ_eq, mulZ_eq, wrS_eq, fB_eq, eqZ_eq, leZ_eq, notB_eq, Option.map_some, Option.bind_some]
  · rw [← ltZ_eq, leZ_eq]
  · show k (.bool _) = k (.bool (decide (b < a))); rw [← ltZ_eq, leZ_eq]

noncomputable def onInt (v : V) (f : IntKind → Int → Option α) (z : Option α) : Option α :=
  V.rec (motive_1 := fun _ => Option α) (motive_2 := fun _ => PUnit) (fun _ => z) f (fun _ => z) (fun _ _ => z) (fun _ _ => z) z (fun _ _ _ _ _ => z) (fun _ _ _ _ => z) (fun _ _ => z) z (fun _ _ _ => z) (fun _ _ => z) z PUnit.unit (fun _ _ _ _ => PUnit.unit) v
noncomputable def onBool (v : V) (f : Bool → Option α) : Option α :=
  V.rec (motive_1 := fun _ => Option α) (motive_2 := fun _ => PUnit) f (fun _ _ => none) (fun _ => none) (fun _ _ => none) (fun _ _ => none) none (fun _ _ _ _ _ => none) (fun _ _ _ _ => none) (fun _ _ => none) none (fun _ _ _ => none) (fun _ _ => none) none PUnit.unit (fun _ _ _ _ => PUnit.unit) v
/-- A pointer: into an object, or to cells that nobody writes. -/
noncomputable def onPtr (v : V) (f : Nat → Nat → Nat → Nat → Option α) (g : List V → Option α) : Option α :=
  V.rec (motive_1 := fun _ => Option α) (motive_2 := fun _ => PUnit) (fun _ => none) (fun _ _ => none) (fun _ => none) (fun _ _ => none) (fun _ _ => none) none (fun _ _ _ _ _ => none) f (fun l _ => g l) none (fun _ _ _ => none) (fun _ _ => none) none PUnit.unit (fun _ _ _ _ => PUnit.unit) v
/-- A slice. -/
noncomputable def onSl (v : V) (f : List V → Option α) (g : Nat → Nat → Nat → Nat → Nat → Option α) (n : Option α) : Option α :=
  V.rec (motive_1 := fun _ => Option α) (motive_2 := fun _ => PUnit) (fun _ => none) (fun _ _ => none) (fun _ => none) (fun _ _ => none) (fun l _ => f l) n g (fun _ _ _ _ => none) (fun _ _ => none) none (fun _ _ _ => none) (fun _ _ => none) none PUnit.unit (fun _ _ _ _ => PUnit.unit) v
/-- A struct or a bundle of results. -/
noncomputable def onAgg (v : V) (f : List V → Option α) (g : List V → Option α) : Option α :=
  V.rec (motive_1 := fun _ => Option α) (motive_2 := fun _ => PUnit) (fun _ => none) (fun _ _ => none) (fun _ => none) (fun l _ => f l) (fun _ _ => none) none (fun _ _ _ _ _ => none) (fun _ _ _ _ => none) (fun _ _ => none) none (fun _ _ _ => none) (fun l _ => g l) none PUnit.unit (fun _ _ _ _ => PUnit.unit) v
noncomputable def onFn (v : V) (f : FuncId → List V → Option α) : Option α :=
  V.rec (motive_1 := fun _ => Option α) (motive_2 := fun _ => PUnit) (fun _ => none) (fun _ _ => none) (fun _ => none) (fun _ _ => none) (fun _ _ => none) none (fun _ _ _ _ _ => none) (fun _ _ _ _ => none) (fun _ _ => none) none (fun g l _ => f g l) (fun _ _ => none) none PUnit.unit (fun _ _ _ _ => PUnit.unit) v
theorem onInt_int {kd : IntKind} {m : Int} {f : IntKind → Int → Option α} {z : Option α} : onInt (.int kd m) f z = f kd m := rfl
theorem onBool_bool {b : Bool} {f : Bool → Option α} : onBool (.bool b) f = f b := rfl
theorem onPtr_ptr {a b c d : Nat} {f : Nat → Nat → Nat → Nat → Option α} {g : List V → Option α} : onPtr (.ptr a b c d) f g = f a b c d := rfl
theorem onPtr_cptr {cs : List V} {f : Nat → Nat → Nat → Nat → Option α} {g : List V → Option α} : onPtr (.cptr cs) f g = g cs := rfl
theorem onSl_lit {xs : List V} {f : List V → Option α} {g : Nat → Nat → Nat → Nat → Nat → Option α} {n : Option α} : onSl (.lit xs) f g n = f xs := rfl
theorem onSl_ref {a b c d e : Nat} {f : List V → Option α} {g : Nat → Nat → Nat → Nat → Nat → Option α} {n : Option α} : onSl (.ref a b c d e) f g n = g a b c d e := rfl
theorem onSl_nils {f : List V → Option α} {g : Nat → Nat → Nat → Nat → Nat → Option α} {n : Option α} : onSl .nils f g n = n := rfl
theorem onAgg_agg {l : List V} {f g : List V → Option α} : onAgg (.agg l) f g = f l := rfl
theorem onAgg_tup {l : List V} {f g : List V → Option α} : onAgg (.tup l) f g = g l := rfl
theorem onFn_fn {g : FuncId} {l : List V} {f : FuncId → List V → Option α} : onFn (.fn g l) f = f g l := rfl
/-- The cells of a value that can be stored. -/
noncomputable def cellsS (v : V) (k : List V → Option α) : Option α :=
  V.rec (motive_1 := fun _ => Option α) (motive_2 := fun _ => PUnit) (fun b => k [.bool b]) (fun a b => k [.int a b]) (fun a => k [.str a]) (fun l _ => k l) (fun l _ => k [.lit l]) (k [.nils]) (fun a b c d e => k [.ref a b c d e]) (fun a b c d => k [.ptr a b c d]) (fun l _ => k [.cptr l]) (k [.pnil]) (fun f l _ => k [.fn f l]) (fun l _ => none) none PUnit.unit (fun _ _ _ _ => PUnit.unit) v
theorem cellsS_eq (v : V) (k : List V → Option α) : cellsS v k = if v.storable then k v.cells else none := by cases v <;> rfl

/-- The first n of at least n. -/
noncomputable def takeX {β : Type} (xs : List β) : Nat → (List β → Option α) → Option α :=
  List.rec (motive := fun _ => Nat → (List β → Option α) → Option α) (fun n k => Nat.rec (motive := fun _ => Option α) (k []) (fun _ _ => none) n) (fun x _ ih n k => Nat.rec (motive := fun _ => Option α) (k []) (fun m _ => ih m fun l => k (x :: l)) n) xs
theorem takeX_eq {β : Type} (xs : List β) : ∀ (n : Nat) (k : List β → Option α), takeX xs n k = if n ≤ xs.length then k (xs.take n) else none := by
  induction xs with
  | nil => intro n k; cases n <;> rfl
  | cons x r ih =>
    intro n k
    cases n with
    | zero => rfl
    | succ n =>
      show takeX r n _ = _
      rw [ih]
      simp
/-- A value out of cells. -/
noncomputable def partS (cs : List V) (off n : Nat) (agg : Bool) (k : V → Option α) : Option α :=
  dropS cs off fun d => Bool.rec (motive := fun _ => Option α) (tst (Nat.beq n 1) (nthS d 0 k)) (takeX d n fun l => k (.agg l)) agg
theorem partS_eq (cs : List V) (off n : Nat) (hn : n ≠ 0) (agg : Bool) (k : V → Option α) : partS cs off n agg k = if off + n ≤ cs.length then (ofCells agg ((cs.drop off).take n)).bind k else none := by
  unfold partS
  rw [dropS_eq]
  have hl : (cs.drop off).length = cs.length - off := List.length_drop
  cases agg with
  | true =>
    show takeX _ n _ = _
    rw [takeX_eq]
    by_cases h : off + n ≤ cs.length
    · rw [if_pos h, if_pos (by omega)]; rfl
    · rw [if_neg h, if_neg (by omega)]
  | false =>
    show tst _ _ = _
    rw [tst_eq, nthS_eq, nbeq]
    by_cases h : n = 1
    · subst h
      simp only [decide_true, if_true]
      cases hd : cs.drop off with
      | nil => rw [hd] at hl; simp at hl; rw [if_neg (by omega)]; rfl
      | cons x r => rw [hd] at hl; simp at hl; rw [if_pos (by omega)]; rfl
    · simp only [h, decide_false, Bool.false_eq_true, if_false]
      by_cases h' : off + n ≤ cs.length
      · rw [if_pos h']
        have : ((cs.drop off).take n).length = n := by rw [List.length_take, hl]; omega
        match hq : (cs.drop off).take n, this with
        | [], h2 => simp [ofCells]
        | [x], h2 => exact absurd h2.symm h
        | x :: y :: r, h2 => simp [ofCells]
      · rw [if_neg h']
end
end Go.Ilv
