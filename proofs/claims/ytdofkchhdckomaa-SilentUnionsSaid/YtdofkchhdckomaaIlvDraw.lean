/- A region of open order: whatever order its edges allow comes to what the order of the text comes to. -/
import Derived.Test.YtdofkchhdckomaaIlvComm
set_option linter.unusedVariables false
set_option linter.unusedSimpArgs false
namespace Go.Ilv
open Go

section
variable {C : Cfg} {P : Program} {gl : Nat → Option (List V)} {K : Ctx} {s : St} {w w' : World} {e : Env} {a : Act} {cal : Callee}

theorem aset_comm' {e : Env} {x y : Option Nat} {v u : V} (h : ∀ d, x = some d → y ≠ some d) : putE (putE e x v) y u = putE (putE e y u) x v := by
  cases x with
  | none => rfl
  | some d =>
    cases y with
    | none => rfl
    | some d' => exact aset_comm e v u (fun e => h d rfl (by rw [e]))

theorem putE_get {e : Env} {dst : Option Nat} {v : V} {t : Nat} (h : ∀ d, dst = some d → t ≠ d) : aget (putE e dst v) t = aget e t := by
  cases dst with
  | none => rfl
  | some d => exact aget_aset_ne _ _ (h d rfl)

theorem step_swap {fi : FnI} {ops : Array Oper} {n0 i j : Nat} {oi oj : Oper} (hoi : ops[i]? = some oi) (hoj : ops[j]? = some oj) (hap : Oper.apart ops oi oj = true) {e e1 e2 : Env} {s s1 s2 : St} {b c : Bool} {f g : Foot}
    (h1 : stepOp C cal fi ops (n0 + i) i e s = some (e1, s1, b, f)) (h2 : stepOp C cal fi ops (n0 + j) j e1 s1 = some (e2, s2, c, g)) (hi : (touches oi && touches oj && (writes C fi oi || writes C fi oj)) = true → f.indep g = true) :
    ∃ e1' s1', stepOp C cal fi ops (n0 + j) j e s = some (e1', s1', c, g) ∧ stepOp C cal fi ops (n0 + i) i e1' s1' = some (e2, s2, b, f) := by
  obtain ⟨ap1, ap2, ap3⟩ := Oper.apart_spec hap
  have hlj : ∀ v, ∀ t ∈ oj.looksAt ops, aget (putE e oi.dst v) t = aget e t := fun v t ht => putE_get fun d hd hn => ap1 d hd (by rw [← hn]; exact ht)
  have hli : ∀ v, ∀ t ∈ oi.looksAt ops, aget (putE e oj.dst v) t = aget e t := fun v t ht => putE_get fun d hd hn => ap3 d hd (by rw [← hn]; exact ht)
  simp only [stepOp, hoi, hoj] at h1 h2 ⊢
  split at h1
  · rename_i hwi
    split at h1
    · rename_i v si bi fti hai
      simp only [Option.some.injEq, Prod.mk.injEq] at h1
      obtain ⟨rfl, rfl, rfl, rfl⟩ := h1
      rw [looks_wanted (hlj v)] at h2
      split at h2
      · rename_i hwj
        rw [act_congr (looks_op (hlj v))] at h2
        split at h2
        · rename_i u sj bj ftj haj
          simp only [Option.some.injEq, Prod.mk.injEq] at h2
          obtain ⟨rfl, rfl, rfl, rfl⟩ := h2
          obtain ⟨s1', q1, q2⟩ := act_swap hai haj hi
          refine ⟨putE e oj.dst u, s1', by rw [q1], ?_⟩
          rw [looks_wanted (hli u), hwi, act_congr (looks_op (hli u)), q2]
          simp only [Option.some.injEq, Prod.mk.injEq, and_true]
          exact (aset_comm' fun d hd => ap2 d hd).symm
        · cases h2
      · rename_i hwj
        simp only [Option.some.injEq, Prod.mk.injEq] at h2
        obtain ⟨rfl, rfl, rfl, rfl⟩ := h2
        refine ⟨putE e oj.dst .undef, s, rfl, ?_⟩
        rw [looks_wanted (hli _), hwi, act_congr (looks_op (hli _)), hai]
        simp only [Option.some.injEq, Prod.mk.injEq, and_true]
        exact (aset_comm' fun d hd => ap2 d hd).symm
      · cases h2
    · cases h1
  · rename_i hwi
    simp only [Option.some.injEq, Prod.mk.injEq] at h1
    obtain ⟨rfl, rfl, rfl, rfl⟩ := h1
    rw [looks_wanted (hlj _)] at h2
    split at h2
    · rename_i hwj
      rw [act_congr (looks_op (hlj _))] at h2
      split at h2
      · rename_i u sj bj ftj haj
        simp only [Option.some.injEq, Prod.mk.injEq] at h2
        obtain ⟨rfl, rfl, rfl, rfl⟩ := h2
        refine ⟨putE e oj.dst u, _, rfl, ?_⟩
        rw [looks_wanted (hli u), hwi]
        simp only [Option.some.injEq, Prod.mk.injEq, and_true]
        exact (aset_comm' fun d hd => ap2 d hd).symm
      · cases h2
    · rename_i hwj
      simp only [Option.some.injEq, Prod.mk.injEq] at h2
      obtain ⟨rfl, rfl, rfl, rfl⟩ := h2
      refine ⟨putE e oj.dst .undef, _, rfl, ?_⟩
      rw [looks_wanted (hli _), hwi]
      simp only [Option.some.injEq, Prod.mk.injEq, and_true]
      exact (aset_comm' fun d hd => ap2 d hd).symm
    · cases h2
  · cases h1

/-- The run of a list, each operation's foot being told. -/
def RunF (C : Cfg) (cal : Callee) (fi : FnI) (ops : Array Oper) (n0 : Nat) (F : Nat → Foot) (B : Nat → Bool) : List Nat → Env → St → Env → St → Prop
  | [], e, s, e', s' => e' = e ∧ s' = s
  | i :: r, e, s, e', s' => ∃ e1 s1, stepOp C cal fi ops (n0 + i) i e s = some (e1, s1, B i, F i) ∧ RunF C cal fi ops n0 F B r e1 s1 e' s'

/-- i comes ahead of j, and may as well come behind it. -/
def Free (C : Cfg) (fi : FnI) (ops : Array Oper) (F : Nat → Foot) (i j : Nat) : Prop :=
  ∃ oi oj, ops[i]? = some oi ∧ ops[j]? = some oj ∧ Oper.apart ops oi oj = true ∧ ((touches oi && touches oj && (writes C fi oi || writes C fi oj)) = true → (F i).indep (F j) = true)

theorem move_front {fi : FnI} {ops : Array Oper} {n0 : Nat} {F : Nat → Foot} {B : Nat → Bool} {x : Nat} {q : List Nat} : ∀ (p : List Nat) {e e' : Env} {s s' : St}, RunF C cal fi ops n0 F B (p ++ x :: q) e s e' s' → (∀ i ∈ p, Free C fi ops F i x) →
    ∃ e1 s1, stepOp C cal fi ops (n0 + x) x e s = some (e1, s1, B x, F x) ∧ RunF C cal fi ops n0 F B (p ++ q) e1 s1 e' s'
  | [], e, e', s, s', h, _ => h
  | i :: p, e, e', s, s', h, hf => by
    obtain ⟨e1, s1, h1, h2⟩ := h
    obtain ⟨e2, s2, h3, h4⟩ := move_front p h2 fun j hj => hf j (by simp [hj])
    obtain ⟨oi, oj, hoi, hoj, hap, hin⟩ := hf i (by simp)
    obtain ⟨e3, s3, q1, q2⟩ := step_swap hoi hoj hap h1 h3 hin
    exact ⟨e3, s3, q1, e2, s2, q2, h4⟩

theorem feet_get {fi : FnI} {ops : Array Oper} {n0 : Nat} : ∀ (l : List Nat) {e e' : Env} {s s' : St}, l.Nodup → runDraw C cal fi ops n0 l e s = some (e', s') →
    ∃ B, RunF C cal fi ops n0 (footAt (feet C cal fi ops n0 l e s)) B l e s e' s'
  | [], e, e', s, s', _, h => by
    simp [runDraw] at h
    exact ⟨fun _ => false, h.1.symm, h.2.symm⟩
  | i :: r, e, e', s, s', hnd, h => by
    simp only [runDraw] at h
    split at h
    · rename_i e1 s1 b ft hst
      obtain ⟨hni, hnd'⟩ := List.nodup_cons.1 hnd
      obtain ⟨B, hB⟩ := feet_get r hnd' h
      have hF : feet C cal fi ops n0 (i :: r) e s = (i, ft) :: feet C cal fi ops n0 r e1 s1 := by simp only [feet, hst]
      have hcong : ∀ (l : List Nat) (F G : Nat → Foot) (B G' : Nat → Bool) {e e' : Env} {s s' : St}, (∀ j ∈ l, F j = G j ∧ B j = G' j) → RunF C cal fi ops n0 F B l e s e' s' → RunF C cal fi ops n0 G G' l e s e' s' := by
        intro l
        induction l with
        | nil => intro F G B G' e e' s s' _ h; exact h
        | cons j l ih =>
          intro F G B G' e e' s s' hFG h
          obtain ⟨e1, s1, q1, q2⟩ := h
          obtain ⟨g1, g2⟩ := hFG j (by simp)
          exact ⟨e1, s1, by rw [← g1, ← g2]; exact q1, ih F G B G' (fun k hk => hFG k (by simp [hk])) q2⟩
      refine ⟨fun j => if j = i then b else B j, e1, s1, ?_, ?_⟩
      · rw [hF]
        simp only [footAt, aget, if_true, Option.getD_some]
        exact hst
      · refine hcong r _ _ _ _ (fun j hj => ?_) hB
        have hne : j ≠ i := fun h => hni (h ▸ hj)
        rw [hF]
        simp [footAt, aget, hne]
    · cases h

/-! ### what an operation waits for -/
theorem testBit_fold {S : Nat → Prop} {acc : Array Nat} : ∀ (l : List Edge) (m i : Nat), (∀ k, m.testBit k = true → S k) → (∀ x ∈ l, Region.binds .any x = true → S x.on ∧ ∀ k, (acc.getD x.on 0).testBit k = true → S k) →
    (l.foldl (fun s e => if Region.binds .any e then s ||| 2 ^ e.on ||| acc.getD e.on 0 else s) m).testBit i = true → S i
  | [], m, i, hm, _, h => hm i h
  | x :: l, m, i, hm, hl, h => by
    simp only [List.foldl_cons] at h
    refine testBit_fold l _ i (fun k hk => ?_) (fun y hy => hl y (by simp [hy])) h
    by_cases hb : Region.binds .any x = true
    · rw [if_pos hb, Nat.testBit_or, Nat.testBit_or, Bool.or_eq_true, Bool.or_eq_true, Nat.testBit_two_pow] at hk
      rcases hk with (hk | hk) | hk
      · exact hm k hk
      · simp at hk; rw [← hk]; exact (hl x (by simp) hb).1
      · exact (hl x (by simp) hb).2 k hk
    · rw [if_neg hb] at hk; exact hm k hk

/-- Whatever is closed under what an operation waits for, and holds what one waits for, holds all that stands ahead of it. -/
theorem before_closed {ops : Array Oper} {S : Nat → Prop} (hback : ∀ (j : Nat) (o : Oper), ops[j]? = some o → ∀ x ∈ o.after.toList, Region.binds .any x = true → x.on < j)
    (hcl : ∀ (j : Nat) (o : Oper), ops[j]? = some o → S j → ∀ x ∈ o.after.toList, Region.binds .any x = true → S x.on) :
    ∀ (j : Nat) (o : Oper), ops[j]? = some o → (∀ x ∈ o.after.toList, Region.binds .any x = true → S x.on) → ∀ i, ((Region.before ops).getD j 0).testBit i = true → S i := by
  have key : ∀ (l : List Oper) (acc : Array Nat) (pre : List Oper), ops.toList = pre ++ l → acc.size = pre.length →
      (∀ j, j < pre.length → ∀ (S : Nat → Prop), (∀ (j : Nat) (o : Oper), ops[j]? = some o → S j → ∀ x ∈ o.after.toList, Region.binds .any x = true → S x.on) → ∀ o, ops[j]? = some o → (∀ x ∈ o.after.toList, Region.binds .any x = true → S x.on) → ∀ i, (acc.getD j 0).testBit i = true → S i) →
      ∀ j, j < ops.size → ∀ (S : Nat → Prop), (∀ (j : Nat) (o : Oper), ops[j]? = some o → S j → ∀ x ∈ o.after.toList, Region.binds .any x = true → S x.on) → ∀ o, ops[j]? = some o → (∀ x ∈ o.after.toList, Region.binds .any x = true → S x.on) → ∀ i,
        ((l.foldl (fun acc o => acc.push (o.after.foldl (fun s e => if Region.binds .any e then s ||| 2 ^ e.on ||| acc.getD e.on 0 else s) 0)) acc).getD j 0).testBit i = true → S i := by
    intro l
    induction l with
    | nil =>
      intro acc pre hpre hsz hacc j hj
      have : pre.length = ops.size := by rw [← Array.length_toList, hpre]; simp
      exact hacc j (by omega)
    | cons o l ih =>
      intro acc pre hpre hsz hacc
      simp only [List.foldl_cons]
      have ho : ops[pre.length]? = some o := by
        rw [← Array.getElem?_toList, hpre, List.getElem?_append_right (Nat.le_refl _)]; simp
      refine ih _ (pre ++ [o]) (by rw [hpre]; simp) (by simp [hsz]) fun j hj S hS o' ho' hx i hi => ?_
      by_cases hjp : j < pre.length
      · have e : (acc.push (o.after.foldl (fun s e => if Region.binds .any e then s ||| 2 ^ e.on ||| acc.getD e.on 0 else s) 0)).getD j 0 = acc.getD j 0 := by
          simp only [Array.getD_eq_getD_getElem?, Array.getElem?_push]
          rw [if_neg (by omega)]
        rw [e] at hi
        exact hacc j hjp S hS o' ho' hx i hi
      · have hjl : j = pre.length := by simp at hj; omega
        subst hjl
        rw [ho] at ho'
        obtain rfl := Option.some.inj ho'
        have e : (acc.push (o.after.foldl (fun s e => if Region.binds .any e then s ||| 2 ^ e.on ||| acc.getD e.on 0 else s) 0)).getD pre.length 0 = o.after.toList.foldl (fun s e => if Region.binds .any e then s ||| 2 ^ e.on ||| acc.getD e.on 0 else s) 0 := by
          simp only [Array.getD_eq_getD_getElem?, Array.getElem?_push]
          rw [if_pos hsz.symm, Option.getD_some, Array.foldl_toList]
        rw [e] at hi
        refine testBit_fold (S := S) o.after.toList 0 i (fun k hk => by simp at hk) (fun x hx' hb => ⟨hx x hx' hb, fun k hk => ?_⟩) hi
        have hlt := hback _ o ho x hx' hb
        have hon : x.on < ops.size := by have := (Array.getElem?_eq_some_iff.1 ho).1; omega
        have hoo : ops[x.on]? = some ops[x.on] := Array.getElem?_eq_getElem hon
        exact hacc x.on hlt S hS _ hoo (hS _ _ hoo (hx x hx' hb)) k hk
  intro j o ho hx i hi
  have hj : j < ops.size := (Array.getElem?_eq_some_iff.1 ho).1
  refine key ops.toList #[] [] rfl rfl (fun j hj => absurd hj (by simp)) j hj S hcl o ho hx i ?_
  rw [Array.foldl_toList]
  exact hi

theorem step_nobump {fi : FnI} {ops : Array Oper} {id i : Nat} {e1 : Env} {s1 : St} {b : Bool} {ft : Foot} (h : stepOp C cal fi ops id i e s = some (e1, s1, b, ft)) (hb : ∀ o, ops[i]? = some o → bumps C fi o = false) : s1.nxt = s.nxt := by
  unfold stepOp at h
  split at h
  · simp at h; rw [h.2.1]
  · rename_i o ho
    have hbo := hb o ho
    simp only [bumps, Bool.or_eq_false_iff, Bool.and_eq_false_iff] at hbo
    split at h
    · split at h
      · rename_i v s2 b2 ft2 hact
        simp at h
        obtain ⟨_, rfl, _⟩ := h
        cases hg : goCall o with
        | true =>
          have hw : writes C fi o = false := by
            rcases hbo.2 with h1 | h1
            · rw [hg] at h1; cases h1
            · exact h1
          rw [act_nowrite hw hact]
        | false =>
          rw [act_plain hg] at hact
          split at hact
          · rename_i v1 eff hp
            simp at hact
            rw [← hact.2.1]
            cases eff <;> rfl
          · cases hact
      · cases h
    · simp at h; rw [h.2.1]
    · cases h

theorem range_filter_pairwise (n : Nat) (p : Nat → Bool) : ((List.range n).filter p).Pairwise (· < ·) := List.Pairwise.filter _ List.pairwise_lt_range

theorem wpAny_draw (hC : CfgOk C P) (hcal : Sound C P cal) {N : Nat} {fi : FnI} {ops : Array Oper} {n0 : Nat} {F : Nat → Foot} {B : Nat → Bool} {Q : Exit → Act → World → Prop} {e' : Env} {s' : St}
    (hdst : ∀ (i : Nat) (o : Oper) (d : Nat), ops[i]? = some o → o.dst = some d → d < N)
    (hback : ∀ (j : Nat) (o : Oper), ops[j]? = some o → ∀ x ∈ o.after.toList, Region.binds .any x = true → x.on < j)
    (hfree : ∀ (i j : Nat), i < j → j < ops.size → ((Region.before ops).getD j 0).testBit i = false → Free C fi ops F i j)
    {K0 : Ctx} {w0 : World} (hfin : ∀ K w a, Stp K0 w0 K w → SRel C N K s' w e' a → (∀ j, K.al j → K0.al j ∨ n0 ≤ j) → n0 ≤ s'.nxt → Q .normal a w) :
    ∀ (fuel : Nat) (listed : Array Bool) (r : List Nat) (K : Ctx) (s : St) (w : World) (e : Env) (a : Act), listed.size = ops.size →
      r = ((List.range ops.size).filter fun i => !listed.getD i true) → r.length = fuel →
      (∀ (j : Nat) (o : Oper), ops[j]? = some o → listed.getD j false = true → ∀ x ∈ o.after.toList, Region.binds .any x = true → listed.getD x.on false = true) →
      SRel C N K s w e a → RunF C cal fi ops n0 F B r e s e' s' →
      (∀ j, K.al j → j < n0 ∨ (∃ k, listed.getD k false = true ∧ j = n0 + k) ∨ n0 + ops.size ≤ j) → Stp K0 w0 K w → (∀ j, K.al j → K0.al j ∨ n0 ≤ j) → n0 ≤ s.nxt →
      (n0 + ops.size ≤ s.nxt ∨ ∀ (i : Nat) (o : Oper), ops[i]? = some o → bumps C fi o = false) → wpAny P .any ops Q fuel listed a w := by
  intro fuel
  induction fuel with
  | zero =>
    intro listed r K s w e a hls hr hlen hcl hs hrun hinv hst hal hn hbump
    have hr0 : r = [] := List.eq_nil_of_length_eq_zero hlen
    subst hr0
    refine ⟨?_, ?_⟩
    · simp only [Region.ready]
      rw [List.filter_eq_nil_iff]
      intro i hi
      have := (List.filter_eq_nil_iff.1 hr.symm) i hi
      simp only [Bool.not_eq_true, Bool.not_eq_false'] at this
      simp [this]
    · obtain ⟨rfl, rfl⟩ := hrun
      exact hfin K w a hst hs hal hn
  | succ fuel ih =>
    intro listed r K s w e a hls hr hlen hcl hs hrun hinv hst hal hn hbump
    have hpw : r.Pairwise (· < ·) := by rw [hr]; exact range_filter_pairwise _ _
    have hmem : ∀ i, i ∈ r ↔ i < ops.size ∧ listed.getD i true = false := by
      intro i
      rw [hr]
      simp
    have hgd : ∀ i, i < ops.size → listed.getD i true = listed.getD i false := by
      intro i hi
      simp [Array.getD_eq_getD_getElem?, Array.getElem?_eq_getElem (show i < listed.size by omega)]
    refine ⟨fun hready => ?_, fun i hi => ?_⟩
    · -- something is ready
      exfalso
      match r, hlen, hpw, hmem with
      | x :: t, _, hpw, hmem =>
        obtain ⟨hx1, hx2⟩ := (hmem x).1 (by simp)
        have hox : ops[x]? = some ops[x] := Array.getElem?_eq_getElem hx1
        have hin : x ∈ Region.ready .any ops listed := by
          simp only [Region.ready, List.mem_filter, List.mem_range, hx1, true_and, hox, Option.map_some, Option.getD_some, Bool.and_eq_true, Bool.not_eq_true', hx2]
          rw [← Array.all_toList, List.all_eq_true]
          intro ed hed
          cases hb : Region.binds .any ed with
          | false => rfl
          | true =>
            simp only [Bool.not_true, Bool.false_or]
            have hlt := hback x _ hox ed hed hb
            have hon : ed.on < ops.size := by omega
            have hnr : ed.on ∉ x :: t := by
              intro hm
              rcases List.mem_cons.1 hm with h | h
              · omega
              · have := (List.pairwise_cons.1 hpw).1 _ h; omega
            cases hq : listed.getD ed.on true with
            | false => exact absurd ((hmem ed.on).2 ⟨hon, hq⟩) hnr
            | true => rw [← hgd _ hon]; exact hq
        rw [hready] at hin
        cases hin
    · simp only [Region.ready, List.mem_filter, List.mem_range, Bool.and_eq_true, Bool.not_eq_true'] at hi
      obtain ⟨hi1, hi2, hi3⟩ := hi
      have hoi : ops[i]? = some ops[i] := Array.getElem?_eq_getElem hi1
      rw [hoi] at hi3
      simp only [Option.map_some, Option.getD_some, ← Array.all_toList, List.all_eq_true, Bool.or_eq_true, Bool.not_eq_true'] at hi3
      have hpre : ∀ x ∈ ops[i].after.toList, Region.binds .any x = true → listed.getD x.on false = true := by
        intro x hx hb
        rcases hi3 x hx with h | h
        · rw [hb] at h; cases h
        · exact h
      have hir : i ∈ r := (hmem i).2 ⟨hi1, hi2⟩
      obtain ⟨p, q, hpq⟩ := List.append_of_mem hir
      subst hpq
      have hpw' := List.pairwise_append.1 hpw
      have hfr : ∀ k ∈ p, Free C fi ops F k i := by
        intro k hk
        have hki : k < i := hpw'.2.2 k hk i (by simp)
        refine hfree k i hki hi1 ?_
        cases hb : ((Region.before ops).getD i 0).testBit k with
        | false => rfl
        | true =>
          have h1 := before_closed (S := fun j => listed.getD j false = true) hback hcl i _ hoi hpre k hb
          have h2 := (hmem k).1 (by simp [hk])
          rw [hgd _ h2.1, h1] at h2
          exact absurd h2.2 (by simp)
      obtain ⟨e1, s1, hstep, hrun'⟩ := move_front p hrun hfr
      have hid : ¬ K.al (n0 + i) := by
        intro h
        rcases hinv _ h with h | ⟨k, h1, h2⟩ | h
        · omega
        · have : k = i := by omega
          subst this
          rw [hgd _ hi1, h1] at hi2
          cases hi2
        · omega
      refine stepOp_rel hC hcal hs hid (fun o d => hdst i o d) hstep fun K' w' a' g1 g2 g3 g4 g5 g6 g7 => ?_
      have hls' : (listed.setIfInBounds i true).size = ops.size := by simpa using hls
      have hget : ∀ k d, (listed.setIfInBounds i true).getD k d = if k = i then true else listed.getD k d := by
        intro k d
        simp only [Array.getD_eq_getD_getElem?, Array.getElem?_setIfInBounds]
        by_cases hki : i = k
        · subst hki
          simp [show i < listed.size by omega]
        · simp [hki, Ne.symm hki]
      have hrnew : p ++ q = (List.range ops.size).filter fun k => !(listed.setIfInBounds i true).getD k true := by
        have e1 : (fun k => !(listed.setIfInBounds i true).getD k true) = fun k => (!decide (k = i)) && !listed.getD k true := by
          funext k
          rw [hget]
          by_cases hk : k = i <;> simp [hk]
        rw [e1, ← List.filter_filter, ← hr]
        have hni : ∀ k ∈ p, k ≠ i := fun k hk h => by have := hpw'.2.2 k hk i (by simp); omega
        have hnq : ∀ k ∈ q, k ≠ i := fun k hk h => by have := (List.pairwise_cons.1 hpw'.2.1).1 k hk; omega
        rw [List.filter_append, List.filter_cons]
        simp only [decide_true, Bool.not_true, Bool.false_eq_true, if_false]
        rw [List.filter_eq_self.2 fun k hk => by simp [hni k hk], List.filter_eq_self.2 fun k hk => by simp [hnq k hk]]
      have hnx : ¬ (n0 + ops.size ≤ s.nxt) → s1.nxt = s.nxt := by
        intro h
        rcases hbump with h1 | h1
        · exact absurd h1 h
        · exact step_nobump hstep fun o ho => h1 i o ho
      have hmk : (∃ o, ops[i]? = some o ∧ makes fi o = true) → n0 + ops.size ≤ s.nxt := by
        rintro ⟨o, ho, hm⟩
        rcases hbump with h1 | h1
        · exact h1
        · have := h1 i o ho
          simp [bumps, hm] at this
      refine ih (listed.setIfInBounds i true) (p ++ q) K' s1 w' e1 a' hls' hrnew (by simp at hlen ⊢; omega) (fun j o ho hj x hx hb => ?_) ⟨g2, fun j hj => ?_, g3, g4, g5⟩ hrun' (fun j hj => ?_) (hst.trans g1) (fun j hj => ?_) (Nat.le_trans hn g7) ?_
      · rw [hget] at hj ⊢
        split
        · rfl
        · split at hj
          · rename_i hji
            subst hji
            rw [hoi] at ho
            obtain rfl := Option.some.inj ho
            exact hpre x hx hb
          · exact hcl j o ho hj x hx hb
      · rcases g6 j hj with h | ⟨h, _, rfl⟩ | ⟨h1, h2⟩
        · have := hs.al j h; omega
        · have := hmk h; omega
        · exact h2
      · rcases g6 j hj with h | ⟨h, _, rfl⟩ | ⟨h1, h2⟩
        · rcases hinv j h with h | ⟨k, h1, h2⟩ | h
          · exact .inl h
          · exact .inr (.inl ⟨k, by rw [hget]; split; rfl; exact h1, h2⟩)
          · exact .inr (.inr h)
        · exact .inr (.inl ⟨i, by rw [hget, if_pos rfl], rfl⟩)
        · by_cases hb : n0 + ops.size ≤ s.nxt
          · exact .inr (.inr (by omega))
          · have := hnx hb; omega
      · rcases g6 j hj with h | ⟨h, _, rfl⟩ | ⟨h1, h2⟩
        · exact hal j h
        · exact .inr (by omega)
        · exact .inr (by omega)
      · rcases hbump with h | h
        · exact .inl (by omega)
        · exact .inr h
end
end Go.Ilv
