/- The evaluator without a count of steps: equations to reckon with. -/
import Derived.Test.YtdofkchhdckomaaIlvCfg
set_option linter.unusedVariables false
set_option linter.unusedSimpArgs false
namespace Go.Ilv
open Go

open Classical in
/-- What a growing chain of answers comes to. -/
noncomputable def lim {α : Type} (g : Nat → Option α) : Option α := if h : ∃ a n, g n = some a then some (Classical.choose h) else none
def Mono {α : Type} (g : Nat → Option α) : Prop := ∀ n a, g n = some a → g (n + 1) = some a
theorem Mono.le {α : Type} {g : Nat → Option α} (h : Mono g) {n m : Nat} (hm : n ≤ m) {a : α} (hn : g n = some a) : g m = some a := by
  induction hm with
  | refl => exact hn
  | step _ ih => exact h _ _ ih
theorem lim_iff {α : Type} {g : Nat → Option α} (h : Mono g) {a : α} : lim g = some a ↔ ∃ n, g n = some a := by
  constructor
  · intro hl
    unfold lim at hl
    split at hl
    · rename_i he
      obtain ⟨n, hn⟩ := Classical.choose_spec he
      simp at hl
      rw [hl] at hn
      exact ⟨n, hn⟩
    · cases hl
  · rintro ⟨n, hn⟩
    have he : ∃ a n, g n = some a := ⟨a, n, hn⟩
    unfold lim
    rw [dif_pos he]
    obtain ⟨m, hm⟩ := Classical.choose_spec he
    have h1 := h.le (Nat.le_max_left n m) hn
    have h2 := h.le (Nat.le_max_right n m) hm
    rw [h1] at h2
    exact h2.symm

/-- One callee says no less than another. -/
def CalLe (c d : Callee) : Prop := ∀ f args s r, c f args s = some r → d f args s = some r
theorem CalLe.refl (c : Callee) : CalLe c c := fun _ _ _ _ h => h
theorem CalLe.trans {a b c : Callee} (h : CalLe a b) (g : CalLe b c) : CalLe a c := fun f as s r hr => g f as s r (h f as s r hr)

section
variable {C : Cfg} {c d : Callee}

theorem callV_le (h : CalLe c d) {p : Bool} {f : FuncId} {args : List V} {s : St} {r : V × St} (hr : callV c p f args s = some r) : callV d p f args s = some r := by
  unfold callV at hr ⊢
  split at hr
  · rename_i hp
    rw [if_pos hp]
    split at hr
    · split at hr
      · rename_i h1 _ _ h2
        rw [h _ _ _ _ h2]
        exact hr
      · cases hr
    · cases hr
  · rename_i hp
    rw [if_neg hp]
    exact h _ _ _ _ hr
theorem act_le (h : CalLe c d) {fi : FnI} {id : Nat} {o : Oper} {e : Env} {s : St} {r : V × St × Bool × Foot} (hr : act C c fi id o e s = some r) : act C d fi id o e s = some r := by
  cases hg : goCall o with
  | false => rw [act_plain hg] at hr ⊢; exact hr
  | true =>
    obtain ⟨f, args, ats, hop⟩ := goCall_op hg
    rw [act_go hop] at hr ⊢
    split at hr
    · split at hr
      · split at hr
        · rename_i h3
          rw [callV_le h h3]
          exact hr
        · cases hr
      · cases hr
    · cases hr
theorem stepOp_le (h : CalLe c d) {fi : FnI} {ops : Array Oper} {id i : Nat} {e : Env} {s : St} {r : Env × St × Bool × Foot} (hr : stepOp C c fi ops id i e s = some r) : stepOp C d fi ops id i e s = some r := by
  unfold stepOp at hr ⊢
  split at hr
  · exact hr
  · split at hr
    · split at hr
      · rename_i h3
        rw [act_le h h3]
        exact hr
      · cases hr
    · exact hr
    · cases hr
theorem runSeq_le (h : CalLe c d) {fi : FnI} {ops : Array Oper} : ∀ {l : List Nat} {e : Env} {s : St} {r : Env × St}, runSeq C c fi ops l e s = some r → runSeq C d fi ops l e s = some r
  | [], e, s, r, hr => hr
  | i :: l, e, s, r, hr => by
    simp only [runSeq] at hr ⊢
    split at hr
    · rename_i h3
      rw [stepOp_le h h3]
      exact runSeq_le h hr
    · cases hr
theorem runDraw_le (h : CalLe c d) {fi : FnI} {ops : Array Oper} {n0 : Nat} : ∀ {l : List Nat} {e : Env} {s : St} {r : Env × St}, runDraw C c fi ops n0 l e s = some r → runDraw C d fi ops n0 l e s = some r ∧ feet C d fi ops n0 l e s = feet C c fi ops n0 l e s
  | [], e, s, r, hr => ⟨hr, rfl⟩
  | i :: l, e, s, r, hr => by
    simp only [runDraw] at hr ⊢
    split at hr
    · rename_i h3
      have h4 := stepOp_le h h3
      obtain ⟨q1, q2⟩ := runDraw_le h hr
      rw [h4]
      refine ⟨q1, ?_⟩
      simp only [feet, h3, h4, q2]
    · cases hr
theorem runReg_le (h : CalLe c d) {fi : FnI} {id : Nat} {ops : Array Oper} {draw : Bool} {e : Env} {s : St} {r : Env × St} (hr : runReg C c fi id ops draw e s = some r) : runReg C d fi id ops draw e s = some r := by
  cases draw with
  | false => simp only [runReg, Bool.false_eq_true, if_false] at hr ⊢; exact runSeq_le h hr
  | true =>
    simp only [runReg, if_true] at hr ⊢
    generalize (if ops.any (bumps C fi) then ({ s with nxt := s.nxt + ops.size } : St) else s) = s0 at hr ⊢
    have hrun : runDraw C c fi ops s.nxt (List.range ops.size) e s0 = some r := by
      cases hc : aget fi.conf id with
      | none => rw [hc] at hr; simpa using hr
      | some l => rw [hc] at hr; simp only at hr; split at hr; exact hr; cases hr
    obtain ⟨q1, q2⟩ := runDraw_le h hrun
    rw [q1, q2]
    rw [hrun] at hr
    exact hr
theorem exec_le (h : CalLe c d) {fi : FnI} : ∀ {n m : Nat} {k : Code} {e : Env} {s : St} {r : Ex × Env × St}, n ≤ m → exec C c fi n k e s = some r → exec C d fi m k e s = some r := by
  intro n
  induction n with
  | zero => intro m k e s r _ hr; simp [exec] at hr
  | succ n ih =>
    intro m k e s r hm hr
    obtain ⟨m, rfl⟩ : ∃ m', m = m' + 1 := ⟨m - 1, by omega⟩
    have hm' : n ≤ m := by omega
    cases k <;> simp only [exec, reduceCtorEq] at hr ⊢ <;> try exact hr
    case region id ops draw =>
      split at hr
      · rename_i h3
        rw [runReg_le h h3]
        exact hr
      · cases hr
    case seq a b =>
      cases ha : exec C c fi n a e s with
      | none => rw [ha] at hr; cases hr
      | some x =>
        rw [ih hm' ha]
        rw [ha] at hr
        obtain ⟨ex, e1, s1⟩ := x
        cases ex with
        | normal => exact ih hm' hr
        | exit id => exact hr
        | ret => exact hr
    case cond x a b =>
      split at hr
      · exact ih hm' hr
      · cases hr
    case block id b =>
      cases ha : exec C c fi n b e s with
      | none => rw [ha] at hr; cases hr
      | some x =>
        rw [ih hm' ha]
        rw [ha] at hr
        obtain ⟨ex, e1, s1⟩ := x
        cases ex <;> exact hr
    case loop b =>
      cases ha : exec C c fi n b e s with
      | none => rw [ha] at hr; cases hr
      | some x =>
        rw [ih hm' ha]
        rw [ha] at hr
        obtain ⟨ex, e1, s1⟩ := x
        cases ex with
        | normal => exact ih hm' hr
        | exit id => exact hr
        | ret => exact hr
theorem body_le (h : CalLe c d) {fi : FnI} {n m : Nat} (hm : n ≤ m) {args : List V} {s : St} {r : V × St} (hr : body C c fi n args s = some r) : body C d fi m args s = some r := by
  unfold body at hr ⊢
  cases hb : fi.fn.body with
  | none => rw [hb] at hr; cases hr
  | some b =>
    rw [hb] at hr
    simp only at hr ⊢
    cases he : exec C c fi n b (enumE 0 args) s with
    | none => rw [he] at hr; cases hr
    | some x =>
      rw [exec_le h hm he]
      rw [he] at hr
      exact hr
theorem call_le : ∀ {n m : Nat}, n ≤ m → CalLe (call C n) (call C m) := by
  intro n
  induction n with
  | zero => intro m _ f args s r hr; simp [call] at hr
  | succ n ih =>
    intro m hm f args s r hr
    obtain ⟨m, rfl⟩ : ∃ m', m = m' + 1 := ⟨m - 1, by omega⟩
    simp only [call] at hr ⊢
    split at hr
    · exact hr
    · split at hr
      · exact body_le (ih (by omega)) (by omega) hr
      · cases hr

theorem call_mono (f : FuncId) (args : List V) (s : St) : Mono fun n => call C n f args s := fun n a h => call_le (Nat.le_succ n) f args s a h
theorem exec_mono {fi : FnI} (k : Code) (e : Env) (s : St) : Mono fun n => exec C (call C n) fi n k e s := fun n a h => exec_le (call_le (Nat.le_succ n)) (Nat.le_succ n) h
end

section
variable (C : Cfg)
/-- A call. -/
noncomputable def callL : Callee := fun f args s => lim fun n => call C n f args s
/-- A piece of code. -/
noncomputable def execL (fi : FnI) (k : Code) (e : Env) (s : St) : Option (Ex × Env × St) := lim fun n => exec C (call C n) fi n k e s
end

section
variable {C : Cfg} {fi : FnI} {e : Env} {s : St}

theorem callL_iff {f : FuncId} {args : List V} {r : V × St} : callL C f args s = some r ↔ ∃ n, call C n f args s = some r := lim_iff (call_mono f args s)
theorem execL_iff {k : Code} {r : Ex × Env × St} : execL C fi k e s = some r ↔ ∃ n, exec C (call C n) fi n k e s = some r := lim_iff (exec_mono k e s)
theorem call_leL (n : Nat) : CalLe (call C n) (callL C) := fun f args s r h => callL_iff.2 ⟨n, h⟩

theorem callV_lim {p : Bool} {f : FuncId} {args : List V} {r : V × St} (hr : callV (callL C) p f args s = some r) : ∃ n, callV (call C n) p f args s = some r := by
  unfold callV at hr
  split at hr
  · rename_i hp
    split at hr
    · rename_i as has
      split at hr
      · rename_i r1 s1 h2
        obtain ⟨n, hn⟩ := callL_iff.1 h2
        refine ⟨n, ?_⟩
        unfold callV
        rw [if_pos hp, has]
        simp only [hn]
        exact hr
      · cases hr
    · cases hr
  · rename_i hp
    obtain ⟨n, hn⟩ := callL_iff.1 hr
    exact ⟨n, by unfold callV; rw [if_neg hp]; exact hn⟩
theorem act_lim {id : Nat} {o : Oper} {r : V × St × Bool × Foot} (hr : act C (callL C) fi id o e s = some r) : ∃ n, act C (call C n) fi id o e s = some r := by
  cases hg : goCall o with
  | false => rw [act_plain hg] at hr; exact ⟨0, by rw [act_plain hg]; exact hr⟩
  | true =>
    obtain ⟨f, args, ats, hop⟩ := goCall_op hg
    rw [act_go hop] at hr
    split at hr
    · rename_i g cap as h1 h2
      split at hr
      · rename_i gi hgi
        split at hr
        · rename_i r1 s1 h3
          obtain ⟨n, hn⟩ := callV_lim h3
          refine ⟨n, ?_⟩
          rw [act_go hop, h1, h2]
          simp only [hgi, hn]
          exact hr
        · cases hr
      · cases hr
    · cases hr
theorem stepOp_lim {ops : Array Oper} {id i : Nat} {r : Env × St × Bool × Foot} (hr : stepOp C (callL C) fi ops id i e s = some r) : ∃ n, stepOp C (call C n) fi ops id i e s = some r := by
  unfold stepOp at hr
  split at hr
  · rename_i ho
    exact ⟨0, by unfold stepOp; rw [ho]; exact hr⟩
  · rename_i o ho
    split at hr
    · rename_i hw
      split at hr
      · rename_i v s1 b ft h3
        obtain ⟨n, hn⟩ := act_lim h3
        refine ⟨n, ?_⟩
        unfold stepOp
        rw [ho]
        simp only [hw, hn]
        exact hr
      · cases hr
    · rename_i hw
      exact ⟨0, by unfold stepOp; rw [ho]; simp only [hw]; exact hr⟩
    · cases hr
theorem runSeq_lim {ops : Array Oper} : ∀ {l : List Nat} {e : Env} {s : St} {r : Env × St}, runSeq C (callL C) fi ops l e s = some r → ∃ n, runSeq C (call C n) fi ops l e s = some r
  | [], e, s, r, hr => ⟨0, hr⟩
  | i :: l, e, s, r, hr => by
    simp only [runSeq] at hr
    split at hr
    · rename_i e1 s1 b ft h3
      obtain ⟨n, hn⟩ := stepOp_lim h3
      obtain ⟨m, hm⟩ := runSeq_lim hr
      refine ⟨max n m, ?_⟩
      simp only [runSeq, stepOp_le (call_le (Nat.le_max_left n m)) hn]
      exact runSeq_le (call_le (Nat.le_max_right n m)) hm
    · cases hr
theorem runDraw_lim {ops : Array Oper} {n0 : Nat} : ∀ {l : List Nat} {e : Env} {s : St} {r : Env × St}, runDraw C (callL C) fi ops n0 l e s = some r → ∃ n, runDraw C (call C n) fi ops n0 l e s = some r
  | [], e, s, r, hr => ⟨0, hr⟩
  | i :: l, e, s, r, hr => by
    simp only [runDraw] at hr
    split at hr
    · rename_i e1 s1 b ft h3
      obtain ⟨n, hn⟩ := stepOp_lim h3
      obtain ⟨m, hm⟩ := runDraw_lim hr
      refine ⟨max n m, ?_⟩
      simp only [runDraw, stepOp_le (call_le (Nat.le_max_left n m)) hn]
      exact (runDraw_le (call_le (Nat.le_max_right n m)) hm).1
    · cases hr
theorem runReg_lim {id : Nat} {ops : Array Oper} {draw : Bool} {r : Env × St} (hr : runReg C (callL C) fi id ops draw e s = some r) : ∃ n, runReg C (call C n) fi id ops draw e s = some r := by
  cases draw with
  | false =>
    simp only [runReg, Bool.false_eq_true, if_false] at hr ⊢
    exact runSeq_lim hr
  | true =>
    simp only [runReg, if_true] at hr ⊢
    generalize (if ops.any (bumps C fi) then ({ s with nxt := s.nxt + ops.size } : St) else s) = s0 at hr ⊢
    have hrun : runDraw C (callL C) fi ops s.nxt (List.range ops.size) e s0 = some r := by
      cases hc : aget fi.conf id with
      | none => rw [hc] at hr; simpa using hr
      | some l => rw [hc] at hr; simp only at hr; split at hr; exact hr; cases hr
    obtain ⟨n, hn⟩ := runDraw_lim hrun
    obtain ⟨q1, q2⟩ := runDraw_le (call_leL n) hn
    refine ⟨n, ?_⟩
    rw [hn, ← q2]
    rw [hrun] at hr
    exact hr

theorem execL_skip : execL C fi .skip e s = some (.normal, e, s) := execL_iff.2 ⟨1, rfl⟩
theorem execL_exit {id : Nat} : execL C fi (.exit id) e s = some (.exit id, e, s) := execL_iff.2 ⟨1, rfl⟩
theorem execL_ret : execL C fi .ret e s = some (.ret, e, s) := execL_iff.2 ⟨1, rfl⟩
theorem execL_region {id : Nat} {ops : Array Oper} {draw : Bool} : execL C fi (.region id ops draw) e s = match runReg C (callL C) fi id ops draw e s with
    | some (e', s') => some (.normal, liveE fi id e', s')
    | none => none := by
  apply Option.ext
  intro out
  rw [execL_iff]
  constructor
  · rintro ⟨n, hn⟩
    cases n with
    | zero => simp [exec] at hn
    | succ n =>
      simp only [exec] at hn
      split at hn
      · rename_i e1 s1 h1
        rw [runReg_le (call_leL (n + 1)) h1]
        exact hn
      · cases hn
  · intro h
    split at h
    · rename_i e1 s1 h1
      obtain ⟨n, hn⟩ := runReg_lim h1
      refine ⟨n + 1, ?_⟩
      simp only [exec, runReg_le (call_le (Nat.le_succ n)) hn]
      exact h
    · cases h
theorem execL_seq {a b : Code} : execL C fi (.seq a b) e s = match execL C fi a e s with
    | some (.normal, e', s') => execL C fi b e' s'
    | r => r := by
  apply Option.ext
  intro out
  rw [execL_iff]
  constructor
  · rintro ⟨n, hn⟩
    cases n with
    | zero => simp [exec] at hn
    | succ n =>
      simp only [exec] at hn
      cases ha : exec C (call C (n + 1)) fi n a e s with
      | none => rw [ha] at hn; cases hn
      | some x =>
        rw [execL_iff.2 ⟨n + 1, exec_le (CalLe.refl _) (Nat.le_succ n) ha⟩]
        rw [ha] at hn
        obtain ⟨ex, e1, s1⟩ := x
        cases ex with
        | normal => exact execL_iff.2 ⟨n + 1, exec_le (CalLe.refl _) (Nat.le_succ n) hn⟩
        | exit id => exact hn
        | ret => exact hn
  · intro h
    cases ha : execL C fi a e s with
    | none => rw [ha] at h; cases h
    | some x =>
      rw [ha] at h
      obtain ⟨n, hn⟩ := execL_iff.1 ha
      obtain ⟨ex, e1, s1⟩ := x
      cases ex with
      | normal =>
        obtain ⟨m, hm⟩ := execL_iff.1 h
        refine ⟨max n m + 1, ?_⟩
        simp only [exec]
        rw [exec_le (call_le (Nat.le_succ_of_le (Nat.le_max_left n m))) (Nat.le_max_left n m) hn]
        exact exec_le (call_le (Nat.le_succ_of_le (Nat.le_max_right n m))) (Nat.le_max_right n m) hm
      | exit id => exact ⟨n + 1, by simp only [exec]; rw [exec_le (call_le (Nat.le_succ n)) (Nat.le_refl n) hn]; exact h⟩
      | ret => exact ⟨n + 1, by simp only [exec]; rw [exec_le (call_le (Nat.le_succ n)) (Nat.le_refl n) hn]; exact h⟩
theorem execL_cond {x : Operand} {a b : Code} : execL C fi (.cond x a b) e s = match opnd C e x with
    | some (.bool t) => execL C fi (if t then a else b) e s
    | _ => none := by
  apply Option.ext
  intro out
  rw [execL_iff]
  constructor
  · rintro ⟨n, hn⟩
    cases n with
    | zero => simp [exec] at hn
    | succ n =>
      simp only [exec] at hn
      split at hn
      · rename_i t ht
        simp only [ht]
        exact execL_iff.2 ⟨n + 1, exec_le (CalLe.refl _) (Nat.le_succ n) hn⟩
      · cases hn
  · intro h
    split at h
    · rename_i t ht
      obtain ⟨n, hn⟩ := execL_iff.1 h
      exact ⟨n + 1, by simp only [exec, ht]; exact exec_le (call_le (Nat.le_succ n)) (Nat.le_refl n) hn⟩
    · cases h
theorem execL_block {id : Nat} {b : Code} : execL C fi (.block id b) e s = match execL C fi b e s with
    | some (.exit j, e', s') => if j = id then some (.normal, e', s') else some (.exit j, e', s')
    | r => r := by
  apply Option.ext
  intro out
  rw [execL_iff]
  constructor
  · rintro ⟨n, hn⟩
    cases n with
    | zero => simp [exec] at hn
    | succ n =>
      simp only [exec] at hn
      cases ha : exec C (call C (n + 1)) fi n b e s with
      | none => rw [ha] at hn; cases hn
      | some x =>
        rw [execL_iff.2 ⟨n + 1, exec_le (CalLe.refl _) (Nat.le_succ n) ha⟩]
        rw [ha] at hn
        exact hn
  · intro h
    cases ha : execL C fi b e s with
    | none => rw [ha] at h; cases h
    | some x =>
      rw [ha] at h
      obtain ⟨n, hn⟩ := execL_iff.1 ha
      exact ⟨n + 1, by simp only [exec]; rw [exec_le (call_le (Nat.le_succ n)) (Nat.le_refl n) hn]; exact h⟩
theorem execL_loop {b : Code} : execL C fi (.loop b) e s = match execL C fi b e s with
    | some (.normal, e', s') => execL C fi (.loop b) e' s'
    | r => r := by
  apply Option.ext
  intro out
  rw [execL_iff]
  constructor
  · rintro ⟨n, hn⟩
    cases n with
    | zero => simp [exec] at hn
    | succ n =>
      simp only [exec] at hn
      cases ha : exec C (call C (n + 1)) fi n b e s with
      | none => rw [ha] at hn; cases hn
      | some x =>
        rw [execL_iff.2 ⟨n + 1, exec_le (CalLe.refl _) (Nat.le_succ n) ha⟩]
        rw [ha] at hn
        obtain ⟨ex, e1, s1⟩ := x
        cases ex with
        | normal => exact execL_iff.2 ⟨n + 1, exec_le (CalLe.refl _) (Nat.le_succ n) hn⟩
        | exit id => exact hn
        | ret => exact hn
  · intro h
    cases ha : execL C fi b e s with
    | none => rw [ha] at h; cases h
    | some x =>
      rw [ha] at h
      obtain ⟨n, hn⟩ := execL_iff.1 ha
      obtain ⟨ex, e1, s1⟩ := x
      cases ex with
      | normal =>
        obtain ⟨m, hm⟩ := execL_iff.1 h
        refine ⟨max n m + 1, ?_⟩
        simp only [exec]
        rw [exec_le (call_le (Nat.le_succ_of_le (Nat.le_max_left n m))) (Nat.le_max_left n m) hn]
        exact exec_le (call_le (Nat.le_succ_of_le (Nat.le_max_right n m))) (Nat.le_max_right n m) hm
      | exit id => exact ⟨n + 1, by simp only [exec]; rw [exec_le (call_le (Nat.le_succ n)) (Nat.le_refl n) hn]; exact h⟩
      | ret => exact ⟨n + 1, by simp only [exec]; rw [exec_le (call_le (Nat.le_succ n)) (Nat.le_refl n) hn]; exact h⟩

/-- A body, from its code's end on. -/
def finish (C : Cfg) (fi : FnI) (base : Nat) : Option (Ex × Env × St) → Option (V × St)
  | some (.exit _, _, _) | none => none
  | some (_, e, s') => match results C fi e s' with
    | some r => some (r, if fi.keep then s' else s'.killVars base)
    | none => none
theorem callL_eq {f : FuncId} {args : List V} {b : Code} (hi : C.intr f = none) (hf : C.fn f = some fi) (hb : fi.fn.body = some b) : callL C f args s = finish C fi s.nxt (execL C fi b (enumE 0 args) s) := by
  apply Option.ext
  intro out
  rw [callL_iff]
  have hbody : ∀ n, body C (call C n) fi n args s = finish C fi s.nxt (exec C (call C n) fi n b (enumE 0 args) s) := by
    intro n
    unfold body finish
    rw [hb]
    simp only
    cases h : exec C (call C n) fi n b (enumE 0 args) s with
    | none => rfl
    | some x => obtain ⟨ex, e1, s1⟩ := x; cases ex <;> rfl
  constructor
  · rintro ⟨n, hn⟩
    cases n with
    | zero => simp [call] at hn
    | succ n =>
      simp only [call, hi, hf, hbody] at hn
      cases ha : exec C (call C n) fi n b (enumE 0 args) s with
      | none => rw [ha] at hn; cases hn
      | some x => rw [execL_iff.2 ⟨n, ha⟩]; rw [ha] at hn; exact hn
  · intro h
    cases ha : execL C fi b (enumE 0 args) s with
    | none => rw [ha] at h; cases h
    | some x =>
      rw [ha] at h
      obtain ⟨n, hn⟩ := execL_iff.1 ha
      exact ⟨n + 1, by simp only [call, hi, hf, hbody, hn]; exact h⟩
theorem callL_intr {f : FuncId} {args : List V} {g : List V → St → Option (V × St)} (hi : C.intr f = some g) : callL C f args s = g args s := by
  apply Option.ext
  intro out
  rw [callL_iff]
  constructor
  · rintro ⟨n, hn⟩
    cases n with
    | zero => simp [call] at hn
    | succ n => simpa only [call, hi] using hn
  · intro h
    exact ⟨1, by simpa only [call, hi] using h⟩

/-- What the equations say of a call, the machine does. -/
theorem callL_sound {P : Program} (hC : CfgOk C P) (hI : IntrOk C P) : Sound C P (callL C) := by
  intro f args s r s' h
  obtain ⟨n, hn⟩ := callL_iff.1 h
  exact call_sound hC hI n f args s r s' hn
end
end Go.Ilv
