/- Regions of open order in which operations may meet: looked at while they run. -/
import Derived.Test.YtdofkchhdckomaaIlvEval
set_option linter.unusedVariables false
set_option linter.unusedSimpArgs false
namespace Go.Ilv
open Go

section
variable (C : Cfg) (cal : Callee) (fi : FnI)
def footW (eff : Eff) : List Nat := match eff with
  | .none => []
  | .set i _ => [i]
def footR (o : Option V) : List Nat := match o with
  | some v => idOf v
  | none => []
def footA (o : Option (List V)) : List Nat := match o with
  | some l => l.flatMap idOf
  | none => []
/-- What an operation that calls no function touched. -/
def footP (e : Env) (op : Op) (eff : Eff) : Foot := match op with
  | .load _ x => .cells (footR (opnd C e x)) (footW eff)
  | .store _ x _ => .cells (footR (opnd C e x)) (footW eff)
  | .call { callee := .builtin .append, args, .. } => .cells (footA (opnds C e args.toList)) (footW eff)
  | _ => .cells [] (footW eff)
/-- A call, with what it touched. -/
def callFt (f : Operand) (args : Array Operand) (e : Env) (s : St) : Option (V × St × Foot) :=
  match opnd C e f, opnds C e args.toList with
  | some (.fn g cap), some xs => match C.fn g with
    | some gi => match callV cal gi.pure g (xs ++ cap) s with
      | some (r, s') => some (r, s', if gi.pure then (if (xs ++ cap).all V.flat then .cells [] [] else .top) else .call s s')
      | none => none
    | none => none
  | _, _ => none
def actF (dst : Option Nat) (id : Nat) (op : Op) (e : Env) (s : St) : Option (V × St × Foot) :=
  match op with
  | .call { callee := .value f, args, .. } => callFt C cal f args e s
  | op => (prim C (frzD fi dst) e s id op).map fun r => (r.1, r.2.on s, footP C e op r.2)
theorem act_actF (id : Nat) (o : Oper) (e : Env) (s : St) : (act C cal fi id o e s).map (fun r => (r.1, r.2.1, r.2.2.2)) = actF C cal fi o.dst id o.op e s := by
  cases hg : goCall o with
  | false =>
    rw [act_plain hg]
    have : actF C cal fi o.dst id o.op e s = (prim C (frzD fi o.dst) e s id o.op).map fun r => (r.1, r.2.on s, footP C e o.op r.2) := by
      unfold actF
      split
      · rename_i h; simp [goCall, h] at hg
      · rfl
    rw [this]
    have hf : frzOf fi o = frzD fi o.dst := rfl
    rw [hf]
    cases prim C (frzD fi o.dst) e s id o.op with
    | none => rfl
    | some x =>
      obtain ⟨v, eff⟩ := x
      simp only [Option.map_some]
      have : footOf C e id o s s eff = footP C e o.op eff := by
        obtain ⟨dst, op, ty, pos, aft, gd⟩ := o
        unfold footOf footP
        cases op <;> try (cases eff <;> rfl)
        rename_i c
        obtain ⟨callee, args, ats⟩ := c
        cases callee with
        | value f => simp [goCall] at hg
        | builtin bb => cases bb <;> cases eff <;> rfl
        | _ => cases eff <;> rfl
      rw [this]
  | true =>
    obtain ⟨f, args, ats, hop⟩ := goCall_op hg
    rw [act_go hop]
    simp only [actF, hop, callFt]
    split
    · rename_i g cap xs h1 h2
      simp only [h1, h2]
      split
      · rename_i gi hgi
        simp only [hgi]
        cases callV cal gi.pure g (xs ++ cap) s with
        | none => rfl
        | some x => rfl
      · rename_i hgi; simp only [hgi]; rfl
    · rename_i hne
      split
      · rename_i g cap xs h1 h2; exact absurd h2 (hne g cap xs h1)
      · rfl

def runDF (n0 : Nat) : List Ins → Nat → Env → St → List (Nat × Foot) → Option (Env × St × List (Nat × Foot))
  | [], _, e, s, fs => some (e, s, fs)
  | i :: r, k, e, s, fs => match wantedI i.guard e with
    | some true => match actF C cal fi i.dst (n0 + k) i.op e s with
      | some (v, s', ft) => runDF n0 r (k + 1) (putE e i.dst v) s' (fs ++ [(k, ft)])
      | none => none
    | some false => runDF n0 r (k + 1) (putE e i.dst .undef) s (fs ++ [(k, .cells [] [])])
    | none => none

/-- The walk with its feet, told by the plain one. -/
theorem stepOp_insF {ops : Array Oper} {i : Nat} {o : Oper} (ho : ops[i]? = some o) (id : Nat) (e : Env) (s : St) : (stepOp C cal fi ops id i e s).map (fun r => (r.1, r.2.1, r.2.2.2)) = match wantedI (ins ops o).guard e with
    | some true => match actF C cal fi o.dst id o.op e s with
      | some (v, s', ft) => some (putE e o.dst v, s', ft)
      | none => none
    | some false => some (putE e o.dst .undef, s, .cells [] [])
    | none => none := by
  unfold stepOp
  rw [ho]
  simp only [wanted_ins]
  cases wantedI (ins ops o).guard e with
  | none => rfl
  | some b =>
    cases b with
    | false => rfl
    | true =>
      rw [← act_actF]
      cases act C cal fi id o e s with
      | none => rfl
      | some x => rfl
theorem runDraw_runDF (ops : Array Oper) (n0 : Nat) : ∀ (m n : Nat) (e : Env) (s : St) (fs : List (Nat × Foot)), ops.size - n = m →
    runDF C cal fi n0 ((ops.toList.drop n).map (ins ops)) n e s fs = (runDraw C cal fi ops n0 (List.range' n m) e s).map fun r => (r.1, r.2, fs ++ feet C cal fi ops n0 (List.range' n m) e s) := by
  intro m
  induction m with
  | zero =>
    intro n e s fs hm
    rw [List.drop_eq_nil_of_le (by simp; omega)]
    simp [runDF, runDraw, feet]
  | succ m ih =>
    intro n e s fs hm
    have hn : n < ops.size := by omega
    have hd : ops.toList.drop n = ops[n] :: ops.toList.drop (n + 1) := by
      rw [List.drop_eq_getElem_cons (by simpa using hn)]; simp
    rw [hd]
    simp only [List.range'_succ, List.map_cons, runDraw, runDF, feet]
    have hs := stepOp_insF C cal fi (i := n) (Array.getElem?_eq_getElem hn) (n0 + n) e s
    have e1 : (ins ops ops[n]).dst = ops[n].dst := rfl
    have e2 : (ins ops ops[n]).op = ops[n].op := rfl
    rw [e1, e2]
    cases hw : wantedI (ins ops ops[n]).guard e with
    | none =>
      rw [hw] at hs
      cases hst : stepOp C cal fi ops (n0 + n) n e s with
      | none => rfl
      | some x => rw [hst] at hs; cases hs
    | some b =>
      rw [hw] at hs
      cases b with
      | false =>
        simp only at hs ⊢
        cases hst : stepOp C cal fi ops (n0 + n) n e s with
        | none => rw [hst] at hs; cases hs
        | some x =>
          rw [hst] at hs
          obtain ⟨a, b, c, d⟩ := x
          simp at hs
          obtain ⟨rfl, rfl, rfl⟩ := hs
          simp only
          rw [ih (n + 1) _ _ _ (by omega)]
          simp
      | true =>
        simp only at hs ⊢
        cases ha : actF C cal fi ops[n].dst (n0 + n) ops[n].op e s with
        | none =>
          rw [ha] at hs
          cases hst : stepOp C cal fi ops (n0 + n) n e s with
          | none => rfl
          | some x => rw [hst] at hs; cases hs
        | some y =>
          rw [ha] at hs
          cases hst : stepOp C cal fi ops (n0 + n) n e s with
          | none => rw [hst] at hs; cases hs
          | some x =>
            rw [hst] at hs
            obtain ⟨a, b, c, d⟩ := x
            obtain ⟨v, s', b'⟩ := y
            simp at hs
            obtain ⟨rfl, rfl, rfl⟩ := hs
            simp only
            rw [ih (n + 1) _ _ _ (by omega)]
            simp
end
end Go.Ilv
