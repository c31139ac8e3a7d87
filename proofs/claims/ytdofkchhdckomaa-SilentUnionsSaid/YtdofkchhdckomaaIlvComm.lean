/- Two operations of no fixed order that touch nothing in common: either order comes to the same. -/
import Derived.Test.YtdofkchhdckomaaIlvLocal
set_option linter.unusedVariables false
set_option linter.unusedSimpArgs false
namespace Go.Ilv
open Go

section
variable {C : Cfg} {cal : Callee}

def effIds : Eff → List Nat
  | .none => []
  | .set i _ => [i]

theorem callV_pure {f : FuncId} {args : List V} {s : St} {r : V} {s' : St} (h : callV cal true f args s = some (r, s')) : s' = s := by
  unfold callV at h
  simp only [if_true] at h
  split at h
  · split at h
    · split at h
      · split at h
        · simp at h; exact h.2.symm
        · cases h
      · cases h
    · cases h
  · cases h
theorem flat_leaf {c : V} (h : (match c with
    | .ref .. | .ptr .. | .fn .. | .agg _ | .tup _ | .undef => false
    | _ => true) = true) (s s2 : St) (n : Nat) : reify s (n + 1) c = reify s2 (n + 1) c := by
  cases c <;> first | rfl | (simp at h)
theorem allSome_congr {α β : Type} {f g : α → Option β} : ∀ {l : List α}, (∀ x ∈ l, f x = g x) → allSome f l = allSome g l
  | [], _ => rfl
  | x :: r, h => by
    have ih := allSome_congr (l := r) fun y hy => h y (by simp [hy])
    simp only [allSome, h x (by simp), ih]
theorem reify_flat {x : V} (h : x.flat = true) (s s2 : St) (n : Nat) : reify s (n + 2) x = reify s2 (n + 2) x := by
  by_cases ha : ∃ cs, x = .agg cs
  · obtain ⟨cs, rfl⟩ := ha
    simp only [V.flat, List.all_eq_true] at h
    have : allSome (reify s (n + 1)) cs = allSome (reify s2 (n + 1)) cs := allSome_congr fun c hc => flat_leaf (h c hc) s s2 n
    rw [reify, reify]
    simp only [this]
  · cases x <;> first | rfl | exact absurd ⟨_, rfl⟩ ha | (simp [V.flat] at h)
theorem callV_flat {f : FuncId} {args : List V} (hf : args.all V.flat = true) (s s2 : St) : callV cal true f args s = (callV cal true f args s2).map fun x => (x.1, s) := by
  have h1 : allSome (reify s 40) args = allSome (reify s2 40) args := allSome_congr fun x hx => reify_flat (List.all_eq_true.1 hf x hx) s s2 38
  simp only [callV, if_true, h1, hf, Bool.true_or]
  split
  · split
    · split <;> rfl
    · rfl
  · rfl

theorem writes_touches {fi : FnI} {o : Oper} (h : touches o = false) : writes C fi o = false := by
  obtain ⟨dst, op, type, pos, after, guard⟩ := o
  cases op
  case call c =>
    obtain ⟨callee, args, ats⟩ := c
    cases callee with
    | builtin b => cases b <;> first | rfl | simp [touches] at h
    | _ => first | rfl | simp [touches] at h
  all_goals first | rfl | simp [touches] at h

theorem act_nowrite {fi : FnI} {id : Nat} {o : Oper} {e : Env} {s : St} {v : V} {s' : St} {b : Bool} {ft : Foot} (h : writes C fi o = false) (ha : act C cal fi id o e s = some (v, s', b, ft)) : s' = s := by
  cases hg : goCall o with
  | false =>
    rw [act_plain hg] at ha
    split at ha
    · rename_i v1 eff hp
      have := prim_nowrite h hp
      subst this
      simp at ha
      exact ha.2.1.symm
    · cases ha
  | true =>
    obtain ⟨f, args, ats, hop⟩ := goCall_op hg
    rw [act_go hop] at ha
    simp only [writes, hop] at h
    cases f with
    | func g =>
      simp only [opnd] at ha
      cases hgi : C.fn g with
      | none => simp [hgi] at h
      | some gi =>
        simp only [hgi, Bool.not_eq_false'] at h
        split at ha
        · rename_i g' cap as he1 he2
          simp only [Option.some.injEq, V.fn.injEq] at he1
          obtain ⟨rfl, rfl⟩ := he1
          rw [hgi] at ha
          simp only [h] at ha
          split at ha
          · rename_i r s1 hc
            simp at ha
            rw [← ha.2.1]
            exact callV_pure hc
          · cases ha
        · cases ha
    | _ => simp at h

theorem act_quiet {fi : FnI} {id : Nat} {o : Oper} {e : Env} {s : St} {v : V} {s' : St} {b : Bool} {ft : Foot} (h : touches o = false) (ha : act C cal fi id o e s = some (v, s', b, ft)) (s2 : St) :
    act C cal fi id o e s2 = some (v, s2, b, ft) := by
  have hg : goCall o = false := by
    cases hg : goCall o with
    | false => rfl
    | true =>
      obtain ⟨f, args, ats, hop⟩ := goCall_op hg
      simp [touches, hop] at h
  rw [act_plain hg] at ha ⊢
  rw [prim_quiet (s2 := s2) h] at ha
  split at ha
  · rename_i v1 eff hp
    have := prim_nowrite (writes_touches (fi := fi) (C := C) h) hp
    subst this
    simp at ha ⊢
    obtain ⟨h1, h2, h3, h4⟩ := ha
    refine ⟨h1, rfl, h3, ?_⟩
    rw [← h4]
    obtain ⟨dst, op, type, pos, after, guard⟩ := o
    cases op
    case call c =>
      obtain ⟨callee, args, ats⟩ := c
      cases callee with
      | builtin b => cases b <;> first | rfl | simp [touches] at h
      | value f => simp [touches] at h
      | invoke r m => rfl
    all_goals first | rfl | (simp [touches] at h)
  · cases ha

theorem rd_local {s s2 : St} {p : V} (h : ∀ i ∈ idOf p, s2.get i = s.get i) (n : Nat) : rd s2 p n = rd s p n := by
  cases p <;> first | rfl | (rename_i id ver idx off; simp only [rd, h id (by simp [idOf])])
theorem elems_local {s s2 : St} {p : V} (h : ∀ i ∈ idOf p, s2.get i = s.get i) : elems s2 p = elems s p := by
  cases p <;> first | rfl | (rename_i id ver sz off len; simp only [elems, h id (by simp [idOf])])

/-- What an operation says hangs on the objects of its foot alone. -/
theorem act_local {fi : FnI} {id : Nat} {o : Oper} {e : Env} {s : St} {v : V} {s' : St} {b : Bool} {r w : List Nat} (ha : act C cal fi id o e s = some (v, s', b, .cells r w)) :
    ∃ eff, s' = eff.on s ∧ w = effIds eff ∧ ∀ s2 : St, (∀ i ∈ r, s2.get i = s.get i) → act C cal fi id o e s2 = some (v, eff.on s2, b, .cells r w) := by
  cases hg : goCall o with
  | false =>
    rw [act_plain hg] at ha
    split at ha
    · rename_i v1 eff hp
      simp only [Option.some.injEq, Prod.mk.injEq] at ha
      obtain ⟨rfl, rfl, hb, hft⟩ := ha
      have hwf : ∀ s : St, footOf C e id o s s eff = .cells r w := fun s2 => by
        rw [← hft]
        obtain ⟨dst, op, type, pos, after, guard⟩ := o
        cases op
        case call c =>
          obtain ⟨callee, args, ats⟩ := c
          cases callee with
          | builtin b => cases b <;> rfl
          | value f => simp [goCall] at hg
          | invoke r m => rfl
        all_goals rfl
      refine ⟨eff, rfl, ?_, fun s2 hs2 => ?_⟩
      · obtain ⟨dst, op, type, pos, after, guard⟩ := o
        have : ∀ x y, (Foot.cells x y = .cells r w) → y = w := fun x y h => by simp at h; exact h.2
        cases op
        case call c =>
          obtain ⟨callee, args, ats⟩ := c
          cases callee with
          | builtin b => cases b <;> (exact (this _ _ hft).symm.trans (by cases eff <;> rfl))
          | value f => simp [goCall] at hg
          | invoke r m => exact (this _ _ hft).symm.trans (by cases eff <;> rfl)
        all_goals exact (this _ _ hft).symm.trans (by cases eff <;> rfl)
      · rw [act_plain hg]
        have hpe : prim C (frzOf fi o) e s2 id o.op = prim C (frzOf fi o) e s id o.op := by
          obtain ⟨dst, op, type, pos, after, guard⟩ := o
          cases op
          case call c =>
            obtain ⟨callee, args, ats⟩ := c
            cases callee with
            | builtin b =>
              cases b
              case append =>
                simp only [footOf, Foot.cells.injEq] at hft
                simp only [prim]
                split
                · rename_i t u x y hx hy
                  split
                  · split
                    · have h1 : elems s2 y = elems s y := elems_local fun i hi => hs2 i (by rw [← hft.1, hy]; simp [hi])
                      simp only [appendOp, h1]
                      split
                      · split
                        · rfl
                        · split
                          · rfl
                          · rename_i rid ver sz off len
                            split
                            · rfl
                            · rw [hs2 rid (by rw [← hft.1, hy]; simp [idOf])]
                          · rfl
                      · rfl
                    · rfl
                  · rfl
                · rfl
              all_goals rfl
            | value f => simp [goCall] at hg
            | invoke r m => rfl
          case load t x =>
            simp only [footOf, Foot.cells.injEq] at hft
            simp only [prim]
            split
            · rename_i y p hy hx
              rw [rd_local (s := s) (s2 := s2) (p := p) fun i hi => hs2 i (by rw [← hft.1, hx]; exact hi)]
            · rfl
          case store t p x =>
            simp only [footOf, Foot.cells.injEq] at hft
            simp only [prim]
            split
            · rename_i y i ver idx off vx hy hp' hx
              rw [hs2 i (by rw [← hft.1, hp']; simp [idOf])]
            · rfl
          case makeFunc f first cap => cases f <;> rfl
          all_goals rfl
        rw [hpe, hp]
        simp only [Option.some.injEq, Prod.mk.injEq, true_and]
        exact ⟨hb, hwf s2⟩
    · cases ha
  | true =>
    obtain ⟨f, args, ats, hop⟩ := goCall_op hg
    rw [act_go hop] at ha
    split at ha
    · rename_i g cap as he1 he2
      split at ha
      · rename_i gi hgi
        split at ha
        · rename_i r1 s1 hc
          simp only [Option.some.injEq, Prod.mk.injEq] at ha
          obtain ⟨rfl, rfl, hb, hft⟩ := ha
          split at hft
          · rename_i hpure
            split at hft
            · rename_i hfl
              simp at hft
              obtain ⟨rfl, rfl⟩ := hft
              rw [hpure] at hc
              have hss := callV_pure hc
              subst hss
              refine ⟨.none, rfl, rfl, fun s2 _ => ?_⟩
              rw [act_go hop, he1, he2]
              simp only [hgi, hpure, callV_flat hfl s2 s1, hc, Option.map_some, if_true, hfl]
              simp [Eff.on, ← hb]
            · cases hft
          · cases hft
        · cases ha
      · cases ha
    · cases ha

mutual
theorem beq_eq : ∀ (a b : V), V.beq a b = true → a = b
  | .bool _, b, h => by cases b <;> simp [V.beq] at h; rw [h]
  | .int _ _, b, h => by cases b <;> simp [V.beq] at h; rw [h.1, h.2]
  | .str _, b, h => by cases b <;> simp [V.beq] at h; rw [h]
  | .agg a, b, h => by cases b <;> simp only [V.beq, Bool.false_eq_true] at h; rw [beqL_eq a _ h]
  | .lit a, b, h => by cases b <;> simp only [V.beq, Bool.false_eq_true] at h; rw [beqL_eq a _ h]
  | .nils, b, h => by cases b <;> simp [V.beq] at h; rfl
  | .ref _ _ _ _ _, b, h => by cases b <;> simp [V.beq] at h; obtain ⟨⟨⟨⟨rfl, rfl⟩, rfl⟩, rfl⟩, rfl⟩ := h; rfl
  | .ptr _ _ _ _, b, h => by cases b <;> simp [V.beq] at h; obtain ⟨⟨⟨rfl, rfl⟩, rfl⟩, rfl⟩ := h; rfl
  | .cptr a, b, h => by cases b <;> simp only [V.beq, Bool.false_eq_true] at h; rw [beqL_eq a _ h]
  | .pnil, b, h => by cases b <;> simp [V.beq] at h; rfl
  | .fn f a, b, h => by
    cases b <;> simp only [V.beq, Bool.false_eq_true, Bool.and_eq_true, decide_eq_true_eq] at h
    rw [h.1, beqL_eq a _ h.2]
  | .tup a, b, h => by cases b <;> simp only [V.beq, Bool.false_eq_true] at h; rw [beqL_eq a _ h]
  | .undef, b, h => by cases b <;> simp [V.beq] at h; rfl
theorem beqL_eq : ∀ (a b : List V), V.beqL a b = true → a = b
  | [], b, h => by cases b <;> simp [V.beqL] at h; rfl
  | x :: r, b, h => by
    cases b <;> simp only [V.beqL, Bool.false_eq_true, Bool.and_eq_true] at h
    rw [beq_eq x _ h.1, beqL_eq r _ h.2]
end

theorem sameObj_eq {a b : Option Obj} (h : sameObj a b = true) : a = b := by
  cases a with
  | none => cases b with
    | none => rfl
    | some b => simp [sameObj] at h
  | some a => cases b with
    | none => simp [sameObj] at h
    | some b =>
      obtain ⟨a1, a2, a3, a4⟩ := a
      obtain ⟨b1, b2, b3, b4⟩ := b
      simp only [sameObj, Bool.and_eq_true, decide_eq_true_eq, beq_iff_eq] at h
      obtain ⟨⟨⟨h1, h2⟩, h3⟩, h4⟩ := h
      subst h1; subst h2; subst h3
      have := beqL_eq _ _ h4
      have e : a4 = b4 := by
        apply List.ext_getElem?
        intro i
        have h5 := congrArg (·[i]?) this
        simp only [List.getElem?_map] at h5
        cases ha : a4[i]? <;> cases hb : b4[i]? <;> simp [ha, hb] at h5 ⊢
        exact h5
      rw [e]

theorem eff_get_ne {eff : Eff} {s : St} {i : Nat} (h : i ∉ effIds eff) : (eff.on s).get i = s.get i := by
  cases eff with
  | none => rfl
  | set j o => exact St.get_set_ne _ _ (by simpa [effIds] using h)
theorem eff_comm {a b : Eff} {s : St} (h : ∀ i ∈ effIds a, i ∉ effIds b) : a.on (b.on s) = b.on (a.on s) := by
  cases a with
  | none => rfl
  | set i o =>
    cases b with
    | none => rfl
    | set j q =>
      have hne : i ≠ j := by simpa [effIds] using h i (by simp [effIds])
      simp only [Eff.on, St.set]
      congr 1
      exact aset_comm _ _ _ (Ne.symm hne)
theorem apartL_spec {a b : List Nat} (h : apartL a b = true) : ∀ i ∈ a, i ∉ b := by
  intro i hi hb
  have := List.all_eq_true.1 h i hi
  simp [hb] at this

theorem act_callFoot {fi : FnI} {id : Nat} {o : Oper} {e : Env} {s s' : St} {v : V} {b : Bool} {sa sb : St} (h : act C cal fi id o e s = some (v, s', b, .call sa sb)) : s = sa ∧ s' = sb := by
  cases hg : goCall o with
  | false =>
    rw [act_plain hg] at h
    split at h
    · rename_i hp
      clear hp
      simp only [Option.some.injEq, Prod.mk.injEq] at h
      obtain ⟨_, _, _, hft⟩ := h
      obtain ⟨dst, op, type, pos, after, guard⟩ := o
      cases op
      case call c =>
        obtain ⟨callee, args, ats⟩ := c
        cases callee with
        | builtin b => cases b <;> (simp only [footOf] at hft; cases hft)
        | value f => simp [goCall] at hg
        | invoke r m => simp only [footOf] at hft; cases hft
      all_goals (simp only [footOf] at hft; cases hft)
    · cases h
  | true =>
    obtain ⟨f, args, ats, hop⟩ := goCall_op hg
    rw [act_go hop] at h
    split at h
    · split at h
      · split at h
        · simp only [Option.some.injEq, Prod.mk.injEq] at h
          obtain ⟨_, rfl, _, hft⟩ := h
          split at hft
          · split at hft <;> cases hft
          · simp at hft; exact hft
        · cases h
      · cases h
    · cases h

/-- The two acts, one behind the other: exchanged. -/
theorem act_swap {fi : FnI} {i j : Nat} {x y : Oper} {e : Env} {s s1 s2 : St} {v u : V} {b c : Bool} {f g : Foot} (h1 : act C cal fi i x e s = some (v, s1, b, f)) (h2 : act C cal fi j y e s1 = some (u, s2, c, g))
    (hi : (touches x && touches y && (writes C fi x || writes C fi y)) = true → f.indep g = true) :
    ∃ s1', act C cal fi j y e s = some (u, s1', c, g) ∧ act C cal fi i x e s1' = some (v, s2, b, f) := by
  cases hx : touches x with
  | false =>
    have e1 := act_nowrite (writes_touches hx) h1
    subst e1
    exact ⟨s2, h2, act_quiet hx h1 s2⟩
  | true =>
    cases hy : touches y with
    | false =>
      have e2 := act_nowrite (writes_touches hy) h2
      subst e2
      exact ⟨s, act_quiet hy h2 s, h1⟩
    | true =>
      by_cases hw : (writes C fi x || writes C fi y) = true
      · have hind := hi (by simp [hx, hy]; simpa using hw)
        match f, g, hind, h1, h2 with
        | .cells r w, .cells r' w', hind, h1, h2 =>
          simp only [Foot.indep, Bool.and_eq_true] at hind
          obtain ⟨⟨p1, p2⟩, p3⟩ := hind
          obtain ⟨ef, q1, q2, q3⟩ := act_local h1
          obtain ⟨eg, r1, r2, r3⟩ := act_local h2
          refine ⟨eg.on s, r3 s fun i hi => ?_, ?_⟩
          · rw [q1]
            exact (eff_get_ne (by rw [← q2]; exact fun h => apartL_spec p1 i h hi)).symm
          · have := q3 (eg.on s) fun i hi => eff_get_ne (by rw [← r2]; exact fun h => apartL_spec p3 i h hi)
            rw [eff_comm (fun i h1 h2 => apartL_spec p2 i (by rw [q2]; exact h1) (by rw [r2]; exact h2)), ← q1, ← r1] at this
            exact this
        | .cells r [], .call sa sb, hind, h1, h2 =>
          simp only [Foot.indep, List.all_eq_true] at hind
          obtain ⟨ef, q1, q2, q3⟩ := act_local h1
          have hef : ef = .none := by cases ef <;> simp [effIds] at q2 ⊢
          subst hef
          obtain ⟨e1, e2⟩ := act_callFoot h2
          have q1' : s1 = s := q1
          rw [q1'] at h2
          refine ⟨s2, h2, q3 s2 fun i hi => ?_⟩
          have := sameObj_eq (hind i hi)
          rw [← e1, ← e2, q1'] at this
          exact this.symm
        | .call sa sb, .cells r [], hind, h1, h2 =>
          simp only [Foot.indep, List.all_eq_true] at hind
          obtain ⟨eg, r1, r2, r3⟩ := act_local h2
          have heg : eg = .none := by cases eg <;> simp [effIds] at r2 ⊢
          subst heg
          obtain ⟨e1, e2⟩ := act_callFoot h1
          have r1' : s2 = s1 := r1
          rw [r1']
          refine ⟨s, r3 s fun i hi => ?_, h1⟩
          have := sameObj_eq (hind i hi)
          rw [← e1, ← e2] at this
          exact this
        | .cells r (_ :: _), .call sa sb, hind, _, _ => simp [Foot.indep] at hind
        | .call sa sb, .cells r (_ :: _), hind, _, _ => simp [Foot.indep] at hind
        | .call _ _, .call _ _, hind, _, _ => simp [Foot.indep] at hind
        | .top, .top, hind, _, _ => simp [Foot.indep] at hind
        | .top, .call _ _, hind, _, _ => simp [Foot.indep] at hind
        | .top, .cells _ _, hind, _, _ => simp [Foot.indep] at hind
        | .cells _ _, .top, hind, _, _ => simp [Foot.indep] at hind
        | .call _ _, .top, hind, _, _ => simp [Foot.indep] at hind
      · have hw' : writes C fi x = false ∧ writes C fi y = false := by simpa using hw
        have e1 := act_nowrite hw'.1 h1
        subst e1
        have e2 := act_nowrite hw'.2 h2
        subst e2
        exact ⟨_, h2, h1⟩
end
end Go.Ilv
