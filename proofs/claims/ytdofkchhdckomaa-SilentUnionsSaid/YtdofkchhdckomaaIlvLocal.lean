/- What an operation of the evaluator's hangs on: its operands, and the objects that it touched. -/
import Derived.Test.YtdofkchhdckomaaIlvSeq
set_option linter.unusedVariables false
set_option linter.unusedSimpArgs false
namespace Go.Ilv
open Go

section
variable {C : Cfg} {cal : Callee}

theorem opnd_congr {e e' : Env} {x : Operand} (h : ∀ t, x = .tmp t → aget e t = aget e' t) : opnd C e x = opnd C e' x := by
  cases x with
  | tmp t => exact h t rfl
  | _ => rfl
theorem opnds_congr {e e' : Env} : ∀ {l : List Operand}, (∀ x ∈ l, opnd C e x = opnd C e' x) → opnds C e l = opnds C e' l
  | [], _ => rfl
  | x :: r, h => by
    have ih := opnds_congr (l := r) fun y hy => h y (by simp [hy])
    simp only [opnds, h x (by simp), ih]
theorem popnds_congr {e e' : Env} : ∀ {l : List (Nat × Operand)}, (∀ x ∈ l, opnd C e x.2 = opnd C e' x.2) → popnds C e l = popnds C e' l
  | [], _ => rfl
  | (i, x) :: r, h => by
    have ih := popnds_congr (l := r) fun y hy => h y (by simp [hy])
    simp only [popnds, h (i, x) (by simp), ih]
theorem oopnd_congr {e e' : Env} {x : Option Operand} (h : ∀ y ∈ x.toArray, opnd C e y = opnd C e' y) : oopnd C e x = oopnd C e' x := by
  cases x with
  | none => rfl
  | some y => simp only [oopnd, h y (by simp)]

theorem prim_congr {e e' : Env} {frz : Bool} {s : St} {id : Nat} {op : Op} (h : ∀ x ∈ op.operands, opnd C e x = opnd C e' x) : prim C frz e s id op = prim C frz e' s id op := by
  cases op
  case call c =>
    obtain ⟨callee, args, ats⟩ := c
    cases callee with
    | builtin b =>
      have ha : opnds C e args.toList = opnds C e' args.toList := opnds_congr fun x hx => h x (by simp [Op.operands, Call.operands]; simpa using hx)
      cases b <;> simp only [prim, ha]
    | _ => rfl
  case build t ps => 
    have ha : popnds C e ps.toList = popnds C e' ps.toList := popnds_congr fun x hx => h x.2 (by simp [Op.operands]; exact ⟨x.1, by simpa using hx⟩)
    simp only [prim, ha]
  case buildSlice t n ps =>
    have ha : popnds C e ps.toList = popnds C e' ps.toList := popnds_congr fun x hx => h x.2 (by simp [Op.operands]; exact ⟨x.1, by simpa using hx⟩)
    simp only [prim, ha]
  case makeFunc f first cap =>
    have ha : opnds C e cap.toList = opnds C e' cap.toList := opnds_congr fun x hx => h x (by simp [Op.operands]; exact .inr (by simpa using hx))
    cases f <;> simp only [prim, ha]
  case slice t x lo hi mx =>
    have h1 : opnd C e x = opnd C e' x := h x (by simp [Op.operands])
    have h2 : oopnd C e lo = oopnd C e' lo := oopnd_congr fun y hy => h y (by simp only [Op.operands, Array.mem_append]; exact .inl (.inl (.inr hy)))
    have h3 : oopnd C e hi = oopnd C e' hi := oopnd_congr fun y hy => h y (by simp only [Op.operands, Array.mem_append]; exact .inl (.inr hy))
    have h4 : oopnd C e mx = oopnd C e' mx := oopnd_congr fun y hy => h y (by simp only [Op.operands, Array.mem_append]; exact .inr hy)
    simp only [prim, h1, h2, h3, h4]
  all_goals first
    | rfl
    | (rename_i x; have h1 : opnd C e x = opnd C e' x := h x (by simp [Op.operands]); simp only [prim, h1]; done)
    | (rename_i x _; have h1 : opnd C e x = opnd C e' x := h x (by simp [Op.operands]); simp only [prim, h1]; done)
    | (rename_i x y; have h1 : opnd C e x = opnd C e' x := h x (by simp [Op.operands]); have h2 : opnd C e y = opnd C e' y := h y (by simp [Op.operands]); simp only [prim, h1, h2]; done)
    | (rename_i x y _; have h1 : opnd C e x = opnd C e' x := h x (by simp [Op.operands]); have h2 : opnd C e y = opnd C e' y := h y (by simp [Op.operands]); simp only [prim, h1, h2]; done)
    | (rename_i x y z; have h1 : opnd C e x = opnd C e' x := h x (by simp [Op.operands]); have h2 : opnd C e y = opnd C e' y := h y (by simp [Op.operands]); have h3 : opnd C e z = opnd C e' z := h z (by simp [Op.operands]); simp only [prim, h1, h2, h3]; done)

theorem footOf_congr {e e' : Env} {id : Nat} {o : Oper} {s s' : St} {eff : Eff} (h : ∀ x ∈ o.op.operands, opnd C e x = opnd C e' x) : footOf C e id o s s' eff = footOf C e' id o s s' eff := by
  obtain ⟨dst, op, type, pos, after, guard⟩ := o
  cases op
  case call c =>
    obtain ⟨callee, args, ats⟩ := c
    cases callee with
    | builtin b =>
      have ha : opnds C e args.toList = opnds C e' args.toList := opnds_congr fun x hx => h x (by simp [Op.operands, Call.operands]; simpa using hx)
      cases b <;> simp only [footOf, ha]
    | _ => rfl
  case load t x => have h1 := h x (by simp [Op.operands]); simp only [footOf, h1]
  case store t x y => have h1 := h x (by simp [Op.operands]); simp only [footOf, h1]
  all_goals rfl

theorem act_plain {fi : FnI} {id : Nat} {o : Oper} {e : Env} {s : St} (h : goCall o = false) : act C cal fi id o e s = match prim C (frzOf fi o) e s id o.op with
    | some (v, eff) => some (v, eff.on s, (match eff with
      | .set i _ => i == id
      | .none => false), footOf C e id o s s eff)
    | none => none := by
  unfold act
  split
  · rename_i hop; simp [goCall, hop] at h
  · rfl
theorem act_go {fi : FnI} {id : Nat} {o : Oper} {e : Env} {s : St} {f : Operand} {args : Array Operand} {ats : Array TypeId} (h : o.op = .call ⟨.value f, args, ats⟩) : act C cal fi id o e s = match opnd C e f, opnds C e args.toList with
    | some (.fn g cap), some as => match C.fn g with
      | some gi => match callV cal gi.pure g (as ++ cap) s with
        | some (r, s') => some (r, s', false, if gi.pure then (if (as ++ cap).all V.flat then .cells [] [] else .top) else .call s s')
        | none => none
      | none => none
    | _, _ => none := by
  unfold act
  rw [h]
  rfl
theorem goCall_op {o : Oper} (h : goCall o = true) : ∃ f args ats, o.op = .call ⟨.value f, args, ats⟩ := by
  unfold goCall at h
  split at h
  · rename_i f args ats hop; exact ⟨f, args, ats, hop⟩
  · cases h

theorem act_congr {e e' : Env} {fi : FnI} {id : Nat} {o : Oper} {s : St} (h : ∀ x ∈ o.op.operands, opnd C e x = opnd C e' x) : act C cal fi id o e s = act C cal fi id o e' s := by
  cases hg : goCall o with
  | false => simp only [act_plain hg, prim_congr h, footOf_congr h]
  | true =>
    obtain ⟨f, args, ats, hop⟩ := goCall_op hg
    have ha : opnds C e args.toList = opnds C e' args.toList := opnds_congr fun x hx => h x (by simp [hop, Op.operands, Call.operands]; exact .inr (by simpa using hx))
    have hf := h f (by simp [hop, Op.operands, Call.operands])
    simp only [act_go hop, ha, hf]

theorem looks_op {ops : Array Oper} {o : Oper} {e e' : Env} (h : ∀ t ∈ o.looksAt ops, aget e t = aget e' t) : ∀ x ∈ o.op.operands, opnd C e x = opnd C e' x := by
  intro x hx
  refine opnd_congr fun t ht => h t ?_
  subst ht
  simp only [Oper.looksAt, List.mem_append, List.mem_filterMap]
  exact .inl ⟨.tmp t, by simpa using hx, rfl⟩
theorem looks_wanted {ops : Array Oper} {o : Oper} {e e' : Env} (h : ∀ t ∈ o.looksAt ops, aget e t = aget e' t) : wantedE ops o e = wantedE ops o e' := by
  unfold wantedE
  split
  · rfl
  · rename_i g want hg
    split
    · rfl
    · rename_i d hd
      rw [h d (by simp [Oper.looksAt, hg, hd])]

/-! ### what an operation does to the store -/
theorem sliceOfRows_frz {id sz : Nat} {xs : List V} {v : V} {eff : Eff} (h : sliceOfRows true id sz xs = some (v, eff)) : eff = .none := by
  unfold sliceOfRows at h
  split at h
  · simp only [if_true] at h
    split at h
    · simp at h; exact h.2.symm
    · cases h
  · cases h

/-- No object of the evaluator's is read or made by what does not touch memory, and the store counts for nothing there. -/
theorem prim_quiet {e : Env} {s s2 : St} {frz : Bool} {id : Nat} {o : Oper} (h : touches o = false) : prim C frz e s id o.op = prim C frz e s2 id o.op := by
  obtain ⟨dst, op, type, pos, after, guard⟩ := o
  cases op
  case call c =>
    obtain ⟨callee, args, ats⟩ := c
    cases callee with
    | builtin b => cases b <;> first | rfl | simp [touches] at h
    | _ => first | rfl | simp [touches] at h
  case load => simp [touches] at h
  case store => simp [touches] at h
  case buildSlice => simp [touches] at h
  case makeSlice => simp [touches] at h
  case box => simp [touches] at h
  case alloc => simp [touches] at h
  case makeFunc f first cap => cases f <;> rfl
  all_goals rfl

theorem q_none {x : Option V} {v : V} {eff : Eff} (h : x.map (fun v => (v, Eff.none)) = some (v, eff)) : eff = .none := by
  cases x with
  | none => simp at h
  | some x => simp at h; exact h.2.symm

/-- What does not write leaves the store. -/
theorem prim_nowrite {e : Env} {s : St} {fi : FnI} {id : Nat} {o : Oper} {v : V} {eff : Eff} (h : writes C fi o = false) (hp : prim C (frzOf fi o) e s id o.op = some (v, eff)) : eff = .none := by
  obtain ⟨dst, op, type, pos, after, guard⟩ := o
  cases op
  case call c =>
    obtain ⟨callee, args, ats⟩ := c
    cases callee with
    | builtin b =>
      cases b
      case append =>
        have hf : frzOf fi ⟨dst, .call ⟨.builtin .append, args, ats⟩, type, pos, after, guard⟩ = true := by simpa [writes] using h
        rw [hf] at hp
        simp only [prim] at hp
        split at hp
        · split at hp
          · split at hp
            · unfold appendOp at hp
              split at hp
              · split at hp
                · cases hp
                · split at hp
                  · split at hp
                    · simp at hp; exact hp.2.symm
                    · split at hp
                      · exact sliceOfRows_frz hp
                      · cases hp
                  · simp at hp
                  · cases hp
              · cases hp
            · cases hp
          · cases hp
        · cases hp
      all_goals
        simp only [prim] at hp
        first
          | (cases hp; done)
          | (split at hp <;> first | exact q_none hp | cases hp)
    | value f => simp [prim] at hp
    | invoke r m => simp [prim] at hp
  case store => simp [writes] at h
  case box => simp [writes] at h
  case alloc => simp [writes] at h
  case buildSlice t n ps =>
    have hf : frzOf fi ⟨dst, .buildSlice t n ps, type, pos, after, guard⟩ = true := by simpa [writes] using h
    rw [hf] at hp
    simp only [prim] at hp
    split at hp
    · split at hp
      · split at hp
        · split at hp
          · simp at hp; exact hp.2.symm
          · cases hp
        · split at hp
          · cases hp
          · split at hp
            · exact sliceOfRows_frz hp
            · cases hp
      · cases hp
    · cases hp
  case makeSlice t l c =>
    have hf : frzOf fi ⟨dst, .makeSlice t l c, type, pos, after, guard⟩ = true := by simpa [writes] using h
    rw [hf] at hp
    simp only [prim] at hp
    split at hp
    · split at hp
      · split at hp
        · split at hp
          · exact sliceOfRows_frz hp
          · cases hp
        · cases hp
      · cases hp
    · cases hp
  case makeFunc f first cap =>
    cases f
    case func f =>
      simp only [prim] at hp
      split at hp
      · split at hp
        · simp at hp; exact hp.2.symm
        · cases hp
      · cases hp
    all_goals (simp only [prim] at hp; cases hp)
  all_goals
    simp only [prim] at hp
    first
      | (cases hp; done)
      | exact q_none hp
      | (split at hp <;> first | exact q_none hp | (simp at hp; exact hp.2.symm) | (cases hp; done) | (split at hp <;> first | exact q_none hp | (simp at hp; exact hp.2.symm) | (cases hp; done)))
end
end Go.Ilv
