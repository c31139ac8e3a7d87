/- The operations of a region, one behind the other. -/
import Derived.Test.YtdofkchhdckomaaIlvAct
set_option linter.unusedVariables false
set_option linter.unusedSimpArgs false
namespace Go.Ilv
open Go

section
variable {C : Cfg} {P : Program} {gl : Nat → Option (List V)} {K : Ctx} {s : St} {w w' : World} {e : Env} {a : Act} {cal : Callee}

/-- The state of a body: store, slots, no deferred calls. -/
structure SRel (C : Cfg) (N : Nat) (K : Ctx) (s : St) (w : World) (e : Env) (a : Act) : Prop where
  rel : RelW C.glob K s w
  al : ∀ j, K.al j → j < s.nxt
  env : ERel K w e a
  size : N ≤ a.tmps.size
  defers : a.defers = []

theorem put_size (a : Act) (dst : Option Tmp) (u : Value) : (a.put dst u).tmps.size = a.tmps.size := by cases dst <;> simp [Act.put]
theorem put_defers' (a : Act) (dst : Option Tmp) (u : Value) : (a.put dst u).defers = a.defers := by cases dst <;> rfl

theorem ERel.put {K' : Ctx} (h : ERel K w e a) {dst : Option Nat} {v : V} {u : Value} (hv : VRel K w v u) (hd : ∀ d, dst = some d → d < a.tmps.size) : ERel K w (putE e dst v) (a.put dst u) := by
  cases dst with
  | none => exact h
  | some d =>
    intro t x hx
    simp only [putE] at hx
    by_cases ht : t = d
    · subst ht
      rw [aget_aset_self] at hx
      obtain rfl := Option.some.inj hx
      exact ⟨u, by simp [Act.put, hd t rfl], hv⟩
    · rw [aget_aset_ne _ _ ht] at hx
      obtain ⟨u', h1, h2⟩ := h t x hx
      exact ⟨u', by simp [Act.put, Array.getElem?_setIfInBounds_ne (Ne.symm ht), h1], h2⟩

theorem wanted_rel (he : ERel K w e a) {ops : Array Oper} {o : Oper} {b : Bool} (h : wantedE ops o e = some b) : Region.wanted o (yielded ops a.tmps) = b := by
  unfold wantedE at h
  unfold Region.wanted
  split at h
  · rename_i hg
    simp at h; subst h
    rw [hg]
  · rename_i g want hg
    rw [hg]
    simp only
    split at h
    · cases h
    · rename_i d hd
      split at h
      · rename_i x hx
        simp at h; subst h
        obtain ⟨u, h1, h2⟩ := he d _ hx
        cases h2
        simp only [yielded, hd, Option.bind_some, h1]
        cases x <;> cases want <;> rfl
      · rename_i hx
        simp at h; subst h
        obtain ⟨u, h1, h2⟩ := he d _ hx
        cases h2
        simp only [yielded, hd, Option.bind_some, h1, Go.undef]
        rfl
      · cases h

/-- One operation, wanted or not. -/
theorem stepOp_rel (hC : CfgOk C P) (hcal : Sound C P cal) {N : Nat} (hs : SRel C N K s w e a) {fi : FnI} {ops : Array Oper} {id i : Nat} (hid : ¬ K.al id) (hdst : ∀ (o : Oper) (d : Nat), ops[i]? = some o → o.dst = some d → d < N) {e' : Env} {s' : St} {b : Bool} {ft : Foot}
    (h : stepOp C cal fi ops id i e s = some (e', s', b, ft)) {next : Act → World → Prop} {Q : Exit → Act → World → Prop}
    (hnext : ∀ K' w' a', Stp K w K' w' → RelW C.glob K' s' w' → ERel K' w' e' a' → N ≤ a'.tmps.size → a'.defers = [] → (∀ j, K'.al j → K.al j ∨ ((∃ o, ops[i]? = some o ∧ makes fi o = true) ∧ b = true ∧ j = id) ∨ (s.nxt ≤ j ∧ j < s'.nxt)) → s.nxt ≤ s'.nxt → next a' w') :
    wpOp P ops Q i next a w := by
  unfold stepOp at h
  unfold wpOp
  split at h
  · rename_i hop
    simp at h
    obtain ⟨rfl, rfl, rfl, _⟩ := h
    rw [hop]
    exact hnext K w a (Stp.refl _ _) hs.rel hs.env hs.size hs.defers (fun j h => .inl h) (Nat.le_refl _)
  · rename_i o hop
    rw [hop]
    simp only
    have hd : ∀ d, o.dst = some d → d < a.tmps.size := fun d h => Nat.lt_of_lt_of_le (hdst o d hop h) hs.size
    split at h
    · rename_i hw
      rw [wanted_rel hs.env hw, if_pos rfl]
      split at h
      · rename_i v s1 b1 ft1 hact
        simp at h
        obtain ⟨rfl, rfl, rfl, _⟩ := h
        refine .inl (act_rel hC hcal hs.rel hs.al hs.env hid hact fun K' w' u g1 g2 g3 g4 g5 => ?_)
        exact hnext K' w' _ g1 g2 ((hs.env.mono g1).put (K' := K') g3 hd) (by rw [put_size]; exact hs.size) (by rw [put_defers']; exact hs.defers) (fun j hj => (g4 j hj).imp_right fun h => h.imp_left fun h => ⟨⟨o, hop, h.1⟩, h.2⟩) g5
      · cases h
    · rename_i hw
      rw [wanted_rel hs.env hw]
      simp only [Bool.false_eq_true, if_false]
      simp at h
      obtain ⟨rfl, rfl, rfl, _⟩ := h
      exact hnext K w _ (Stp.refl _ _) hs.rel (hs.env.put (K' := K) .undef hd) (by rw [put_size]; exact hs.size) (by rw [put_defers']; exact hs.defers) (fun j h => .inl h) (Nat.le_refl _)
    · cases h

/-- What stands behind a piece of code. -/
def After (C : Cfg) (N : Nat) (K : Ctx) (s : St) (w : World) (e' : Env) (s' : St) (R : Act → World → Prop) : Prop :=
  ∀ K' w' a', Stp K w K' w' → SRel C N K' s' w' e' a' → (∀ j, K'.al j → K.al j ∨ (s.nxt ≤ j ∧ j < s'.nxt)) → s.nxt ≤ s'.nxt → R a' w'

theorem runSeq_rel (hC : CfgOk C P) (hcal : Sound C P cal) {N : Nat} {fi : FnI} {ops : Array Oper} (hdst : ∀ (i : Nat) (o : Oper) (d : Nat), ops[i]? = some o → o.dst = some d → d < N) {Q : Exit → Act → World → Prop} :
    ∀ (l : List Nat) {K : Ctx} {s : St} {w : World} {e : Env} {a : Act} {e' : Env} {s' : St}, SRel C N K s w e a → runSeq C cal fi ops l e s = some (e', s') → After C N K s w e' s' (Q .normal) → wpOps P ops Q l a w
  | [], K, s, w, e, a, e', s', hs, h, hQ => by
    simp [runSeq] at h
    obtain ⟨rfl, rfl⟩ := h
    exact hQ K w a (Stp.refl _ _) hs (fun j h => .inl h) (Nat.le_refl _)
  | i :: r, K, s, w, e, a, e', s', hs, h, hQ => by
    simp only [runSeq] at h
    split at h
    · rename_i e1 s1 b ft hst
      rw [wpOps_cons]
      refine stepOp_rel hC hcal hs (fun h => Nat.lt_irrefl _ (hs.al _ h)) (fun o d => hdst i o d) hst fun K' w' a' g1 g2 g3 g4 g5 g6 g7 => ?_
      have hs' : SRel C N K' (if b then { s1 with nxt := s1.nxt + 1 } else s1) w' e1 a' := by
        refine ⟨?_, fun j hj => ?_, g3, g4, g5⟩
        · cases b with
          | false => exact g2
          | true => exact { obj := g2.obj, dom := g2.dom, al := g2.al, inj := g2.inj, X := g2.X, Xlt := g2.Xlt, glob := g2.glob }
        · rcases g6 j hj with h1 | ⟨_, rfl, rfl⟩ | ⟨h1, h2⟩
          · have := hs.al j h1
            cases b <;> simp <;> omega
          · simp; omega
          · cases b <;> simp <;> omega
      refine runSeq_rel hC hcal hdst r hs' h fun K2 w2 a2 q1 q2 q3 q4 => hQ K2 w2 a2 (g1.trans q1) q2 (fun j hj => ?_) (by cases b <;> simp at q4 <;> omega)
      rcases q3 j hj with h1 | ⟨h1, h2⟩
      · rcases g6 j h1 with h3 | ⟨_, rfl, rfl⟩ | ⟨h3, h4⟩
        · exact .inl h3
        · simp at q4
          exact .inr ⟨Nat.le_refl _, by omega⟩
        · refine .inr ⟨h3, ?_⟩
          cases b <;> simp at q4 <;> omega
      · refine .inr ⟨?_, h2⟩
        cases b <;> simp at h1 <;> omega
    · cases h
end
end Go.Ilv
