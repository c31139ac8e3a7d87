/- Code and calls: what the evaluator says of a call, the machine does. -/
import Derived.Test.YtdofkchhdckomaaIlvDraw
import Derived.LoopN
set_option linter.unusedVariables false
set_option linter.unusedSimpArgs false
namespace Go.Ilv
open Go

section
variable {C : Cfg} {P : Program} {gl : Nat → Option (List V)} {K : Ctx} {s : St} {w w' : World} {e : Env} {a : Act} {cal : Callee}

theorem regOk_dst {fi : FnI} {id : Nat} {ops : Array Oper} {draw : Bool} (h : regOk C fi id ops draw = true) : ∀ (i : Nat) (o : Oper) (d : Nat), ops[i]? = some o → o.dst = some d → d < fi.fn.ntmps := by
  intro i o d ho hd
  simp only [regOk, Bool.and_eq_true] at h
  have h1 := h.1
  rw [← Array.all_toList, List.all_eq_true] at h1
  have := h1 o (by rw [Array.mem_toList_iff]; exact Array.mem_of_getElem? ho)
  rw [hd] at this
  simpa using this

theorem zipIdx_mem {ops : Array Oper} {i : Nat} {o : Oper} (h : ops[i]? = some o) : (o, i) ∈ ops.toList.zipIdx := by
  rw [List.mk_mem_zipIdx_iff_getElem?]
  simpa using h

theorem region_rel (hC : CfgOk C P) (hcal : Sound C P cal) {fi : FnI} {id : Nat} {ops : Array Oper} {draw : Bool} (hok : regOk C fi id ops draw = true) (hs : SRel C fi.fn.ntmps K s w e a) {e' : Env} {s' : St}
    (h : runReg C cal fi id ops draw e s = some (e', s')) {Q : Exit → Act → World → Prop} (hQ : After C fi.fn.ntmps K s w e' s' (Q .normal)) : (Code.region id ops draw).wp P Q a w := by
  have hdst := regOk_dst hok
  cases draw with
  | false =>
    simp only [runReg, Bool.false_eq_true, if_false] at h
    exact wp_region (runSeq_rel hC hcal hdst _ hs h hQ)
  | true =>
    refine wp_region_any hC.mixed ?_
    simp only [runReg, if_true] at h
    generalize hs0 : (if ops.any (bumps C fi) then ({ s with nxt := s.nxt + ops.size } : St) else s) = s0 at h
    obtain ⟨hconf, h⟩ : (∀ l, aget fi.conf id = some l → (l.all fun p => (footAt (feet C cal fi ops s.nxt (List.range ops.size) e s0) p.1).indep (footAt (feet C cal fi ops s.nxt (List.range ops.size) e s0) p.2)) = true) ∧
        runDraw C cal fi ops s.nxt (List.range ops.size) e s0 = some (e', s') := by
      cases hc : aget fi.conf id with
      | none => rw [hc] at h; exact ⟨by simp, by simpa using h⟩
      | some l =>
        rw [hc] at h
        simp only at h
        split at h
        · rename_i hall
          exact ⟨fun l' hl' => by simp at hl'; subst hl'; exact hall, h⟩
        · cases h
    · simp only [regOk, Bool.not_true, Bool.false_or, Bool.and_eq_true] at hok
      obtain ⟨_, hb, hu⟩ := hok
      obtain ⟨B, hB⟩ := feet_get (List.range ops.size) List.nodup_range h
      have hst : Stp K w K { w with drawn := w.drawn + 1 } := ⟨rfl, fun _ h => h, fun _ _ T' h => ⟨T', h, .inl rfl⟩, Nat.le_refl _, rfl, rfl, rfl, fun b hb hn => ⟨rfl, hn⟩⟩
      have hrel0 : RelW C.glob K s0 { w with drawn := w.drawn + 1 } := by
        have h1 := hs.rel.same hst (fun _ _ _ => rfl)
        rw [← hs0]
        split
        · exact { obj := h1.obj, dom := h1.dom, al := h1.al, inj := h1.inj, X := h1.X, Xlt := h1.Xlt, glob := h1.glob }
        · exact h1
      have hn0 : s.nxt ≤ s0.nxt := by rw [← hs0]; split <;> simp
      refine wpAny_draw hC hcal (N := fi.fn.ntmps) (K0 := K) (w0 := { w with drawn := w.drawn + 1 }) (n0 := s.nxt) hdst (fun j o ho x hx hbi => ?_) (fun i j hij hj hbit => ?_) (fun K' w' a' g1 g2 g3 g4 => ?_) ops.size (Array.replicate ops.size false) (List.range ops.size) K s0 _ e a (by simp) ?_ (by simp) (fun j o _ hl => ?_) ⟨hrel0, fun j hj => ?_, hs.env.mono hst, hs.size, hs.defers⟩ hB (fun j hj => .inl (hs.al j hj)) (Stp.refl _ _) (fun j hj => .inl hj) hn0 ?_
      · have := List.all_eq_true.1 hb _ (zipIdx_mem ho)
        simp only at this
        rw [← Array.all_toList, List.all_eq_true] at this
        have := this x hx
        rw [hbi] at this
        simpa using this
      · have hoj : ops[j]? = some ops[j] := Array.getElem?_eq_getElem hj
        have hi : i < ops.size := by omega
        have hoi : ops[i]? = some ops[i] := Array.getElem?_eq_getElem hi
        have h1 := List.all_eq_true.1 hu _ (zipIdx_mem hoj)
        have h2 := List.all_eq_true.1 h1 _ (zipIdx_mem hoi)
        simp only [waits, hij, decide_true, Bool.not_true, Bool.false_or, hbit, Bool.and_eq_true, Bool.or_eq_true, Bool.not_eq_true'] at h2
        obtain ⟨h3, h4⟩ := h2
        refine ⟨_, _, hoi, hoj, h3, fun ht => ?_⟩
        rcases h4 with h4 | h4
        · simp only [Bool.and_eq_true, Bool.or_eq_true] at ht
          simp [ht.1.1, ht.1.2] at h4
          rcases ht.2 with h5 | h5
          · rw [h5] at h4; simp at h4
          · rw [h5] at h4; simp at h4
        · cases hc : aget fi.conf id with
          | none => rw [hc] at h4; simp at h4
          | some l =>
            rw [hc] at h4
            simp only [Option.getD_some] at h4
            exact List.all_eq_true.1 (hconf l hc) (i, j) (by simpa using h4)
      · refine hQ K' w' a' (hst.trans g1) g2 (fun j hj => ?_) g4
        rcases g3 j hj with h | h
        · exact .inl h
        · exact .inr ⟨h, g2.al j hj⟩
      · rw [List.filter_eq_self.2]
        intro i hi
        have : i < ops.size := by simpa using hi
        simp [Array.getD_eq_getD_getElem?, this]
      · exfalso
        simp only [Array.getD_eq_getD_getElem?, Array.getElem?_replicate] at hl
        split at hl <;> simp at hl
      · exact Nat.lt_of_lt_of_le (hs.al j hj) hn0
      · cases hany : ops.any (bumps C fi) with
        | true => left; rw [← hs0, hany]; simp
        | false =>
          right
          intro i o ho
          rw [← Array.any_toList] at hany
          have := List.any_eq_false.1 hany o (by rw [Array.mem_toList_iff]; exact Array.mem_of_getElem? ho)
          simpa using this

def toExit : Ex → Exit
  | .normal => .normal
  | .exit id => .exit id
  | .ret => .ret

theorem keepE_get {l : List Nat} {t : Nat} {x : V} (h : aget (keepE l e) t = some x) : aget e t = some x := by
  induction l with
  | nil => simp [keepE, aget] at h
  | cons k r ih =>
    simp only [keepE, List.filterMap_cons] at h ih
    cases hk : aget e k with
    | none => simp [hk] at h; exact ih h
    | some v =>
      simp only [hk, Option.map_some, aget] at h
      split at h
      · rename_i htk
        rw [htk, hk]; exact h
      · exact ih h
theorem SRel.live {N : Nat} {fi : FnI} {id : Nat} (hs : SRel C N K s w e a) : SRel C N K s w (liveE fi id e) a := by
  refine ⟨hs.rel, hs.al, fun t x hx => ?_, hs.size, hs.defers⟩
  unfold liveE at hx
  split at hx
  · exact hs.env t x (keepE_get hx)
  · exact hs.env t x hx

theorem exec_rel (hC : CfgOk C P) (hcal : Sound C P cal) {fi : FnI} : ∀ (n : Nat) (c : Code) {K : Ctx} {s : St} {w : World} {e : Env} {a : Act} {ex : Ex} {e' : Env} {s' : St}, codeOk C fi c = true → SRel C fi.fn.ntmps K s w e a →
    exec C cal fi n c e s = some (ex, e', s') → ∀ {Q : Exit → Act → World → Prop}, After C fi.fn.ntmps K s w e' s' (Q (toExit ex)) → c.wp P Q a w := by
  intro n
  induction n using Nat.strongRecOn with
  | _ n ih =>
    intro c K s w e a ex e' s' hok hs h Q hQ
    cases n with
    | zero => simp [exec] at h
    | succ n =>
      have ihn := ih n (Nat.lt_succ_self n)
      have after_refl : ∀ {R : Act → World → Prop}, After C fi.fn.ntmps K s w e s R → R a w := fun h => h K w a (Stp.refl _ _) hs (fun j h => .inl h) (Nat.le_refl _)
      have after_trans : ∀ {e1 e2 : Env} {s1 s2 : St} {K1 : Ctx} {w1 : World} {R : Act → World → Prop}, After C fi.fn.ntmps K s w e2 s2 R → Stp K w K1 w1 → (∀ j, K1.al j → K.al j ∨ (s.nxt ≤ j ∧ j < s1.nxt)) → s.nxt ≤ s1.nxt → After C fi.fn.ntmps K1 s1 w1 e2 s2 R := by
        intro e1 e2 s1 s2 K1 w1 R hA h1 h2 h3 K2 w2 a2 g1 g2 g3 g4
        refine hA K2 w2 a2 (h1.trans g1) g2 (fun j hj => ?_) (Nat.le_trans h3 g4)
        rcases g3 j hj with h | h
        · rcases h2 j h with h | h
          · exact .inl h
          · exact .inr ⟨h.1, by omega⟩
        · exact .inr ⟨by omega, h.2⟩
      cases c <;> simp only [exec, reduceCtorEq] at h
      case skip =>
        simp at h; obtain ⟨rfl, rfl, rfl⟩ := h
        exact wp_skip (after_refl hQ)
      case region id ops draw =>
        split at h
        · rename_i e1 s1 hr
          simp at h; obtain ⟨rfl, rfl, rfl⟩ := h
          exact region_rel hC hcal (by simpa [codeOk] using hok) hs hr fun K1 w1 a1 g1 g2 g3 g4 => hQ K1 w1 a1 g1 g2.live g3 g4
        · cases h
      case seq c1 c2 =>
        simp only [codeOk, Bool.and_eq_true] at hok
        refine wp_seq ?_
        split at h
        · rename_i e1 s1 h1
          refine ihn c1 hok.1 hs h1 fun K1 w1 a1 g1 g2 g3 g4 => ?_
          exact ihn c2 hok.2 g2 h (after_trans (e1 := e1) hQ g1 g3 g4)
        · rename_i r hr
          cases hq : exec C cal fi n c1 e s with
          | none => rw [hq] at h; cases h
          | some x =>
            obtain ⟨ex1, e1, s1⟩ := x
            rw [hq] at h
            simp at h
            obtain ⟨rfl, rfl, rfl⟩ := h
            refine ihn c1 hok.1 hs hq fun K1 w1 a1 g1 g2 g3 g4 => ?_
            have := hQ K1 w1 a1 g1 g2 g3 g4
            cases ex1 with
            | normal => exact absurd hq (hr _ _)
            | exit id => exact this
            | ret => exact this
      case cond x c1 c2 =>
        simp only [codeOk, Bool.and_eq_true] at hok
        split at h
        · rename_i t ht
          have hr := opnd_rel hs.rel hs.env ht
          generalize hg : a.eval x = u at hr
          cases hr
          refine wp_cond hg ?_
          cases t
          · exact ihn c2 hok.2 hs h hQ
          · exact ihn c1 hok.1 hs h hQ
        · cases h
      case block id c1 =>
        simp only [codeOk] at hok
        refine wp_block ?_
        split at h
        · rename_i j e1 s1 h1
          split at h
          · rename_i hj
            simp at h; obtain ⟨rfl, rfl, rfl⟩ := h
            refine ihn c1 hok hs h1 fun K1 w1 a1 g1 g2 g3 g4 => ?_
            simp only [toExit, Exit.inBlock, hj, if_true]
            exact hQ K1 w1 a1 g1 g2 g3 g4
          · rename_i hj
            simp at h; obtain ⟨rfl, rfl, rfl⟩ := h
            refine ihn c1 hok hs h1 fun K1 w1 a1 g1 g2 g3 g4 => ?_
            simp only [toExit, Exit.inBlock, hj, if_false]
            exact hQ K1 w1 a1 g1 g2 g3 g4
        · rename_i r hr
          cases hq : exec C cal fi n c1 e s with
          | none => rw [hq] at h; cases h
          | some x =>
            obtain ⟨ex1, e1, s1⟩ := x
            rw [hq] at h
            simp at h
            obtain ⟨rfl, rfl, rfl⟩ := h
            refine ihn c1 hok hs hq fun K1 w1 a1 g1 g2 g3 g4 => ?_
            have := hQ K1 w1 a1 g1 g2 g3 g4
            cases ex1 with
            | normal => exact this
            | exit id => exact absurd hq (hr _ _ _)
            | ret => exact this
      case loop c1 =>
        have hok1 : codeOk C fi c1 = true := by simpa only [codeOk] using hok
        refine wp_loop_rounds (n + 1) ?_
        have hrounds : ∀ m, m ≤ n + 1 → ∀ {K : Ctx} {s : St} {w : World} {e : Env} {a : Act}, SRel C fi.fn.ntmps K s w e a → exec C cal fi m (.loop c1) e s = some (ex, e', s') → After C fi.fn.ntmps K s w e' s' (Q (toExit ex)) → Code.rounds P c1 Q m a w := by
          intro m
          induction m with
          | zero => intro _ K s w e a _ h; simp [exec] at h
          | succ m ihm =>
            intro hm K s w e a hs h hQ
            rw [rounds_succ]
            simp only [exec] at h
            split at h
            · rename_i e1 s1 h1
              refine ih m (by omega) c1 hok1 hs h1 fun K1 w1 a1 g1 g2 g3 g4 => ?_
              refine ihm (by omega) g2 h fun K2 w2 a2 q1 q2 q3 q4 => hQ K2 w2 a2 (g1.trans q1) q2 (fun j hj => ?_) (Nat.le_trans g4 q4)
              rcases q3 j hj with h | h
              · rcases g3 j h with h | h
                · exact .inl h
                · exact .inr ⟨h.1, by omega⟩
              · exact .inr ⟨by omega, h.2⟩
            · rename_i r hr
              cases hq : exec C cal fi m c1 e s with
              | none => rw [hq] at h; cases h
              | some x =>
                obtain ⟨ex1, e1, s1⟩ := x
                rw [hq] at h
                simp at h
                obtain ⟨rfl, rfl, rfl⟩ := h
                refine ih m (by omega) c1 hok1 hs hq fun K1 w1 a1 g1 g2 g3 g4 => ?_
                have := hQ K1 w1 a1 g1 g2 g3 g4
                cases ex1 with
                | normal => exact absurd hq (hr _ _)
                | exit id => exact this
                | ret => exact this
        refine hrounds (n + 1) (Nat.le_refl _) hs ?_ hQ
        simp only [exec]
        exact h
      case exit id =>
        simp at h; obtain ⟨rfl, rfl, rfl⟩ := h
        exact wp_exit (after_refl hQ)
      case ret =>
        simp at h; obtain ⟨rfl, rfl, rfl⟩ := h
        exact wp_ret (after_refl hQ)

/-! ### results -/
/-- A result as the machine reads it. -/
def resSem (tmps : Array Value) : ResultVar → Sem Value
  | .tmp t => pure (tmps.getD t Go.undef)
  | .cell p t => do loadVar t (← asAddr (tmps.getD p Go.undef))
theorem resV_rel (hC : CfgOk C P) {N : Nat} (hs : SRel C N K s w e a) {r : ResultVar} {x : V} (h : resV C e s r = some x) : ∃ u, (resSem a.tmps r).run P w = .ok u w ∧ VRel K w x u := by
  cases r with
  | tmp t =>
    obtain ⟨u, h1, h2⟩ := hs.env t x h
    exact ⟨u, by simp [resSem, h1], h2⟩
  | cell p t =>
    simp only [resV] at h
    split at h
    · rename_i pv y hp hy
      split at h
      · rename_i cs hcs
        obtain ⟨u, h1, h2⟩ := hs.env p pv hp
        obtain ⟨b, o, us, g1, g2, g3, g4⟩ := rd_rel hs.rel h2 hcs
        obtain ⟨u', e1, e2, e3⟩ := VRel.ofCells g3 h
        obtain ⟨f1, f2⟩ := r_loadVar (P := P) (hC.ty t y hy) g4 g2
        refine ⟨u', ?_, e1⟩
        have hu : a.tmps.getD p Go.undef = .pointer (some ⟨b, o, none⟩) := by
          rw [← g1]; simp [h1]
        simp only [resSem, hu, asAddr, Sem.run_bind, Sem.run_pure, Result.andThen_ok]
        cases hag : y.kind.agg with
        | true => rw [f1 hag, e2 hag]
        | false => exact f2 hag u' (e3 hag)
      · cases h
    · cases h

theorem results_rel (hC : CfgOk C P) {N : Nat} (hs : SRel C N K s w e a) {fi : FnI} {r : V} (h : results C fi e s = some r) : ∃ u, (_root_.Go.results fi.fn a.tmps).run P w = .ok u w ∧ VRel K w r u := by
  have key : ∀ (l : List ResultVar) (xs : List V), allSome (resV C e s) l = some xs → ∃ us : List Value, (l.mapM (resSem a.tmps)).run P w = .ok us w ∧ LRel K w xs us := by
    intro l
    induction l with
    | nil => intro xs h; simp [allSome] at h; subst h; exact ⟨[], rfl, .nil⟩
    | cons r l ih =>
      intro xs h
      simp only [allSome] at h
      split at h
      · rename_i y l' h1 h2
        simp at h; subst h
        obtain ⟨us, g1, g2⟩ := ih l' h2
        obtain ⟨u, q1, q2⟩ := resV_rel hC hs h1
        refine ⟨u :: us, ?_, .cons q2 g2⟩
        rw [List.mapM_cons]
        simp only [Sem.run_bind, q1, Result.andThen_ok, g1, Sem.run_pure]
      · cases h
  unfold results at h
  have hmap : ∀ us : List Value, (fi.fn.results.toList.mapM (resSem a.tmps)).run P w = .ok us w → (_root_.Go.results fi.fn a.tmps).run P w = .ok (if h : us.toArray.size = 1 then us.toArray[0] else .tuple us.toArray) w := by
    intro us hus
    have e : _root_.Go.results fi.fn a.tmps = (do
        let vs ← fi.fn.results.mapM (resSem a.tmps)
        pure (if h : vs.size = 1 then vs[0] else .tuple vs)) := by
      unfold _root_.Go.results
      congr 1
    rw [e, Sem.run_bind, Array.mapM_eq_mapM_toList, Sem.run_map, hus]
    rfl
  split at h
  · rename_i v hv
    simp at h; subst h
    obtain ⟨us, g1, g2⟩ := key _ _ hv
    match us, g2 with
    | [u], g2 => exact ⟨u, by rw [hmap _ g1]; rfl, g2.head⟩
    | [], g2 => exact absurd g2.1 (by simp)
    | _ :: _ :: _, g2 => exact absurd g2.1 (by simp)
  · rename_i l hne hl
    simp at h; subst h
    obtain ⟨us, g1, g2⟩ := key _ _ hl
    have hlen : us.length ≠ 1 := by
      intro h1
      have h2 : l.length = 1 := by rw [g2.1, h1]
      match l, h2 with
      | [x], _ => exact hne x rfl
    refine ⟨.tuple us.toArray, ?_, .tup l us g2.1 g2.2⟩
    rw [hmap _ g1, dif_neg (by simpa using hlen)]
  · cases h

/-! ### calls -/
theorem aget_filter_key {α : Type} (p : Nat → Bool) : ∀ (l : List (Nat × α)) (i : Nat), aget (l.filter fun x => p x.1) i = if p i then aget l i else none
  | [], i => by simp [aget]
  | (k, v) :: r, i => by
    have ih := aget_filter_key p r i
    simp only [List.filter_cons]
    by_cases hk : p k = true
    · rw [if_pos hk]
      simp only [aget]
      by_cases hik : i = k
      · subst hik; simp [hk]
      · simp only [hik, if_false]; exact ih
    · rw [if_neg hk, ih]
      simp only [aget]
      by_cases hik : i = k
      · subst hik; simp [hk]
      · simp [hik]
theorem killVars_get (s : St) (base i : Nat) : (s.killVars base).get i = if s.kills base i then none else s.get i := by
  have := aget_filter_key (fun k => !(s.kills base k)) s.objs i
  simp only [St.killVars, St.get]
  rw [this]
  cases s.kills base i <;> simp

theorem kill_rel (hk : RelW gl K s w) (base : Nat) : ∃ K', Stp K w K' w ∧ RelW gl K' (s.killVars base) w ∧ K'.al = K.al := by
  let K' : Ctx := { φ := fun i => if s.kills base i then none else K.φ i, al := K.al, X := K.X }
  have hφ : ∀ i T, K'.φ i = some T → s.kills base i = false ∧ K.φ i = some T := by
    intro i T h
    simp only [K'] at h
    split at h
    · cases h
    · rename_i hn; exact ⟨by simpa using hn, h⟩
  have hst : Stp K w K' w := ⟨rfl, fun _ h => h, fun i _ T' h => ⟨T', (hφ i T' h).2, .inl rfl⟩, Nat.le_refl _, rfl, rfl, rfl, fun b hb hn => ⟨rfl, fun i T h => hn i T (hφ i T h).2⟩⟩
  refine ⟨K', hst, ?_, rfl⟩
  exact {
    obj := fun i o ho => by
      rw [killVars_get] at ho
      split at ho
      · cases ho
      · rename_i hn
        obtain ⟨T, hT, hr⟩ := hk.obj i o ho
        obtain ⟨c, et, h1, h2, h3⟩ := hr.row
        exact ⟨T, by simp only [K']; rw [if_neg hn]; exact hT, hr.sz, hr.ver, hr.pos, hr.cap, c, et, h1, h2, fun i r hir => ⟨(h3 i r hir).1, fun j x hx => let ⟨g1, u, g2, g3⟩ := (h3 i r hir).2 j x hx; ⟨g1, u, g2, g3.mono hst⟩⟩⟩
    dom := fun i T h => by
      obtain ⟨h1, h2⟩ := hφ i T h
      obtain ⟨o, ho⟩ := hk.dom i T h2
      exact ⟨o, by rw [killVars_get, h1]; exact ho⟩
    al := fun i T h => hk.al i T (hφ i T h).2
    inj := fun i j T T' h1 h2 h3 => hk.inj i j T T' (hφ i T h1).2 (hφ j T' h2).2 h3
    X := fun i T h => hk.X i T (hφ i T h).2
    Xlt := hk.Xlt
    glob := fun g cs h => (hk.glob g cs h).mono hst }

theorem enumE_get : ∀ (l : List V) (k t : Nat) (x : V), aget (enumE k l) t = some x → k ≤ t ∧ l[t - k]? = some x
  | [], k, t, x, h => by simp [enumE, aget] at h
  | v :: r, k, t, x, h => by
    simp only [enumE, aget] at h
    split at h
    · rename_i ht
      subst ht
      simp at h
      exact ⟨Nat.le_refl _, by simp [h]⟩
    · rename_i ht
      obtain ⟨h1, h2⟩ := enumE_get r (k + 1) t x h
      refine ⟨by omega, ?_⟩
      rw [show t - k = (t - (k + 1)) + 1 by omega]
      simpa using h2

/-- The functions that are told by what they come to. -/
def IntrOk (C : Cfg) (P : Program) : Prop := ∀ f g, C.intr f = some g → Sound C P fun f' args s => if f' = f then g args s else none

theorem call_sound (hC : CfgOk C P) (hI : IntrOk C P) : ∀ n, Sound C P (call C n)
  | 0 => fun f args s r s' h => by simp [call] at h
  | n + 1 => by
    intro f args s r s' h K w us hk hal ha
    have ih := call_sound hC hI n
    simp only [call] at h
    split at h
    · rename_i g hg
      exact hI f g hg f args s r s' (by simpa using h) K w us hk hal ha
    rename_i hg
    split at h
    · rename_i fi hfi
      obtain ⟨h1, h2, b, h3, h4⟩ := hC.fn f fi hfi
      simp only [body, h3] at h
      split at h
      · cases h
      · cases h
      · rename_i ex e1 s1 hne hex
        split at h
        · rename_i rv hres
          simp at h
          obtain ⟨rfl, rfl⟩ := h
          refine calls_of_wp h1 h3 ?_
          have hs : SRel C fi.fn.ntmps K s w (enumE 0 args) { tmps := us.toArray ++ Array.replicate (fi.fn.ntmps - us.toArray.size) Go.undef, defers := [] } := by
            refine ⟨hk, hal, fun t x hx => ?_, by simp; omega, rfl⟩
            obtain ⟨_, hx2⟩ := enumE_get args 0 t x hx
            simp at hx2
            obtain ⟨u, hu, hr⟩ := ha.get hx2
            refine ⟨u, ?_, hr⟩
            have ht : t < us.length := (List.getElem?_eq_some_iff.1 hu).1
            rw [Array.getElem?_append_left (by simpa using ht)]
            simpa using hu
          refine exec_rel hC ih n b h4 hs hex fun K1 w1 a1 g1 g2 g3 g4 => ?_
          have hfin : a1.defers = [] ∧ ∃ v, (_root_.Go.results fi.fn a1.tmps).run P w1 = .ok v w1 ∧ ∃ K' u, Ending.returned v = .returned u ∧ Stp K w K' w1 ∧ RelW C.glob K' (if fi.keep then s1 else s1.killVars s.nxt) w1 ∧ VRel K' w1 rv u ∧
              (∀ j, K'.al j → K.al j ∨ (s.nxt ≤ j ∧ j < (if fi.keep then s1 else s1.killVars s.nxt).nxt)) ∧ s.nxt ≤ (if fi.keep then s1 else s1.killVars s.nxt).nxt := by
            obtain ⟨u, q1, q2⟩ := results_rel hC g2 hres
            refine ⟨g2.defers, u, q1, ?_⟩
            have hnx : (if fi.keep then s1 else s1.killVars s.nxt).nxt = s1.nxt := by split <;> rfl
            rw [hnx]
            cases hkeep : fi.keep with
            | true => exact ⟨K1, u, rfl, g1, by simpa using g2.rel, q2, g3, g4⟩
            | false =>
              obtain ⟨K2, k1, k2, k3⟩ := kill_rel g2.rel s.nxt
              exact ⟨K2, u, rfl, g1.trans k1, by simpa using k2, q2.mono k1, fun j hj => g3 j (by rw [← k3]; exact hj), g4⟩
          cases ex with
          | normal => exact hfin
          | ret => exact hfin
          | exit id => exact absurd rfl (hne id)
        · cases h
    · cases h
end
end Go.Ilv
#print axioms Go.Ilv.call_sound
