/- The operations that leave the store as it is. -/
import Derived.Test.YtdofkchhdckomaaIlvOps
set_option linter.unusedVariables false
set_option linter.unusedSimpArgs false
namespace Go.Ilv
open Go

section
variable {C : Cfg} {P : Program} {gl : Nat → Option (List V)} {K : Ctx} {s : St} {w : World} {e : Env} {a : Act}

theorem run_boolEq (t : TypeId) (a b : Bool) (h : P.underlying t = some .bool) : (Op.equal t (.bool a) (.bool b)).run P w = .ok (a == b) w :=
  run_equalIn_bool' w 9999 t a b h

theorem r_eqNN (d : Nat) (t el : TypeId) (h : P.underlying t = some (.pointer el)) (a : Option Addr) : (Op.equalIn (d + 1) t (.pointer none) (.pointer a)).run P w = .ok a.isNone w := by
  simp [Op.equalIn, r_under h]
theorem r_eqPN (d : Nat) (t el : TypeId) (h : P.underlying t = some (.pointer el)) (a : Addr) : (Op.equalIn (d + 1) t (.pointer (some a)) (.pointer none)).run P w = .ok false w := by
  simp [Op.equalIn, r_under h]

theorem eqV_rel (hC : CfgOk C P) {t : TypeId} {x y : V} {u v : Value} {r : Bool} (hx : VRel K w x u) (hy : VRel K w y v) (h : eqV C t x y = some r) (ox oy : Operand) (op : BinOp) :
    (eqGuard op t ox oy u v).run P w = .ok () w ∧ (Op.equal t u v).run P w = .ok r w := by
  unfold eqV at h
  split at h
  · cases h
  · rename_i ty hty
    obtain ⟨i, d, z, h1, h2, h3, h4, h5, h6, h7, h8, h9⟩ := (hC.ty t ty hty).ex
    split at h
    · rename_i k x y p q hk
      simp at h; subst h
      rw [hk] at h5
      simp only [KOk] at h5
      subst h5
      cases hx; cases hy
      exact ⟨by simp [eqGuard_at_bool], run_boolEq t p q h4⟩
    · rename_i k x y el hk
      simp at h; subst h
      rw [hk] at h5; simp only [KOk] at h5; subst h5
      cases hx; cases hy
      exact ⟨by simp [eqGuard_at_pointer], r_eqNN 9999 t _ h4 _⟩
    · rename_i k x y el _ _ _ _ hk
      simp at h; subst h
      rw [hk] at h5; simp only [KOk] at h5; subst h5
      cases hx
      cases hy <;> exact ⟨by simp [eqGuard_at_pointer], r_eqNN 9999 t _ h4 _⟩
    · rename_i k x y el _ _ _ _ hk
      simp at h; subst h
      rw [hk] at h5; simp only [KOk] at h5; subst h5
      cases hy
      cases hx <;> exact ⟨by simp [eqGuard_at_pointer], r_eqPN 9999 t _ h4 _⟩
    · rename_i k x y el _ hk
      simp at h; subst h
      rw [hk] at h5; simp only [KOk] at h5; subst h5
      cases hx
      cases hy <;> exact ⟨by simp [eqGuard_at_pointer], r_eqNN 9999 t _ h4 _⟩
    · rename_i k x y el _ hk
      simp at h; subst h
      rw [hk] at h5; simp only [KOk] at h5; subst h5
      cases hy
      cases hx <;> exact ⟨by simp [eqGuard_at_pointer], r_eqPN 9999 t _ h4 _⟩
    · rename_i k x y fs p q hk
      split at h
      · rename_i he
        obtain ⟨g1, g2⟩ := hC.eqs t he
        cases hx with
        | agg _ us hl hf hh =>
          cases hy with
          | agg _ vs hl' hf' hh' =>
            refine ⟨by simp [run_eqGuard_agg, g1], ?_⟩
            exact g2 w K ty fs p q us vs r hty hk ⟨hl, hf, hh⟩ ⟨hl', hf', hh'⟩ h
      · cases h
    · cases h

theorem r_eqSN (d : Nat) (t el : TypeId) (h : P.underlying t = some (.slice el)) (ad : Addr) (n c : Nat) : (Op.equalIn (d + 1) t (.slice (some ad) n c) (.slice none 0 0)).run P w = .ok false w := by
  simp [Op.equalIn, r_under h]
theorem nilCmp_rel (hC : CfgOk C P) {op : BinOp} {t : TypeId} {x v : V} {u : Value} (hx : VRel K w x u) (h : nilCmp C op t x = some v) (ox oy : Operand) :
    ∃ r, (eqGuard op t ox oy u (.slice none 0 0)).run P w = .ok () w ∧ (binOp op t u (.slice none 0 0)).run P w = .ok r w ∧ VRel K w v r := by
  unfold nilCmp at h
  split at h
  · rename_i el sz by_ zr hty
    obtain ⟨i, d, z, h1, h2, h3, h4, h5, h6, h7, h8, h9⟩ := (hC.ty t _ hty).ex
    simp only [KOk] at h5
    subst h5
    have hu : ∃ ad n c, x.full = true → u = .slice (some ad) n c := by
      cases hx with
      | lit0 a cap => exact ⟨⟨0, 0, none⟩, 0, 0, fun h => by cases h⟩
      | lit _ b o sz cap vals hb hc hx hcell hrel => exact ⟨_, _, _, fun _ => rfl⟩
      | ref id ver sz off len T a cap hT hal hv hz hl hc ha =>
        by_cases hn : 0 < len
        · rcases ha with rfl | rfl
          · exact ⟨_, _, _, fun _ => rfl⟩
          · omega
        · exact ⟨⟨0, 0, none⟩, 0, 0, fun h => absurd (of_decide_eq_true h) hn⟩
      | refd id ver sz off len a cap hal hd hl ha =>
        by_cases hn : 0 < len
        · obtain ⟨ad, rfl⟩ := ha hn
          exact ⟨_, _, _, fun _ => rfl⟩
        · exact ⟨⟨0, 0, none⟩, 0, 0, fun h => absurd (of_decide_eq_true h) hn⟩
      | _ => exact ⟨⟨0, 0, none⟩, 0, 0, fun h => by cases h⟩
    obtain ⟨ad, n, c, hu⟩ := hu
    split at h
    · rename_i hf
      have := hu hf
      subst this
      have he : (Op.equal t (.slice (some ad) n c) (.slice none 0 0)).run P w = .ok false w := r_eqSN 9999 t el h4 ad n c
      split at h
      · simp at h; subst h
        exact ⟨.bool false, by simp [eqGuard_at_slice], by simp only [binOp, Sem.run_bind, he, Result.andThen_ok, Sem.run_pure], .bool _⟩
      · simp at h; subst h
        exact ⟨.bool true, by simp [eqGuard_at_slice], by simp only [binOp, Sem.run_bind, he, Result.andThen_ok, Sem.run_pure]; rfl, .bool _⟩
      · cases h
    · cases h
  · cases h

theorem arith_rel {op : BinOp} {k : IntKind} {x y : Int} {v : V} (h : arith op k x y = some v) (hs : op ≠ .shl) (hr : op ≠ .shr) (t : TypeId) :
    ∃ u, (binOp op t (.int k x) (.int k y)).run P w = .ok u w ∧ VRel K w v u := by
  cases op <;> simp only [arith, cmpInt, bitInt, Option.map_some, Option.some.injEq, reduceCtorEq] at h
  case add | sub | mul => subst h; exact ⟨_, by simp [binOp, Op.intArith], .int _ _⟩
  case quo | rem =>
    split at h
    · cases h
    · rename_i h0
      simp only [Option.some.injEq] at h
      subst h; exact ⟨_, by simp [binOp, Op.intDiv, h0], .int _ _⟩
  case and | or | xor | andNot => subst h; exact ⟨_, (by simp only [binOp, ne_eq, not_true_eq_false, if_false]; rfl), .int _ _⟩
  case eql =>
    subst h
    have e : (decide (x = y)) = (x == y) := by rw [Bool.eq_iff_iff]; simp
    rw [e]
    exact ⟨_, (by simp only [binOp, ne_eq, not_true_eq_false, if_false]; rfl), .bool _⟩
  case neq =>
    subst h
    have e : (decide (x = y)) = (x == y) := by rw [Bool.eq_iff_iff]; simp
    rw [e]
    exact ⟨_, (by simp only [binOp, ne_eq, not_true_eq_false, if_false]; rfl), .bool _⟩
  case lss | leq | gtr | geq => subst h; exact ⟨_, (by simp only [binOp, ne_eq, not_true_eq_false, if_false]; rfl), .bool _⟩

theorem bin_rel (hC : CfgOk C P) {t : TypeId} {x y v : V} {u u' : Value} {op : BinOp} (hx : VRel K w x u) (hy : VRel K w y u') (h : bin C op t x y = some v) (ox oy : Operand) :
    ∃ r, (eqGuard op t ox oy u u').run P w = .ok () w ∧ (binOp op t u u').run P w = .ok r w ∧ VRel K w v r := by
  unfold bin at h
  split at h
  · rename_i k p l q
    cases hx; cases hy
    split at h
    · split at h
      · cases h
      · rename_i hq
        simp at h; subst h
        exact ⟨_, by simp [eqGuard_at_int], by simp [binOp, Op.shift, hq], .int _ _⟩
    · split at h
      · cases h
      · rename_i hq
        simp at h; subst h
        exact ⟨_, by simp [eqGuard_at_int], by simp [binOp, Op.shift, hq], .int _ _⟩
    · rename_i h1 h2
      split at h
      · rename_i hkl
        subst hkl
        obtain ⟨r, g1, g2⟩ := arith_rel (P := P) (K := K) (w := w) h h1 h2 t
        exact ⟨r, by simp [eqGuard_at_int], g1, g2⟩
      · cases h
  · rename_i p q
    cases hx; cases hy
    cases op <;> simp only [strOp, Option.some.injEq, reduceCtorEq] at h <;> first
      | (split at h
         · cases h
         · rename_i h0
           simp only [Option.some.injEq] at h
           subst h
           exact ⟨_, by simp [eqGuard_at_string], by simp [binOp, Op.stringOp]; simp at h0; omega, .str _⟩)
      | (subst h; exact ⟨_, by simp [eqGuard_at_string], by simp [binOp, Op.stringOp], .bool _⟩)
  · rename_i h1 h2
    split at h
    · simp only [Option.map_eq_some_iff] at h
      obtain ⟨b, hb, rfl⟩ := h
      obtain ⟨g1, g2⟩ := eqV_rel hC hx hy hb ox oy .eql
      refine ⟨.bool b, g1, ?_, .bool b⟩
      have : binOp .eql t u u' = (do pure (.bool (← Op.equal t u u'))) := by
        cases hx <;> first
          | rfl
          | (cases hy <;> first | rfl | (simp [eqV] at hb; done) | exact absurd rfl (h1 _ _ _ _ rfl) | exact absurd rfl (h2 _ _ rfl))
      rw [this]
      simp [g2]
    · simp only [Option.map_eq_some_iff] at h
      obtain ⟨b, hb, rfl⟩ := h
      obtain ⟨g1, g2⟩ := eqV_rel hC hx hy hb ox oy .neq
      refine ⟨.bool !b, g1, ?_, .bool _⟩
      have : binOp .neq t u u' = (do pure (.bool (!(← Op.equal t u u')))) := by
        cases hx <;> first
          | rfl
          | (cases hy <;> first | rfl | (simp [eqV] at hb; done) | exact absurd rfl (h1 _ _ _ _ rfl) | exact absurd rfl (h2 _ _ rfl))
      rw [this]
      simp [g2]
    · cases h

theorem un_rel {op : UnOp} {x v : V} {u : Value} (hx : VRel K w x u) (h : un op x = some v) : ∃ r, (Op.unary op u).run P w = .ok r w ∧ VRel K w v r := by
  unfold un at h
  split at h
  · simp at h; subst h; cases hx; exact ⟨_, by simp [Op.unary, Op.intArith], .int _ _⟩
  · simp [bitInt] at h; subst h; cases hx; exact ⟨_, by simp [Op.unary, Op.intBits], .int _ _⟩
  · simp at h; subst h; cases hx; exact ⟨_, by simp [Op.unary], .bool _⟩
  · cases h
end
end Go.Ilv
