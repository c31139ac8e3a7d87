/- The operations that call no Go function: what the evaluator says is what the machine does. First: those that leave the store as it is. -/
import Derived.Test.YtdofkchhdckomaaIlvRel
set_option linter.unusedVariables false
namespace Go.Ilv
open Go

def KOk (P : Program) (d : TypeDesc) : K → Prop
  | .int k => d = .int k
  | .bool => d = .bool
  | .str => d = .string
  | .ptr e => d = .pointer e
  | .slice e => d = .slice e
  | .struct fs => ∃ fields : Array Field, d = .struct fields ∧ fs = (fields.toList.map fun f => (f.offset, f.type)) ∧ ∀ f ∈ fields.toList, ((P.info? f.type).isSome) = true
  | .arr n e => d = .array n e
  | .other => (∀ f, d ≠ .struct f) ∧ ∀ n e, d ≠ .array n e

/-- A constant's cells. -/
def ZRel (cs : List V) (us : List Value) : Prop := ∀ (K : Ctx) (w : World), CRel K w cs us

structure TyOk (P : Program) (t : TypeId) (y : Ty) : Prop where
  ex : ∃ i d z, P.info? t = some i ∧ i.size = y.size ∧ i.bytes = y.bytes ∧ P.underlying t = some d ∧ KOk P d y.kind ∧ i.zero = some z ∧ z.cells.size = i.size ∧ ZRel y.zero z.cells.toList ∧
    (y.kind.agg = true → z = .agg z.cells)

def EqOk (C : Cfg) (P : Program) (t : TypeId) : Prop :=
  P.eqGuardType P.depth t = false ∧ ∀ (w : World) (K : Ctx) (y : Ty) (fs : List (Nat × TypeId)) (a b : List V) (us vs : List Value) (r : Bool), C.ty t = some y → y.kind = .struct fs → CRel K w a us → CRel K w b vs → eqCells C fs a b = some r →
    (Op.equalIn 10000 t (.agg us.toArray) (.agg vs.toArray)).run P w = .ok r w

structure CfgOk (C : Cfg) (P : Program) : Prop where
  ty : ∀ t y, C.ty t = some y → TyOk P t y
  fn : ∀ f fi, C.fn f = some fi → P.funcs[f]? = some fi.fn ∧ fi.fn.name ≠ "runtime.NumGoroutine" ∧ ∃ b, fi.fn.body = some b ∧ codeOk C fi b = true
  eqs : ∀ t, C.eqs t = true → EqOk C P t
  mixed : P.follows .mixedOrders = true

section
variable {P : Program} {w : World} {t : TypeId} {i : TypeInfo} {d : TypeDesc} {z : Value}
theorem r_ty (h : P.info? t = some i) : (typeInfo t).run P w = .ok i w := by simp [typeInfo, h]
theorem r_size (h : P.info? t = some i) : (sizeOf t).run P w = .ok i.size w := by simp [sizeOf, r_ty h]
theorem r_zero (h : P.info? t = some i) (hz : i.zero = some z) : (zeroValue t).run P w = .ok z w := by simp [zeroValue, r_ty h, hz]
theorem r_under (h : P.underlying t = some d) : (underlying t).run P w = .ok d w := run_underlying h w
theorem r_isAgg {k : K} (h : P.underlying t = some d) (hk : KOk P d k) : (isAgg t).run P w = .ok k.agg w := by
  simp only [isAgg, Sem.run_bind, r_under h, Result.andThen_ok]
  cases k <;> simp only [KOk] at hk
  case struct fs => obtain ⟨f, rfl, _⟩ := hk; rfl
  case other =>
    cases d <;> first | rfl | exact absurd rfl (hk.1 _) | exact absurd rfl (hk.2 _ _)
  all_goals (subst hk; rfl)
end

theorem addr_add (b o n : Nat) : (⟨b, o, none⟩ : Addr).add n = ⟨b, o + n, none⟩ := Addr.add_lit b o n

mutual
theorem ofConst_rel {K : Ctx} {w : World} : ∀ (v : Value) (x : V), ofConst v = some x → VRel K w x v
  | .bool b, x, h => by simp [ofConst] at h; subst h; exact .bool b
  | .int k n, x, h => by simp [ofConst] at h; subst h; exact .int k n
  | .string s, x, h => by simp [ofConst] at h; subst h; exact .str s
  | .slice a l c, x, h => by
    unfold ofConst at h
    split at h <;> simp_all
    subst h; exact .nils _
  | .pointer a, x, h => by
    unfold ofConst at h
    split at h <;> simp_all
    subst h; exact .pnil
  | .agg ⟨cs⟩, x, h => by
    unfold ofConst at h
    cases hc : ofConstL cs with
    | none => simp [hc] at h
    | some l =>
      simp [hc] at h
      subst h
      obtain ⟨h1, h2, h3⟩ := ofConstL_rel (K := K) (w := w) cs l hc
      exact .agg l cs h1 h2 h3
  | .float _ _, x, h | .complex _ _ _, x, h | .map _, x, h | .chan _, x, h | .func _ _ _, x, h | .nilFunc, x, h | .iface _ _, x, h | .nilIface, x, h | .tuple _, x, h => by
    unfold ofConst at h; simp at h
theorem ofConstL_rel {K : Ctx} {w : World} : ∀ (us : List Value) (l : List V), ofConstL us = some l → CRel K w l us
  | [], l, h => by simp [ofConstL] at h; subst h; exact ⟨rfl, by simp, by simp⟩
  | v :: r, l, h => by
    simp only [ofConstL] at h
    split at h
    · rename_i x l' h1 h2
      split at h
      · rename_i hl
        simp at h
        subst h
        have hx := ofConst_rel (K := K) (w := w) v x h1
        obtain ⟨g1, g2, g3⟩ := ofConstL_rel (K := K) (w := w) r l' h2
        refine ⟨by simp [g1], by simpa [hl] using g2, fun i c u e1 e2 => ?_⟩
        cases i with
        | zero => simp at e1 e2; subst e1; subst e2; exact hx
        | succ i => exact g3 i c u (by simpa using e1) (by simpa using e2)
      · simp at h
    · simp at h
end

section
variable {C : Cfg} {P : Program} {gl : Nat → Option (List V)} {K : Ctx} {s : St} {w : World} {e : Env} {a : Act}

theorem opnd_rel (hk : RelW C.glob K s w) (he : ERel K w e a) {x : Operand} {v : V} (h : opnd C e x = some v) : VRel K w v (a.eval x) := by
  cases x with
  | tmp t =>
    obtain ⟨u, h1, h2⟩ := he t v h
    simpa [Act.eval, h1] using h2
  | const c => exact ofConst_rel c v h
  | global g =>
    simp only [opnd, Option.map_eq_some_iff] at h
    obtain ⟨cs, h1, rfl⟩ := h
    exact hk.glob g cs h1
  | func f =>
    simp only [opnd, Option.some.injEq] at h
    subst h
    exact .fn f [] [] rfl (by simp)

/-- Values one by one. -/
def LRel (K : Ctx) (w : World) (xs : List V) (us : List Value) : Prop :=
  xs.length = us.length ∧ ∀ (i : Nat) (c : V) (u : Value), xs[i]? = some c → us[i]? = some u → VRel K w c u
theorem LRel.cons {x : V} {u : Value} {xs : List V} {us : List Value} (h : VRel K w x u) (hs : LRel K w xs us) : LRel K w (x :: xs) (u :: us) := by
  refine ⟨by simp [hs.1], fun i c v e1 e2 => ?_⟩
  cases i with
  | zero => simp at e1 e2; subst e1; subst e2; exact h
  | succ i => exact hs.2 i c v (by simpa using e1) (by simpa using e2)
theorem LRel.nil : LRel K w [] [] := ⟨rfl, by simp⟩
theorem LRel.head {x : V} {u : Value} {xs : List V} {us : List Value} (h : LRel K w (x :: xs) (u :: us)) : VRel K w x u := h.2 0 x u rfl rfl
theorem LRel.tail {x : V} {u : Value} {xs : List V} {us : List Value} (h : LRel K w (x :: xs) (u :: us)) : LRel K w xs us :=
  ⟨by simpa using h.1, fun i c v e1 e2 => h.2 (i + 1) c v (by simpa using e1) (by simpa using e2)⟩
theorem LRel.mono {K' : Ctx} {w' : World} (hs : Stp K w K' w') {xs : List V} {us : List Value} (h : LRel K w xs us) : LRel K' w' xs us :=
  ⟨h.1, fun i c u h1 h2 => (h.2 i c u h1 h2).mono hs⟩
theorem LRel.append {xs ys : List V} {us vs : List Value} (h : LRel K w xs us) (g : LRel K w ys vs) : LRel K w (xs ++ ys) (us ++ vs) := by
  refine ⟨by simp [h.1, g.1], fun i c u e1 e2 => ?_⟩
  by_cases hi : i < xs.length
  · rw [List.getElem?_append_left hi] at e1
    rw [List.getElem?_append_left (by rw [← h.1]; exact hi)] at e2
    exact h.2 i c u e1 e2
  · rw [List.getElem?_append_right (by omega)] at e1
    rw [List.getElem?_append_right (by rw [← h.1]; omega), ← h.1] at e2
    exact g.2 _ c u e1 e2

theorem opnds_rel (hk : RelW C.glob K s w) (he : ERel K w e a) : ∀ {l : List Operand} {vs : List V}, opnds C e l = some vs → LRel K w vs (l.map a.eval)
  | [], vs, h => by simp [opnds] at h; subst h; exact .nil
  | x :: r, vs, h => by
    simp only [opnds] at h
    split at h
    · rename_i v l' h1 h2
      simp at h; subst h
      exact .cons (opnd_rel hk he h1) (opnds_rel hk he h2)
    · simp at h

/-- Cells of memory, from an address on. -/
def At (w : World) (b o : Nat) (us : List Value) : Prop := ∀ (j : Nat) (u : Value), us[j]? = some u → w.cell? ⟨b, o + j, none⟩ = some u

theorem r_loadVar {t : TypeId} {y : Ty} (hy : TyOk P t y) {b o : Nat} {us : List Value} (hus : At w b o us) (hl : us.length = y.size) :
    (y.kind.agg = true → (loadVar t ⟨b, o, none⟩).run P w = .ok (.agg us.toArray) w) ∧
    (y.kind.agg = false → ∀ u, us = [u] → (loadVar t ⟨b, o, none⟩).run P w = .ok u w) := by
  obtain ⟨i, d, z, h1, h2, h3, h4, h5, h6, h7, h8, h9⟩ := hy.ex
  have hc : ∀ j v, us[j]? = some v → w.cell? ((⟨b, o, none⟩ : Addr).add j) = some v := fun j v hj => by rw [addr_add]; exact hus j v hj
  have hrun := run_loadCells_list (P := P) w ⟨b, o, none⟩ us hc
  constructor
  · intro ha
    simp only [loadVar, Sem.run_bind, r_isAgg h4 h5, ha, Result.andThen_ok, if_true, r_size h1, h2, ← hl, hrun, Sem.run_pure]
  · intro ha u hu
    subst hu
    have := hus 0 u rfl
    simp only [Nat.add_zero] at this
    simp only [loadVar, Sem.run_bind, r_isAgg h4 h5, ha, Result.andThen_ok, Bool.false_eq_true, if_false, run_load, this]

/-- What the evaluator reads at a place is what lies there. -/
theorem rd_rel (hk : RelW gl K s w) {p : V} {u : Value} (hp : VRel K w p u) {n : Nat} {cs : List V} (h : rd s p n = some cs) :
    ∃ b o us, u = .pointer (some ⟨b, o, none⟩) ∧ us.length = n ∧ CRel K w cs us ∧ At w b o us := by
  cases p with
  | cptr xs =>
    simp only [rd] at h
    split at h
    · rename_i hn
      simp at h; subst h
      cases hp with
      | cptr _ b o vals hb hnn hcell hrel =>
        refine ⟨b, o, (List.range n).map vals, rfl, by simp, ⟨by simp [hn], fun c hc => (hnn c (List.mem_of_mem_take hc)).1, fun i c u e1 e2 => ?_⟩, fun j u e => ?_⟩
        · rw [List.getElem?_take] at e1
          split at e1
          · rename_i hi
            simp [hi] at e2
            subst e2
            exact hrel i c e1
          · cases e1
        · have hj : j < n := by
            have := (List.getElem?_eq_some_iff.1 e).1
            simpa using this
          simp [hj] at e
          subst e
          exact hcell j _ (List.getElem?_eq_getElem (by omega))
    · simp at h
  | ptr id ver idx off =>
    simp only [rd] at h
    split at h
    · rename_i ob hob
      split at h
      · rename_i hver
        split at h
        · rename_i r hr
          split at h
          · rename_i hlen
            simp at h; subst h
            obtain ⟨T, hT, ho⟩ := hk.obj id ob hob
            obtain ⟨c, et, hh, hsz, hrow⟩ := ho.row
            obtain ⟨hrl, hcells⟩ := hrow idx r hr
            cases hp with
            | ptrd _ _ _ _ a hal hd => exact absurd (hd T hT) (by rw [ho.ver, hver]; omega)
            | ptr _ _ _ _ T' hT' hal hv =>
              rw [hT] at hT'
              obtain rfl := Option.some.inj hT'
              have hget : ∀ j, j < n → ∃ x, r[off + j]? = some x ∧ ∃ u, c[T.base + idx * ob.sz + (off + j)]? = some u ∧ x.leaf = true ∧ VRel K w x u := by
                intro j hj
                have hlt : off + j < r.length := by omega
                obtain ⟨h1, u, h2, h3⟩ := hcells (off + j) _ (List.getElem?_eq_getElem hlt)
                exact ⟨_, List.getElem?_eq_getElem hlt, u, h2, h1, h3⟩
              refine ⟨T.blk, T.base + idx * T.sz + off, (List.range n).map fun j => (c[T.base + idx * ob.sz + (off + j)]?).getD Go.undef, rfl, by simp, ⟨by simp; omega, fun x hx => ?_, fun i x u e1 e2 => ?_⟩, fun j u e => ?_⟩
              · obtain ⟨j, hj, rfl⟩ := List.getElem_of_mem hx
                have hj' : j < n := by simp at hj; omega
                obtain ⟨x, h1, u, h2, h3, h4⟩ := hget j hj'
                have : ((r.drop off).take n)[j] = x := by
                  have h5 : ((r.drop off).take n)[j]? = some x := by rw [List.getElem?_take, if_pos hj', List.getElem?_drop]; exact h1
                  rw [List.getElem?_eq_getElem hj] at h5
                  exact Option.some.inj h5
                rw [this]; exact h3
              · rw [List.getElem?_take] at e1
                split at e1
                · rename_i hi
                  rw [List.getElem?_drop] at e1
                  obtain ⟨x', h1, u', h2, h3, h4⟩ := hget i hi
                  rw [h1] at e1
                  obtain rfl := Option.some.inj e1
                  simp [hi, h2] at e2
                  subst e2
                  exact h4
                · cases e1
              · have hj : j < n := by
                  have := (List.getElem?_eq_some_iff.1 e).1
                  simpa using this
                obtain ⟨x', h1, u', h2, h3, h4⟩ := hget j hj
                simp [hj, h2] at e
                subst e
                rw [cell_of_row w T.blk _ c et _ hh, ho.sz]
                rw [← h2]
                congr 1
                omega
          · simp at h
        · simp at h
      · simp at h
    · simp at h
  | _ => simp [rd] at h
end
end Go.Ilv
