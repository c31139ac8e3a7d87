/- An operation that calls no Go function: what the evaluator says, the machine does. -/
import Derived.Test.YtdofkchhdckomaaIlvAppend
set_option linter.unusedVariables false
set_option linter.unusedSimpArgs false
namespace Go.Ilv
open Go

section
variable {C : Cfg} {P : Program} {gl : Nat → Option (List V)} {K : Ctx} {s : St} {w w' : World} {e : Env} {a : Act}

/-- Rows filled one behind the other. -/
theorem fill_rows {sz : Nat} : ∀ (us : List (Nat × Value)) (k : Nat) (cs : Array Value), (∀ (j : Nat) (x : Nat × Value), us[j]? = some x → x.1 = k + j ∧ x.2.cells.size = sz) → (k + us.length) * sz ≤ cs.size →
    ∃ q, Instr.fill (fun i => some (i * sz, sz)) cs us = some q ∧ q.toList = cs.toList.take (k * sz) ++ (us.map fun x => x.2.cells.toList).flatten ++ cs.toList.drop ((k + us.length) * sz)
  | [], k, cs, h, hl => ⟨cs, rfl, by simp⟩
  | (i, u) :: us, k, cs, h, hl => by
    obtain ⟨hik, hu⟩ := h 0 (i, u) rfl
    obtain rfl : k = i := by simpa using hik.symm
    simp only at hu
    have hl' : k * sz + sz + us.length * sz ≤ cs.size := by
      simp only [List.length_cons, Nat.add_mul] at hl
      omega
    have hfs := fold_splice u.cells.toList cs (k * sz) 0 (by simp; omega)
    have e1 : u.cells.zipIdx.foldl (fun cs (x : Value × Nat) => cs.setIfInBounds (k * sz + x.2) x.1) cs = (u.cells.toList.zipIdx 0).foldl (fun cs (x : Value × Nat) => cs.setIfInBounds (k * sz + x.2) x.1) cs := by
      rw [← Array.foldl_toList, Array.toList_zipIdx]
    rw [← e1] at hfs
    have hsize : (u.cells.zipIdx.foldl (fun cs (x : Value × Nat) => cs.setIfInBounds (k * sz + x.2) x.1) cs).size = cs.size := by
      rw [← Array.length_toList, hfs]
      simp; omega
    obtain ⟨q, g1, g2⟩ := fill_rows us (k + 1) (u.cells.zipIdx.foldl (fun cs (x : Value × Nat) => cs.setIfInBounds (k * sz + x.2) x.1) cs) (fun j x hx => by
      obtain ⟨h1, h2⟩ := h (j + 1) x (by simpa using hx)
      exact ⟨by omega, h2⟩) (by rw [hsize]; simp only [Nat.add_mul]; omega)
    refine ⟨q, ?_, ?_⟩
    · simp only [Instr.fill]
      rw [if_neg (by simp; omega)]
      exact g1
    · rw [g2, hfs]
      have hul : u.cells.toList.length = sz := by simpa using hu
      have e2 : (k + 1) * sz = k * sz + sz := by rw [Nat.add_mul]; omega
      have e3 : (k + 1 + us.length) * sz = k * sz + sz + us.length * sz := by simp only [Nat.add_mul]; omega
      have e4 : (k + (us.length + 1)) * sz = k * sz + sz + us.length * sz := by simp only [Nat.add_mul]; omega
      simp only [List.map_cons, List.flatten_cons, List.length_cons, Nat.add_zero]
      have hA : (cs.toList.take (k * sz) ++ u.cells.toList).length = (k + 1) * sz := by simp; omega
      have hge : (cs.toList.take (k * sz) ++ u.cells.toList).length ≤ (k + 1 + us.length) * sz := by rw [hA, e2, e3]; omega
      have h2 : ((cs.toList.take (k * sz) ++ u.cells.toList) ++ cs.toList.drop (k * sz + u.cells.toList.length)).drop ((k + 1 + us.length) * sz) = cs.toList.drop ((k + (us.length + 1)) * sz) := by
        rw [List.drop_append, List.drop_of_length_le hge, List.nil_append, List.drop_drop, hA, hul]
        congr 1
        rw [e3, e4, e2]
        omega
      rw [h2, List.take_left' hA]
      simp only [List.append_assoc]

theorem partsIn_get : ∀ (l : List (Nat × V)) (n : Nat), partsIn n l = true → ∀ j x, l[j]? = some x → x.1 = n + j
  | [], n, _, j, x, h => by simp at h
  | (i, v) :: r, n, hp, j, x, h => by
    simp only [partsIn, Bool.and_eq_true, decide_eq_true_eq] at hp
    cases j with
    | zero => simp at h; subst h; exact hp.1
    | succ j =>
      have := partsIn_get r (n + 1) hp.2 j x (by simpa using h)
      omega

theorem LRel.get {xs : List V} {us : List Value} (h : LRel K w xs us) {i : Nat} {x : V} (hx : xs[i]? = some x) : ∃ u, us[i]? = some u ∧ VRel K w x u := by
  have hi : i < us.length := by rw [← h.1]; exact (List.getElem?_eq_some_iff.1 hx).1
  exact ⟨us[i], List.getElem?_eq_getElem hi, h.2 i x _ hx (List.getElem?_eq_getElem hi)⟩

theorem sliceOfRows_all {frz : Bool} {id sz : Nat} {xs : List V} {r : V × Eff} (h : sliceOfRows frz id sz xs = some r) : ∀ x ∈ xs, x.storable = true ∧ x.cells.length = sz := by
  unfold sliceOfRows at h
  split at h
  · rename_i hall
    intro x hx
    have := List.all_eq_true.1 hall x hx
    simpa using this
  · cases h

theorem buildSlice_rel (hC : CfgOk C P) (hk : RelW gl K s w) {t el : TypeId} (ht : P.underlying t = some (.slice el)) {y : Ty} (hy : C.ty el = some y) (h0 : y.size ≠ 0) {n : Nat} {parts : List (Nat × V)} {us : List (Nat × Value)}
    (hi : parts.map (·.1) = us.map (·.1)) (hl : LRel K w (parts.map (·.2)) (us.map (·.2))) (hn : parts.length = n) (hpi : partsIn 0 parts = true) (hsm : n * y.size ≤ 16777216) (hn0 : n ≠ 0)
    {frz : Bool} {id : Nat} (hid : ¬ K.al id) {v : V} {eff : Eff} (h : sliceOfRows frz id y.size (parts.map (·.2)) = some (v, eff)) :
    OpDone gl K s w id v eff ((Instr.buildSlice t n us.toArray).run P w) := by
  obtain ⟨i, z, h1, h2, h3, h4, h5, h6⟩ := (hC.ty el y hy).z
  have hall := sliceOfRows_all h
  have hul : us.length = n := by rw [← hn, ← List.length_map (f := (·.1)) (as := parts), hi, List.length_map]
  have hus : ∀ (j : Nat) (x : Nat × Value), us[j]? = some x → x.1 = 0 + j ∧ x.2.cells.size = y.size := by
    intro j x hx
    have hj : j < parts.length := by rw [hn, ← hul]; exact (List.getElem?_eq_some_iff.1 hx).1
    have hp := List.getElem?_eq_getElem hj
    have e1 : (parts.map (·.1))[j]? = some parts[j].1 := by rw [List.getElem?_map, hp]; rfl
    rw [hi, List.getElem?_map, hx] at e1
    simp at e1
    refine ⟨by rw [e1]; exact partsIn_get parts 0 hpi j _ hp, ?_⟩
    have e2 : (parts.map (·.2))[j]? = some parts[j].2 := by rw [List.getElem?_map, hp]; rfl
    have e3 : (us.map (·.2))[j]? = some x.2 := by rw [List.getElem?_map, hx]; rfl
    have hr := hl.2 j _ _ e2 e3
    obtain ⟨g1, g2⟩ := hall _ (List.mem_of_getElem? e2)
    have := (hr.cells g1).1
    rw [← g2]; simpa using this.symm
  have hbig : ((Array.range (n * y.size)).map (z.cells[· % z.cells.size]!)).size = n * y.size := by simp
  obtain ⟨q, g1, g2⟩ := fill_rows us 0 ((Array.range (n * y.size)).map (z.cells[· % z.cells.size]!)) hus (by rw [hbig, hul, Nat.zero_add]; exact Nat.le_refl _)
  have hrl : ∀ r ∈ us.map (fun x => x.2.cells.toList), r.length = y.size := by
    intro r hr
    obtain ⟨x, hx, rfl⟩ := List.mem_map.1 hr
    obtain ⟨j, hj⟩ := List.getElem?_of_mem hx
    simpa using (hus j x hj).2
  have hq : q.toList = (us.map fun x => x.2.cells.toList).flatten := by
    rw [g2]
    simp only [Nat.zero_mul, List.take_zero, List.nil_append, Nat.zero_add, hul]
    rw [List.drop_of_length_le (by simp), List.append_nil]
  have hnz : n * y.size ≠ 0 := Nat.mul_ne_zero hn0 h0
  have hrun : (Instr.buildSlice t n us.toArray).run P w = .ok (.slice (some ⟨w.heap.size, 0, none⟩) n n) (w.alloc (.cells q el)) := by
    have hsm' : ¬ (16777216 < n * y.size) := by omega
    simp only [Instr.buildSlice, Sem.run_bind, r_under ht, Result.andThen_ok, (hC.ty el y hy).run_size]
    simp [hsm', hnz, r_zero h1 h4, g1, newRow]
  have hplen : (parts.map (·.2)).length = n := by simp [hn]
  obtain ⟨K', e1, e2, e3, e4⟩ := made hk h (by omega) hid (vals := fun i j => ((us[i]?).bind fun x => x.2.cells.toList[j]?).getD Go.undef) (fun i x j c hx hc => by
      obtain ⟨u, hu, hr⟩ := hl.get hx
      rw [List.getElem?_map] at hu
      cases hq' : us[i]? with
      | none => simp [hq'] at hu
      | some p =>
        simp [hq'] at hu
        have hcr := hr.cells (hall x (List.mem_of_getElem? hx)).1
        have hj : j < u.cells.toList.length := by rw [← hcr.1]; exact (List.getElem?_eq_some_iff.1 hc).1
        refine ⟨hcr.2.1 c (List.mem_of_getElem? hc), ?_⟩
        have := hcr.2.2 j c _ hc (List.getElem?_eq_getElem hj)
        simp only [Option.bind_some, hu]
        rw [List.getElem?_eq_getElem hj]
        exact this) (fun x hx hf => by
      obtain ⟨j, hj⟩ := List.getElem?_of_mem hx
      obtain ⟨u, _, hr⟩ := hl.get hj
      exact hr.flat_noIds hf) (newer_alloc (w := w) q el) (cap := n) (by rw [hplen]; omega) (by
      rw [← Array.length_toList, hq, rows_len _ hrl]; simp [hul]) (fun i j hi' hj' => by
      rw [← Array.getElem?_toList, hq, rows_get _ hrl i j hj', List.getElem?_map]
      have hi2 : i < us.length := by rw [hul, ← hplen]; exact hi'
      rw [List.getElem?_eq_getElem hi2]
      have hj2 : j < us[i].2.cells.toList.length := by
        have := (hus i _ (List.getElem?_eq_getElem hi2)).2
        simp; omega
      simp only [Option.map_some, Option.bind_some]
      rw [List.getElem?_eq_getElem hj2]
      rfl)
  rw [hrun]
  refine ⟨K', _, _, rfl, e1, e2, ?_, e4⟩
  rw [hplen] at e3
  exact e3

theorem ofCells_cells {agg : Bool} {cs : List V} {z : V} (h : ofCells agg cs = some z) (hl : ∀ c ∈ cs, c.leaf = true) : z.cells = cs := by
  unfold ofCells at h
  cases agg with
  | true => simp at h; subst h; rfl
  | false =>
    simp at h
    match cs, h, hl with
    | [c], h, hl => simp at h; subst h; exact V.leaf_cells (hl c (by simp))

theorem makeSlice_rel (hC : CfgOk C P) (hk : RelW gl K s w) {t el : TypeId} (ht : P.underlying t = some (.slice el)) {y : Ty} (hy : C.ty el = some y) (h0 : y.size ≠ 0) {n m : Int} {kn km : IntKind} (hn : 0 ≤ n) (hnm : n ≤ m)
    (hroom : roomOk m.toNat y.bytes = true) {z : V} (hz : ofCells y.kind.agg y.zero = some z) {frz : Bool} {id : Nat} (hid : ¬ K.al id) {v : V} {eff : Eff} (h : sliceOfRows frz id y.size (List.replicate n.toNat z) = some (v, eff)) :
    OpDone gl K s w id v eff ((Instr.makeSlice t (.int kn n) (.int km m)).run P w) := by
  obtain ⟨i, zv, h1, h2, h3, h4, h5, h6⟩ := (hC.ty el y hy).z
  obtain ⟨r1, r2⟩ := roomOk_spec hroom
  have hzr := h6 K w
  have hzc := ofCells_cells hz hzr.2.1
  have hr := run_make (P := P) w t el i zv ht h1 h4 kn km n m hn hnm (by
    have : ((m.toNat * y.bytes : Nat) : Int) ≤ ((35184372088832 : Nat) : Int) := Int.ofNat_le.2 r2
    rw [Int.natCast_mul] at this
    have e : ((m.toNat : Nat) : Int) = m := by omega
    rw [e] at this
    rw [h3, Int.mul_comm]
    omega) (by omega)
  rw [h2] at hr
  have hlen : (List.replicate n.toNat z).length = n.toNat := by simp
  have hzlen : y.zero.length = y.size := by rw [hzr.1]; simpa using h5
  obtain ⟨K', e1, e2, e3, e4⟩ := made hk h (by omega) hid (vals := fun _ j => (zv.cells[j]?).getD Go.undef) (fun i' x j c hx hc => by
      have : x = z := List.eq_of_mem_replicate (List.mem_of_getElem? hx)
      subst this
      rw [hzc] at hc
      have hj : j < y.zero.length := (List.getElem?_eq_some_iff.1 hc).1
      refine ⟨hzr.2.1 c (List.mem_of_getElem? hc), ?_⟩
      have hj2 : j < zv.cells.size := by omega
      have := hzr.2.2 j c zv.cells[j] hc (by simp)
      rw [Array.getElem?_eq_getElem hj2]
      exact this) (fun x hx hf => by
      have : x = z := List.eq_of_mem_replicate hx
      subst this
      refine noIds_of_cells (K := K) (w := w) hf fun j c hc => ?_
      rw [hzc] at hc
      have hj2 : j < zv.cells.toList.length := by rw [← hzr.1]; exact (List.getElem?_eq_some_iff.1 hc).1
      exact ⟨_, hzr.2.2 j c _ hc (List.getElem?_eq_getElem hj2)⟩) (newer_alloc (w := w) (madeCells zv.cells (m.toNat * y.size)) el) (cap := m.toNat) (by rw [hlen]; omega) (by rw [size_madeCells]; exact Nat.le_refl _) (fun i' j hi' hj' => by
      rw [hlen] at hi'
      have hlt : i' * y.size + j < m.toNat * y.size := by
        have : (i' + 1) * y.size ≤ m.toNat * y.size := Nat.mul_le_mul_right _ (by omega)
        rw [Nat.add_mul] at this
        omega
      have hmod : (i' * y.size + j) % zv.cells.size = j := by rw [h5, Nat.mul_comm, Nat.mul_add_mod, Nat.mod_eq_of_lt hj']
      have hj2 : j < zv.cells.size := by omega
      simp only [madeCells, Array.getElem?_map, Array.getElem?_range, hlt, if_true, Option.map_some, hmod]
      rw [Array.getElem?_eq_getElem hj2]
      simp [hj2])
  rw [hr]
  refine ⟨K', _, _, rfl, e1, e2, ?_, e4⟩
  rw [hlen] at e3
  exact e3

theorem popnds_rel (hk : RelW C.glob K s w) (he : ERel K w e a) : ∀ {l : List (Nat × Operand)} {vs : List (Nat × V)}, popnds C e l = some vs →
    vs.map (·.1) = (l.map fun x => (x.1, a.eval x.2)).map (·.1) ∧ LRel K w (vs.map (·.2)) ((l.map fun x => (x.1, a.eval x.2)).map (·.2))
  | [], vs, h => by simp [popnds] at h; subst h; exact ⟨rfl, .nil⟩
  | (i, x) :: r, vs, h => by
    simp only [popnds] at h
    split at h
    · rename_i v l' h1 h2
      simp at h; subst h
      obtain ⟨g1, g2⟩ := popnds_rel hk he h2
      exact ⟨by simp [g1], .cons (opnd_rel hk he h1) g2⟩
    · simp at h
theorem oopnd_rel (hk : RelW C.glob K s w) (he : ERel K w e a) {x : Option Operand} {v : Option V} (h : oopnd C e x = some v) :
    (∀ v', v = some v' → ∃ u', x.map a.eval = some u' ∧ VRel K w v' u') ∧ (v = none → x.map a.eval = none) := by
  cases x with
  | none => simp [oopnd] at h; subst h; simp
  | some x =>
    simp only [oopnd] at h
    split at h
    · rename_i v' hv
      simp at h; subst h
      exact ⟨fun v2 h2 => ⟨_, rfl, by simp at h2; subst h2; exact opnd_rel hk he hv⟩, by simp⟩
    · cases h

def notStore (o : Oper) : Bool := match o.op with
  | .store .. => false
  | _ => true
/-- What a plain operation comes to, at the machine's level. -/
def PrimDone (P : Program) (gl : Nat → Option (List V)) (K : Ctx) (s : St) (w : World) (id : Nat) (v : V) (eff : Eff) (o : Oper) (a : Act) : Prop :=
  ∃ K' w' u, ((execOp a.eval o).run P w = .ok (.value u) w' ∨ ((execOp a.eval o).run P w = .ok .skip w' ∧ u = Go.undef)) ∧ Stp K w K' w' ∧ RelW gl K' (eff.on s) w' ∧ VRel K' w' v u ∧
    ∀ j, K'.al j → K.al j ∨ (j = id ∧ notStore o = true ∧ ∃ o, eff = .set id o)
theorem PrimDone.of_val {o : Oper} {id : Nat} {v : V} {u : Value} (hk : RelW gl K s w) (h : (execOp a.eval o).run P w = .ok (.value u) w) (hv : VRel K w v u) : PrimDone P gl K s w id v .none o a :=
  ⟨K, w, u, .inl h, Stp.refl _ _, hk, hv, fun j h => .inl h⟩
theorem PrimDone.of_done {o : Oper} {id : Nat} {v : V} {eff : Eff} {x : Sem Value} (h : OpDone gl K s w id v eff (x.run P w)) (hns : notStore o = true) (he : execOp a.eval o = (do pure (.value (← x)))) : PrimDone P gl K s w id v eff o a := by
  obtain ⟨K', w', u, h1, h2, h3, h4, h5⟩ := h
  refine ⟨K', w', u, .inl ?_, h2, h3, h4, fun j hj => (h5 j hj).imp_right fun h => ⟨h.1, hns, h.2⟩⟩
  rw [he]
  simp [h1]
theorem PrimDone.of_run {o : Oper} {id : Nat} {v : V} {x : Sem Value} (hk : RelW gl K s w) (h : ∃ r, x.run P w = .ok r w ∧ VRel K w v r) (he : execOp a.eval o = (do pure (.value (← x)))) : PrimDone P gl K s w id v .none o a := by
  obtain ⟨r, h1, h2⟩ := h
  refine ⟨K, w, r, .inl ?_, Stp.refl _ _, hk, h2, fun j h => .inl h⟩
  rw [he]
  simp [h1]

theorem prim_rel (hC : CfgOk C P) (hk : RelW C.glob K s w) (he : ERel K w e a) {o : Oper} {frz : Bool} {id : Nat} (hid : ¬ K.al id) {v : V} {eff : Eff} (h : prim C frz e s id o.op = some (v, eff)) :
    PrimDone P C.glob K s w id v eff o a := by
  have hq : ∀ {x : Option V}, x.map (fun v => (v, Eff.none)) = some (v, eff) → x = some v ∧ eff = .none := by
    intro x hx
    cases x with
    | none => simp at hx
    | some x => simp at hx; exact ⟨by rw [hx.1], hx.2.symm⟩
  unfold prim at h
  simp only at h
  split at h
  · -- move
    rename_i x hop
    obtain ⟨h1, rfl⟩ := hq h
    exact .of_val hk (by simp [execOp, hop]) (opnd_rel hk he h1)
  · rename_i x hop
    obtain ⟨h1, rfl⟩ := hq h
    exact .of_val hk (by simp [execOp, hop]) (opnd_rel hk he h1)
  · -- pick
    rename_i c x y hop
    split at h
    · rename_i t vx vy hc hx hy
      simp at h; obtain ⟨rfl, rfl⟩ := h
      have hcr := opnd_rel hk he hc
      have hxr := opnd_rel hk he hx
      have hyr := opnd_rel hk he hy
      generalize hgc : a.eval c = uc at hcr
      cases hcr
      refine .of_val (u := if t then a.eval x else a.eval y) hk (by simp [execOp, hop, hgc, asBool]) ?_
      cases t <;> simpa
    · rename_i vx hc hx hy
      simp at h; obtain ⟨rfl, rfl⟩ := h
      have hcr := opnd_rel hk he hc
      generalize hgc : a.eval c = uc at hcr
      cases hcr
      exact .of_val hk (by simp [execOp, hop, hgc, asBool]) (opnd_rel hk he hx)
    · rename_i vy hc hx hy
      simp at h; obtain ⟨rfl, rfl⟩ := h
      have hcr := opnd_rel hk he hc
      generalize hgc : a.eval c = uc at hcr
      cases hcr
      exact .of_val hk (by simp [execOp, hop, hgc, asBool]) (opnd_rel hk he hy)
    · cases h
  · -- alloc
    rename_i t hop
    split at h
    · rename_i y hy
      split at h
      · cases h
      · rename_i h0
        simp at h; obtain ⟨rfl, rfl⟩ := h
        exact .of_done (alloc_rel hC hk hy h0 hid) (by simp [notStore, hop]) (by simp only [execOp, hop])
    · cases h
  · -- box
    rename_i t x hop
    split at h
    · rename_i y vx hy hx
      split at h
      · cases h
      · rename_i h0
        split at h
        · rename_i hb
          simp only [Bool.and_eq_true, decide_eq_true_eq] at hb
          simp at h; obtain ⟨rfl, rfl⟩ := h
          have := box_rel (P := P) (t := t) hC hk (opnd_rel hk he hx) hb.1 (by omega) hid
          rw [hb.2] at this
          exact .of_done this (by simp [notStore, hop]) (by simp only [execOp, hop])
        · cases h
    · cases h
  · -- build
    rename_i t ps hop
    split at h
    · rename_i l hl
      obtain ⟨h1, rfl⟩ := hq h
      obtain ⟨g1, g2⟩ := popnds_rel hk he hl
      have := build_rel hC g1 g2 h1
      refine .of_run hk this ?_
      simp only [execOp, hop]
      congr 3
      rw [← List.map_toArray, Array.toArray_toList]
    · cases h
  · -- buildSlice
    rename_i t n ps hop
    split at h
    · rename_i el sz by_ zr l hty hl
      split at h
      · rename_i y hy
        split at h
        · rename_i hn0
          split at h
          · rename_i hemp
            simp at h; obtain ⟨rfl, rfl⟩ := h
            have hl0 : l = [] := by simpa using hemp
            subst hl0
            have hps : ps = #[] := by
              cases ps with
              | mk ps => cases ps with
                | nil => rfl
                | cons p r => obtain ⟨i, x⟩ := p; simp only [popnds] at hl; split at hl <;> simp at hl
            subst hps
            subst hn0
            have hw := newer_alloc (w := w) #[] el
            refine ⟨K, w.alloc (.cells #[] el), .slice (some ⟨w.heap.size, 0, none⟩) 0 0, .inl ?_, hw.stp, hk.same hw.stp (fun id T hT => hw.old _ (hk.blk_lt hT)), .nils _, fun j h => .inl h⟩
            simp [execOp, hop, Instr.buildSlice, r_under ((hC.ty t _ hty).sl rfl), (hC.ty el y hy).run_size, Instr.fill, newRow, Array.range_zero']
          · cases h
        · rename_i hn0
          split at h
          · cases h
          · rename_i h0
            split at h
            · rename_i hb
              simp only [Bool.and_eq_true, decide_eq_true_eq] at hb
              obtain ⟨⟨hb1, hb2⟩, hb3⟩ := hb
              obtain ⟨g1, g2⟩ := popnds_rel hk he hl
              have := buildSlice_rel hC hk ((hC.ty t _ hty).sl rfl) hy h0 g1 g2 hb1 hb2 hb3 hn0 hid h
              refine .of_done this (by simp [notStore, hop]) ?_
              simp only [execOp, hop]
              congr 3
              rw [← List.map_toArray, Array.toArray_toList]
            · cases h
      · cases h
    · cases h
  · -- load
    rename_i t x hop
    split at h
    · rename_i y p hy hx
      split at h
      · rename_i cs hcs
        obtain ⟨h1, rfl⟩ := hq h
        obtain ⟨b, o', us, g1, g2, g3, g4⟩ := rd_rel hk (opnd_rel hk he hx) hcs
        obtain ⟨u, e1, e2, e3⟩ := VRel.ofCells g3 h1
        obtain ⟨f1, f2⟩ := r_loadVar (P := P) (hC.ty t y hy) g4 g2
        refine .of_run hk ⟨u, ?_, e1⟩ (x := Instr.loadAt t (a.eval x)) (by simp only [execOp, hop])
        rw [g1]
        simp only [Instr.loadAt, Instr.sureAddr, Sem.run_bind, Sem.run_pure, Result.andThen_ok]
        cases hag : y.kind.agg with
        | true => rw [f1 hag, e2 hag]
        | false => exact f2 hag u (e3 hag)
      · cases h
    · cases h
  · -- store
    rename_i t p x hop
    split at h
    · rename_i y i ver idx off vx hy hp hx
      split at h
      · rename_i hb
        simp only [Bool.and_eq_true, decide_eq_true_eq] at hb
        split at h
        · rename_i ob hob
          split at h
          · rename_i hv
            split at h
            · rename_i r hr
              split at h
              · rename_i hle
                simp at h; obtain ⟨rfl, rfl⟩ := h
                obtain ⟨w', g1, g2, g3⟩ := store_rel (P := P) (t := t) hC hk hy (opnd_rel hk he hp) (opnd_rel hk he hx) hb.1 hb.2 hob hv hr hle
                refine ⟨K, w', Go.undef, .inr ⟨?_, rfl⟩, g2, g3, .undef, fun j h => .inl h⟩
                simp [execOp, hop, g1]
              · cases h
            · cases h
          · cases h
        · cases h
      · cases h
    · cases h
  · -- nilCheck
    rename_i x hop
    split at h
    · rename_i i1 i2 i3 i4 hx
      simp at h; obtain ⟨rfl, rfl⟩ := h
      have hxr := opnd_rel hk he hx
      generalize hg : a.eval x = u at hxr
      have hxr' := hxr
      cases hxr' <;> exact .of_val hk (by simp [execOp, hop, hg]) hxr
    · rename_i cs hx
      simp at h; obtain ⟨rfl, rfl⟩ := h
      have hxr := opnd_rel hk he hx
      generalize hg : a.eval x = u at hxr
      have hxr' := hxr
      cases hxr'; exact .of_val hk (by simp [execOp, hop, hg]) hxr
    · rename_i f c hx
      simp at h; obtain ⟨rfl, rfl⟩ := h
      have hxr := opnd_rel hk he hx
      generalize hg : a.eval x = u at hxr
      have hxr' := hxr
      cases hxr'; exact .of_val hk (by simp [execOp, hop, hg]) hxr
    · cases h
  · -- binOp
    rename_i op t x y yt hop
    split at h
    · rename_i vx vy hx hy
      obtain ⟨h1, rfl⟩ := hq h
      split at h1
      · rename_i hnil
        unfold isNilS at hnil
        split at hnil
        · obtain ⟨r, g1, g2, g3⟩ := nilCmp_rel hC (opnd_rel hk he hx) h1 x (.const (.slice none 0 0))
          exact .of_val hk (by simp [execOp, hop, Act.eval]; simp [Act.eval] at g1 g2; simp [g1, g2]) g3
        · cases hnil
      · obtain ⟨r, g1, g2, g3⟩ := bin_rel hC (opnd_rel hk he hx) (opnd_rel hk he hy) h1 x y
        exact .of_val hk (by simp [execOp, hop, g1, g2]) g3
    · cases h
  · -- unOp
    rename_i op t x hop
    split at h
    · rename_i vx hx
      obtain ⟨h1, rfl⟩ := hq h
      obtain ⟨r, g1, g2⟩ := un_rel (P := P) (opnd_rel hk he hx) h1
      exact .of_val hk (by simp [execOp, hop, g1]) g2
    · cases h
  · -- convert
    rename_i t1 t2 x hop
    split at h
    · rename_i y1 k sz by_ zr ks n h1 h2 hx
      simp at h; obtain ⟨rfl, rfl⟩ := h
      have hxr := opnd_rel hk he hx
      generalize hg : a.eval x = u at hxr
      cases hxr
      obtain ⟨d1, u1, _⟩ := (hC.ty t1 y1 h1).under
      obtain ⟨d2, u2, k2⟩ := (hC.ty t2 _ h2).under
      simp only [KOk] at k2
      subst k2
      exact .of_val hk (by simp [execOp, hop, hg, convert, r_under u1, r_under u2, Conv.intToInt]) (.int _ _)
    · rename_i y1 sz by_ zr str h1 h2 hx
      simp at h; obtain ⟨rfl, rfl⟩ := h
      have hxr := opnd_rel hk he hx
      generalize hg : a.eval x = u at hxr
      cases hxr
      obtain ⟨d1, u1, _⟩ := (hC.ty t1 y1 h1).under
      obtain ⟨d2, u2, k2⟩ := (hC.ty t2 _ h2).under
      simp only [KOk] at k2
      subst k2
      exact .of_val hk (by simp [execOp, hop, hg, convert, r_under u1, r_under u2]) (.str _)
    · cases h
  · -- makeFunc
    rename_i f first cap hop
    split at h
    · rename_i hf
      split at h
      · rename_i l hl
        simp at h; obtain ⟨rfl, rfl⟩ := h
        have hlr := opnds_rel hk he hl
        have hfirst : first = #[] := by simpa using hf
        subst hfirst
        refine .of_val (u := .func (.func f) #[] (cap.toList.map a.eval).toArray) hk ?_ (.fn f l _ hlr.1 hlr.2)
        have e : cap.map a.eval = (cap.toList.map a.eval).toArray := by rw [← List.map_toArray, Array.toArray_toList]
        simp only [execOp, hop, Instr.makeFunc, e, Array.map_empty]
        rfl
      · cases h
    · cases h
  · -- makeSlice
    rename_i t l c hop
    split at h
    · rename_i el sz by_ zr kn n km m hty hl hc
      split at h
      · rename_i y hy
        split at h
        · rename_i hb
          obtain ⟨h0, hn, hnm, hroom⟩ := hb
          split at h
          · rename_i z hz
            have hlr := opnd_rel hk he hl
            have hcr := opnd_rel hk he hc
            generalize hg1 : a.eval l = ul at hlr
            generalize hg2 : a.eval c = uc at hcr
            cases hlr; cases hcr
            have := makeSlice_rel (kn := kn) (km := km) hC hk ((hC.ty t _ hty).sl rfl) hy h0 hn hnm hroom hz hid h
            exact .of_done this (by simp [notStore, hop]) (by simp only [execOp, hop, hg1, hg2])
          · cases h
        · cases h
      · cases h
    · cases h
  · -- slice
    rename_i t x lo hi mx hop
    split at h
    · rename_i vx vl vh vm hx hl hh hm
      obtain ⟨h1, rfl⟩ := hq h
      obtain ⟨l1, l2⟩ := oopnd_rel hk he hl
      obtain ⟨m1, m2⟩ := oopnd_rel hk he hh
      obtain ⟨n1, n2⟩ := oopnd_rel hk he hm
      exact .of_run hk (sliceOp_rel hC (opnd_rel hk he hx) l1 l2 m1 m2 n1 n2 h1) (by simp only [execOp, hop])
    · cases h
  · -- fieldAddr
    rename_i t x f hop
    split at h
    · rename_i p hx
      obtain ⟨h1, rfl⟩ := hq h
      exact .of_run hk (fieldAddr_rel hC (opnd_rel hk he hx) h1) (by simp only [execOp, hop])
    · cases h
  · rename_i t x f hop
    split at h
    · rename_i p hx
      obtain ⟨h1, rfl⟩ := hq h
      exact .of_run hk (field_rel hC (opnd_rel hk he hx) h1) (by simp only [execOp, hop])
    · cases h
  · rename_i t x i hop
    split at h
    · rename_i p n hx hn
      obtain ⟨h1, rfl⟩ := hq h
      exact .of_run hk (indexAddr_rel hC (opnd_rel hk he hx) (opnd_rel hk he hn) h1) (by simp only [execOp, hop])
    · cases h
  · rename_i t x i hop
    split at h
    · rename_i p n hx hn
      obtain ⟨h1, rfl⟩ := hq h
      exact .of_run hk (index_rel hC (opnd_rel hk he hx) (opnd_rel hk he hn) h1) (by simp only [execOp, hop])
    · cases h
  · -- extract
    rename_i x i hop
    split at h
    · rename_i vs hx
      obtain ⟨h1, rfl⟩ := hq h
      have hxr := opnd_rel hk he hx
      generalize hg : a.eval x = u at hxr
      cases hxr with
      | tup _ us hl hh =>
        obtain ⟨u, hu, hr⟩ := LRel.get ⟨hl, hh⟩ h1
        exact .of_val hk (by simp [execOp, hop, hg, Instr.extract, hu]) hr
    · cases h
  · -- built-in functions
    rename_i b args argTypes hop
    have hex : ∀ (x : Sem Value), builtin b argTypes o.type (args.map fun | .const _ => true | _ => false) (args.toList.map a.eval).toArray = (do pure (.value (← x))) → execOp a.eval o = (do pure (.value (← x))) := by
      intro x hx
      have e : args.map a.eval = (args.toList.map a.eval).toArray := by rw [← List.map_toArray, Array.toArray_toList]
      simp only [execOp, hop, resolve, e]
      exact hx
    split at h
    · split at h
      · rename_i t x ht hx
        obtain ⟨h1, rfl⟩ := hq h
        have hxr := opnds_rel hk he hx
        have hat : argTypes = #[t] := by rw [← Array.toArray_toList (xs := argTypes), ht]
        subst hat
        match hm : args.toList.map a.eval, hxr with
        | [u], hxr => exact .of_run hk (lenOp_rel (ty := o.type) hC hxr.head h1) (hex _ (by rw [hm]; rfl))
        | [], hxr => exact absurd hxr.1 (by simp)
        | _ :: _ :: _, hxr => exact absurd hxr.1 (by simp)
      · cases h
    · split at h
      · rename_i t u x y ht hx
        split at h
        · rename_i el sz by_ zr el2 sz2 by2 zr2 ht1 ht2
          split at h
          · rename_i htu
            subst htu
            have hat : argTypes = #[t, t] := by rw [← Array.toArray_toList (xs := argTypes), ht]
            subst hat
            have hxr := opnds_rel hk he hx
            match hm : args.toList.map a.eval, hxr with
            | [u1, u2], hxr => exact .of_done (append_rel (tt := o.type) hC hk ((hC.ty t _ ht1).sl rfl) hxr.head hxr.tail.head hid h) (by simp [notStore, hop]) (hex _ (by rw [hm]; rfl))
            | [], hxr => exact absurd hxr.1 (by simp)
            | [_], hxr => exact absurd hxr.1 (by simp)
            | _ :: _ :: _ :: _, hxr => exact absurd hxr.1 (by simp)
          · cases h
        · cases h
      · cases h
    · split at h
      · rename_i l hx
        obtain ⟨h1, rfl⟩ := hq h
        have hxr := opnds_rel hk he hx
        unfold foldMax at h1
        split at h1
        · rename_i k n r
          match hm : args.toList.map a.eval, hxr with
          | [], hxr => exact absurd hxr.1 (by simp)
          | u :: us, hxr =>
            have hh := hxr.head
            cases hh
            obtain ⟨q, g1, g2⟩ := foldInt_rel (P := P) true r us n v hxr.tail (by simpa using h1)
            exact .of_run hk ⟨q, by simpa using g1, g2⟩ (hex _ (by rw [hm]; rfl))
        · cases h1
      · cases h
    · split at h
      · rename_i l hx
        obtain ⟨h1, rfl⟩ := hq h
        have hxr := opnds_rel hk he hx
        unfold foldMax at h1
        split at h1
        · rename_i k n r
          match hm : args.toList.map a.eval, hxr with
          | [], hxr => exact absurd hxr.1 (by simp)
          | u :: us, hxr =>
            have hh := hxr.head
            cases hh
            obtain ⟨q, g1, g2⟩ := foldInt_rel (P := P) false r us n v hxr.tail (by simpa using h1)
            exact .of_run hk ⟨q, by simpa using g1, g2⟩ (hex _ (by rw [hm]; rfl))
        · cases h1
      · cases h
    · split at h
      · rename_i t x ht hx
        obtain ⟨h1, rfl⟩ := hq h
        have hxr := opnds_rel hk he hx
        have hat : argTypes = #[t] := by rw [← Array.toArray_toList (xs := argTypes), ht]
        subst hat
        match hm : args.toList.map a.eval, hxr with
        | [u], hxr => exact .of_run hk (capOp_rel (ty := o.type) hC hxr.head h1) (hex _ (by rw [hm]; rfl))
        | [], hxr => exact absurd hxr.1 (by simp)
        | _ :: _ :: _, hxr => exact absurd hxr.1 (by simp)
      · cases h
    · cases h
  · cases h
end
end Go.Ilv
