/- The arguments of a law, read as the evaluator's values; and the row's end. -/
import Derived.Test.YtdofkchhdckomaaIlvLim
import Derived.WalkKit
import Derived.ProofKit
import Derived.OpenShut
import Derived.ChangeOld
import Derived.Below
import Derived.SizedLaws
import Derived.Carry
set_option linter.unusedVariables false
set_option linter.unusedSimpArgs false
namespace Go.Ilv
open Go

/-- The shape of a value without pointers. -/
inductive Sh where
  | int (k : IntKind)
  | bool
  | str
  | slice (e : Sh)
  | agg (cs : List Sh)

def Sh.leaves : Sh → List Sh
  | .agg l => l
  | s => [s]
def Sh.leaf : Sh → Bool
  | .agg _ => false
  | _ => true

mutual
/-- A value of a shape, as an argument is told. -/
def Sh.Wf : Sh → V → Prop
  | .int k, .int k' n => k' = k ∧ (Lit.int k n).wf = true
  | .bool, .bool _ => True
  | .str, .str s => s.size ≤ maxLen
  | .slice e, .lit xs => xs.length ≤ maxLen ∧ ∀ x ∈ xs, Sh.Wf e x
  | .agg l, .agg cs => Sh.WfL l cs
  | _, _ => False
def Sh.WfL : List Sh → List V → Prop
  | [], [] => True
  | s :: l, c :: r => s.leaf = true ∧ Sh.Wf s c ∧ Sh.WfL l r
  | _, _ => False
end

theorem Sh.Wf.leaf {s : Sh} {v : V} (h : s.Wf v) (hl : s.leaf = true) : v.leaf = true ∧ v.storable = true := by
  cases s <;> cases v <;> simp_all [Sh.Wf, Sh.leaf, V.leaf, V.storable]
theorem Sh.WfL.len : ∀ {l : List Sh} {vs : List V}, Sh.WfL l vs → vs.length = l.length
  | [], [], _ => rfl
  | s :: l, c :: r, h => by simp only [Sh.WfL] at h; simp [h.2.2.len]
  | [], _ :: _, h => by simp [Sh.WfL] at h
  | _ :: _, [], h => by simp [Sh.WfL] at h
theorem Sh.WfL.append : ∀ {l m : List Sh} {vs us : List V}, Sh.WfL l vs → Sh.WfL m us → Sh.WfL (l ++ m) (vs ++ us)
  | [], _, [], _, _, g => g
  | s :: l, _, c :: r, _, h, g => by simp only [Sh.WfL] at h; exact ⟨h.1, h.2.1, h.2.2.append g⟩
  | [], _, _ :: _, _, h, _ => by simp [Sh.WfL] at h
  | _ :: _, _, [], _, h, _ => by simp [Sh.WfL] at h
theorem Sh.Wf.noIds : ∀ (v : V) {s : Sh}, s.Wf v → v.noIds = true := by
  intro v
  refine V.rec (motive_1 := fun v => ∀ {s : Sh}, s.Wf v → v.noIds = true) (motive_2 := fun l => (∀ {e : Sh}, (∀ x ∈ l, e.Wf x) → V.noIdsL l = true) ∧ ∀ {m : List Sh}, Sh.WfL m l → V.noIdsL l = true) ?_ ?_ ?_ ?_ ?_ ?_ ?_ ?_ ?_ ?_ ?_ ?_ ?_ ?_ ?_ v
  all_goals intros
  all_goals first | rfl | skip
  all_goals first
    | (constructor
       · intros; rfl
       · intros; rfl)
    | skip
  case refine_4 cs ih s h => cases s <;> simp only [Sh.Wf] at h; rw [V.noIds]; exact ih.2 h
  case refine_5 xs ih s h => cases s <;> simp only [Sh.Wf] at h; rw [V.noIds]; exact ih.1 h.2
  case refine_15 v l hv hl =>
    constructor
    · intro e h
      simp only [V.noIdsL, Bool.and_eq_true]
      exact ⟨hv (h v (by simp)), hl.1 fun x hx => h x (by simp [hx])⟩
    · intro m h
      cases m with
      | nil => simp [Sh.WfL] at h
      | cons s m =>
        simp only [Sh.WfL] at h
        simp only [V.noIdsL, Bool.and_eq_true]
        exact ⟨hv h.2.1, hl.2 h.2.2⟩
  all_goals (rename_i s h; cases s <;> simp [Sh.Wf] at h)

section
variable (C : Cfg)
def shFs (sh : TypeId → Option Sh) : List (Nat × TypeId) → Nat → Option (List Sh)
  | [], _ => some []
  | (o, t) :: r, n => match C.ty t, sh t with
    | some y, some s => if o = n ∧ s.leaves.length = y.size then (shFs sh r (n + y.size)).map (s.leaves ++ ·) else none
    | _, _ => none
/-- A type's shape. -/
def shOf : Nat → TypeId → Option Sh
  | 0, _ => none
  | n + 1, t => match C.ty t with
    | some y => match y.kind with
      | .int k => some (.int k)
      | .bool => some .bool
      | .str => some .str
      | .slice e => match C.ty e, shOf n e with
        | some ye, some s => if 0 < ye.size ∧ s.leaves.length = ye.size ∧ s.leaf = !ye.kind.agg then some (.slice s) else none
        | _, _ => none
      | .struct fs => match shFs C (shOf n) fs 0 with
        | some l => if l.length = y.size then some (.agg l) else none
        | none => none
      | .arr m e => match C.ty e, shOf n e with
        | some ye, some s => if s.leaves.length = ye.size ∧ m * ye.size = y.size then some (.agg (List.replicate m s.leaves).flatten) else none
        | _, _ => none
      | _ => none
    | none => none
end

theorem CRel.append {K : Ctx} {w : World} {cs xs : List V} {us vs : List Value} (h : CRel K w cs us) (g : CRel K w xs vs) : CRel K w (cs ++ xs) (us ++ vs) := by
  refine ⟨by simp [h.1, g.1], fun c hc => ?_, fun i c u h1 h2 => ?_⟩
  · rcases List.mem_append.1 hc with hc | hc
    · exact h.2.1 c hc
    · exact g.2.1 c hc
  · by_cases hi : i < cs.length
    · rw [List.getElem?_append_left hi] at h1
      rw [List.getElem?_append_left (by rw [← h.1]; exact hi)] at h2
      exact h.2.2 i c u h1 h2
    · rw [List.getElem?_append_right (by omega)] at h1
      rw [List.getElem?_append_right (by rw [← h.1]; omega)] at h2
      rw [← h.1] at h2
      exact g.2.2 _ c u h1 h2
theorem CRel.nil {K : Ctx} {w : World} : CRel K w [] [] := ⟨rfl, by simp, by simp⟩
theorem CRel.single {K : Ctx} {w : World} {c : V} {u : Value} (hl : c.leaf = true) (h : VRel K w c u) : CRel K w [c] [u] := by
  refine ⟨rfl, by simpa using hl, fun i c' u' h1 h2 => ?_⟩
  cases i with
  | zero => simp at h1 h2; subst h1; subst h2; exact h
  | succ i => simp at h1

theorem Sh.WfL.leafs : ∀ {l : List Sh} {vs : List V}, Sh.WfL l vs → ∀ s ∈ l, s.leaf = true
  | [], [], _ => by simp
  | s :: l, c :: r, h => by
    simp only [Sh.WfL] at h
    intro x hx
    rcases List.mem_cons.1 hx with rfl | hx
    · exact h.1
    · exact h.2.2.leafs x hx
  | [], _ :: _, h => by simp [Sh.WfL] at h
  | _ :: _, [], h => by simp [Sh.WfL] at h

/-- The value over its cells. -/
theorem wf_value {s : Sh} {vs : List V} (h : Sh.WfL s.leaves vs) : ∃ v : V, s.Wf v ∧ v.cells = vs ∧ v.storable = true ∧ (s.leaf = true → v.leaf = true) ∧ (s.leaf = false → v = .agg vs) := by
  cases s with
  | agg l => exact ⟨.agg vs, h, rfl, rfl, by simp [Sh.leaf], by simp⟩
  | int k =>
    match vs, h with
    | [v], h =>
      simp only [Sh.leaves, Sh.WfL] at h
      obtain ⟨h1, h2, _⟩ := h
      have := h2.leaf rfl
      exact ⟨v, h2, V.leaf_cells this.1, this.2, fun _ => this.1, by simp [Sh.leaf]⟩
    | [], h => simp [Sh.leaves, Sh.WfL] at h
    | _ :: _ :: _, h => simp [Sh.leaves, Sh.WfL] at h
  | bool =>
    match vs, h with
    | [v], h =>
      simp only [Sh.leaves, Sh.WfL] at h
      obtain ⟨h1, h2, _⟩ := h
      have := h2.leaf rfl
      exact ⟨v, h2, V.leaf_cells this.1, this.2, fun _ => this.1, by simp [Sh.leaf]⟩
    | [], h => simp [Sh.leaves, Sh.WfL] at h
    | _ :: _ :: _, h => simp [Sh.leaves, Sh.WfL] at h
  | str =>
    match vs, h with
    | [v], h =>
      simp only [Sh.leaves, Sh.WfL] at h
      obtain ⟨h1, h2, _⟩ := h
      have := h2.leaf rfl
      exact ⟨v, h2, V.leaf_cells this.1, this.2, fun _ => this.1, by simp [Sh.leaf]⟩
    | [], h => simp [Sh.leaves, Sh.WfL] at h
    | _ :: _ :: _, h => simp [Sh.leaves, Sh.WfL] at h
  | slice e =>
    match vs, h with
    | [v], h =>
      simp only [Sh.leaves, Sh.WfL] at h
      obtain ⟨h1, h2, _⟩ := h
      have := h2.leaf rfl
      exact ⟨v, h2, V.leaf_cells this.1, this.2, fun _ => this.1, by simp [Sh.leaf]⟩
    | [], h => simp [Sh.leaves, Sh.WfL] at h
    | _ :: _ :: _, h => simp [Sh.leaves, Sh.WfL] at h

section
variable {C : Cfg} {P : Program} {H : Type} {enc : TypeId × Value → H} {w : World} {base : Nat} {sp : Nat → Bool} {held : Bool} {K : Ctx}

theorem cellsOf_eq (hC : CfgOk C P) {t : TypeId} {y : Ty} (h : C.ty t = some y) : P.cellsOf t = y.size := by
  obtain ⟨i, d, z, h1, h2, _⟩ := (hC.ty t y h).ex
  simp [Program.cellsOf, h1, h2]

theorem fields_wf (hC : CfgOk C P) {sh : TypeId → Option Sh} {cs : List Value} : ∀ (fs : List (Nat × TypeId)) (n : Nat) (l : List Sh), shFs C sh fs n = some l → n + l.length ≤ cs.length →
    (∀ f ∈ fs, ∀ s, sh f.2 = some s → ∃ vs, Sh.WfL s.leaves vs ∧ CRel K w vs ((cs.drop f.1).take (P.cellsOf f.2))) → ∃ vs, Sh.WfL l vs ∧ CRel K w vs ((cs.drop n).take l.length)
  | [], n, l, h, _, _ => by simp [shFs] at h; subst h; exact ⟨[], trivial, by simpa using CRel.nil⟩
  | (o, t) :: r, n, l, h, hl, hf => by
    simp only [shFs] at h
    split at h
    · rename_i y s hy hs
      split at h
      · rename_i hc
        obtain ⟨l', hl', rfl⟩ := Option.map_eq_some_iff.1 h
        obtain ⟨rfl, hsz⟩ := hc
        simp only [List.length_append] at hl
        obtain ⟨vs, g1, g2⟩ := hf (o, t) (by simp) s hs
        obtain ⟨us, q1, q2⟩ := fields_wf hC r _ l' hl' (by omega) fun f hfm => hf f (by simp [hfm])
        refine ⟨vs ++ us, g1.append q1, ?_⟩
        have hce : P.cellsOf t = y.size := cellsOf_eq hC hy
        have e : (cs.drop o).take (s.leaves ++ l').length = (cs.drop o).take (P.cellsOf t) ++ (cs.drop (o + y.size)).take l'.length := by
          rw [List.length_append, hsz, hce, List.take_add, List.drop_drop]
        rw [e]
        exact g2.append q2
      · cases h
    · cases h

/-- What an argument's reading says: a value of the type's shape stands for its cells. -/
theorem trod_wf (hC : CfgOk C P) (hK : ∀ b, b < w.heap.size → fz K w.heap.size b) : ∀ (n : Nat) (t : TypeId) (s : Sh), shOf C n t = some s →
    ∀ (fuel : Nat) (cs : List Value) (x : DataW H × List MemPlace), DataW.trod enc P w base sp held fuel t cs = some x → ∃ vs, Sh.WfL s.leaves vs ∧ CRel K w vs cs := by
  intro n
  induction n with
  | zero => intro t s h; simp [shOf] at h
  | succ n ih =>
    intro t s h fuel cs x hx
    simp only [shOf] at h
    split at h
    · rename_i y hy
      obtain ⟨i, d, z, hi, hsz, _, hd, hk, _⟩ := (hC.ty t y hy).ex
      have hsize : P.cellsOf t = y.size := cellsOf_eq hC hy
      split at h
      · rename_i k hkk
        simp at h; subst h
        rw [hkk] at hk; simp only [KOk] at hk; subst hk
        obtain ⟨m, rfl, _, hw⟩ := DataW.trod_int hd hx
        exact ⟨[.int k m], ⟨rfl, ⟨rfl, hw⟩, trivial⟩, CRel.single rfl (.int k m)⟩
      · rename_i hkk
        simp at h; subst h
        rw [hkk] at hk; simp only [KOk] at hk; subst hk
        obtain ⟨b, rfl, _⟩ := DataW.trod_bool hd hx
        exact ⟨[.bool b], ⟨rfl, trivial, trivial⟩, CRel.single rfl (.bool b)⟩
      · rename_i hkk
        simp at h; subst h
        rw [hkk] at hk; simp only [KOk] at hk; subst hk
        obtain ⟨b, rfl, _, hb⟩ := DataW.trod_string hd hx
        exact ⟨[.str b], ⟨rfl, hb, trivial⟩, CRel.single rfl (.str b)⟩
      · rename_i e hkk
        rw [hkk] at hk; simp only [KOk] at hk; subst hk
        split at h
        · rename_i ye s' hye hs'
          split at h
          · rename_i hc
            simp at h; subst h
            have hesz : P.cellsOf e = ye.size := cellsOf_eq hC hye
            rcases DataW.trod_slice hd hx with ⟨rfl, _⟩ | ⟨a, len, cap, elems, rest, m, _, rfl, _, hb, hl, hm, hlen, hel, _, _⟩
            · exact ⟨[.lit []], ⟨rfl, ⟨by simp [maxLen], by simp⟩, trivial⟩, CRel.single rfl (.lit0 none 0)⟩
            · cases hl0 : len with
              | zero => exact ⟨[.lit []], ⟨rfl, ⟨by simp [maxLen], by simp⟩, trivial⟩, CRel.single rfl (.lit0 _ _)⟩
              | succ len' =>
                rw [hesz] at hel
                have each : ∀ i, i < len → ∃ v : V, s'.Wf v ∧ v.storable = true ∧ v.cells.length = ye.size ∧ ∃ us : List Value, us.length = ye.size ∧ CRel K w v.cells us ∧ ∀ j, j < ye.size → w.cell? ((a.add (i * ye.size)).add j) = us[j]? := by
                  intro i hi
                  have := hel i hi
                  rw [List.getElem?_eq_getElem (by omega : i < elems.length), Option.bind_eq_some_iff] at this
                  obtain ⟨us, hus, ht⟩ := this
                  obtain ⟨_, hul, huc⟩ := World.cells?_some hus
                  obtain ⟨vs, g1, g2⟩ := ih e s' hs' m us _ ht
                  obtain ⟨v, q1, q2, q3, _⟩ := wf_value g1
                  exact ⟨v, q1, q3, by rw [q2, g1.len, hc.2.1], us, hul, by rw [q2]; exact g2, huc⟩
                have hspot : a.spot = none ∧ a.block < w.heap.size := by
                  obtain ⟨v, _, _, _, us, hul, _, huc⟩ := each 0 (by omega)
                  have := huc 0 hc.1
                  rw [List.getElem?_eq_getElem (by omega)] at this
                  simp only [Nat.zero_mul, Addr.add, if_true] at this
                  unfold World.cell? at this
                  split at this
                  · rename_i c t1 f1 hh
                    split at this
                    · cases this
                    · rename_i hns
                      exact ⟨by simpa using hns, (Array.getElem?_eq_some_iff.1 hh).1⟩
                  · cases this
                have hadd : ∀ i j, (a.add (i * ye.size)).add j = ⟨a.block, a.off + i * ye.size + j, none⟩ := by
                  intro i j
                  obtain ⟨b, o, sp⟩ := a
                  simp only at hspot
                  obtain ⟨rfl, _⟩ := hspot
                  unfold Addr.add
                  by_cases h1 : i * ye.size = 0 <;> by_cases h2 : j = 0 <;> simp [h1, h2]
                have eachF : ∃ f : Nat → V, ∃ g : Nat → List Value, ∀ i, i < len → s'.Wf (f i) ∧ (f i).storable = true ∧ (f i).cells.length = ye.size ∧ (g i).length = ye.size ∧ CRel K w (f i).cells (g i) ∧ ∀ j, j < ye.size → w.cell? ((a.add (i * ye.size)).add j) = (g i)[j]? := by
                  refine ⟨fun i => if h : i < len then Classical.choose (each i h) else .undef, fun i => if h : i < len then Classical.choose (Classical.choose_spec (each i h)).2.2.2 else [], fun i hi => ?_⟩
                  have h1 := Classical.choose_spec (each i hi)
                  have h2 := Classical.choose_spec h1.2.2.2
                  simp only [dif_pos hi]
                  exact ⟨h1.1, h1.2.1, h1.2.2.1, h2.1, h2.2.1, h2.2.2⟩
                obtain ⟨f, g, hfg⟩ := eachF
                have hgl : ((List.range len).map f).length = len := by simp
                have hget : ∀ i x, ((List.range len).map f)[i]? = some x → i < len ∧ x = f i := by
                  intro i x hix
                  obtain ⟨hi, hx'⟩ := List.getElem?_eq_some_iff.1 hix
                  simp at hi hx'
                  exact ⟨hi, hx'.symm⟩
                have hmem : ∀ x ∈ (List.range len).map f, ∃ i, i < len ∧ x = f i := by
                  intro x hx
                  obtain ⟨i, hi, rfl⟩ := List.mem_map.1 hx
                  exact ⟨i, by simpa using hi, rfl⟩
                have hv : VRel K w (.lit ((List.range len).map f)) (.slice (some a) ((List.range len).map f).length cap) := by
                  have ha : a = ⟨a.block, a.off, none⟩ := by obtain ⟨b, o, sp⟩ := a; simp only at hspot; rw [hspot.1]
                  rw [ha]
                  refine .lit _ a.block a.off ye.size cap (fun i j => (g i).getD j Go.undef) (hK _ hspot.2) (by rw [hgl]; exact hl) (fun x hx => ?_) (fun i x j c h1 h2 => ?_) (fun i x j c h1 h2 => ?_)
                  · obtain ⟨i, hi, rfl⟩ := hmem x hx
                    obtain ⟨q1, q2, q3, _⟩ := hfg i hi
                    exact ⟨q3, q2, q1.noIds⟩
                  · obtain ⟨hi, rfl⟩ := hget i x h1
                    obtain ⟨q1, q2, q3, q4, q5, q6⟩ := hfg i hi
                    have hj : j < ye.size := by rw [← q3]; exact (List.getElem?_eq_some_iff.1 h2).1
                    refine ⟨q5.2.1 c (List.mem_of_getElem? h2), ?_⟩
                    have := q6 j hj
                    rw [hadd] at this
                    rw [this, List.getElem?_eq_getElem (by omega)]
                    simp [List.getD, List.getElem?_eq_getElem (by omega : j < (g i).length)]
                  · obtain ⟨hi, rfl⟩ := hget i x h1
                    obtain ⟨q1, q2, q3, q4, q5, q6⟩ := hfg i hi
                    have hj : j < ye.size := by rw [← q3]; exact (List.getElem?_eq_some_iff.1 h2).1
                    refine q5.2.2 j c _ h2 ?_
                    simp [List.getD, List.getElem?_eq_getElem (by omega : j < (g i).length)]
                rw [hgl] at hv
                refine ⟨[.lit ((List.range len).map f)], ⟨rfl, ⟨by rw [hgl]; omega, fun x hx => ?_⟩, trivial⟩, ?_⟩
                · obtain ⟨i, hi, rfl⟩ := hmem x hx
                  exact (hfg i hi).1
                · rw [hl0] at hv
                  exact CRel.single rfl (by rw [hl0]; exact hv)
          · cases h
        · cases h
      · rename_i fs hkk
        rw [hkk] at hk; simp only [KOk] at hk
        obtain ⟨fields, rfl, rfl, _⟩ := hk
        split at h
        · rename_i l hl
          split at h
          · rename_i hc
            simp at h; subst h
            obtain ⟨xs, m, _, _, hcs, _, hf⟩ := DataW.trod_struct hd hx
            have hlen : l.length = cs.length := by rw [hc, hcs, hsize]
            obtain ⟨vs, g1, g2⟩ := fields_wf (K := K) (w := w) (cs := cs) hC _ 0 l hl (by omega) fun f hfm s hs => by
              obtain ⟨fd, hfd, rfl⟩ := List.mem_map.1 hfm
              obtain ⟨j, hj⟩ := List.getElem?_of_mem hfd
              have hj' : fields[j]? = some fd := by simpa using hj
              have := hf j fd hj'
              obtain ⟨xj, hxj⟩ : ∃ xj, xs[j]? = some xj := by
                have hjl : j < fields.size := (Array.getElem?_eq_some_iff.1 hj').1
                exact ⟨xs[j]'(by omega), List.getElem?_eq_getElem _⟩
              rw [hxj] at this
              exact ih fd.type s hs m _ _ this
            refine ⟨vs, g1, ?_⟩
            rw [hlen] at g2
            simpa using g2
          · cases h
        · cases h
      · rename_i m e hkk
        rw [hkk] at hk; simp only [KOk] at hk; subst hk
        split at h
        · rename_i ye s' hye hs'
          split at h
          · rename_i hc
            simp at h; subst h
            have hesz : P.cellsOf e = ye.size := cellsOf_eq hC hye
            obtain ⟨xs, m', _, _, hcs, hxl, hf⟩ := DataW.trod_array hd hx
            rw [hesz] at hf
            have hlen : cs.length = m * ye.size := by rw [hcs, hsize, hc.2]
            have key : ∀ k, k ≤ m → ∃ vs, Sh.WfL (List.replicate k s'.leaves).flatten vs ∧ CRel K w vs (cs.take (k * ye.size)) := by
              intro k
              induction k with
              | zero => intro _; exact ⟨[], by simp [Sh.WfL], by simpa using CRel.nil⟩
              | succ k ihk =>
                intro hk
                obtain ⟨vs, g1, g2⟩ := ihk (by omega)
                have := hf k (by omega)
                rw [List.getElem?_eq_getElem (by omega : k < xs.length)] at this
                obtain ⟨us, q1, q2⟩ := ih e s' hs' m' _ _ this
                refine ⟨vs ++ us, ?_, ?_⟩
                · rw [List.replicate_succ', List.flatten_append]
                  simpa using g1.append q1
                · rw [Nat.succ_mul, List.take_add]
                  exact g2.append q2
            obtain ⟨vs, g1, g2⟩ := key m (Nat.le_refl _)
            refine ⟨vs, g1, ?_⟩
            rw [← hlen] at g2
            simpa using g2
          · cases h
        · cases h
      · cases h
    · cases h

/-- An argument. -/
theorem arg_wf (hC : CfgOk C P) (hK : ∀ b, b < w.heap.size → fz K w.heap.size b) {n : Nat} {t : TypeId} {s : Sh} (hs : shOf C n t = some s) {r : Reach} {b0 : Nat} {v : Value} {d : DataW H} {ps : List MemPlace}
    (hval : Value.okWide P w r b0 t v) (hd : DataW.Trod enc P w base sp held t v d ps) : ∃ x : V, s.Wf x ∧ VRel K w x v := by
  obtain ⟨fuel, hf⟩ := hd
  obtain ⟨vs, g1, g2⟩ := trod_wf hC hK n t s hs fuel _ _ hf
  obtain ⟨x, q1, q2, q3, q4, q5⟩ := wf_value g1
  refine ⟨x, q1, ?_⟩
  cases hlf : s.leaf with
  | true =>
    have hv : v.cells.toList = [v] := by
      have h1 : vs = [x] := by rw [← q2, V.leaf_cells (q4 hlf)]
      cases v <;> first | rfl | skip
      case agg cs =>
        exfalso
        cases n with
        | zero => simp [shOf] at hs
        | succ n =>
          simp only [shOf] at hs
          split at hs
          · rename_i y hy
            obtain ⟨i, d', z, hi, hsz, _, hd', hk, _⟩ := (hC.ty t y hy).ex
            split at hs
            all_goals first | cases hs | skip
            · rename_i hkk; rw [hkk] at hk; simp only [KOk] at hk; subst hk; simp [Value.okWide, hd', Cell.okWide, Cell.ok] at hval
            · rename_i hkk; rw [hkk] at hk; simp only [KOk] at hk; subst hk; simp [Value.okWide, hd', Cell.okWide, Cell.ok] at hval
            · rename_i hkk; rw [hkk] at hk; simp only [KOk] at hk; subst hk; simp [Value.okWide, hd', Cell.okWide, Cell.ok] at hval
            · rename_i hkk; rw [hkk] at hk; simp only [KOk] at hk; subst hk; simp [Value.okWide, hd', Cell.okWide, Cell.ok] at hval
            · split at hs
              · split at hs
                · simp at hs; subst hs; simp [Sh.leaf] at hlf
                · cases hs
              · cases hs
            · split at hs
              · split at hs
                · simp at hs; subst hs; simp [Sh.leaf] at hlf
                · cases hs
              · cases hs
          · cases hs
    rw [hv] at g2
    have h1 : vs = [x] := by rw [← q2, V.leaf_cells (q4 hlf)]
    rw [h1] at g2
    exact g2.2.2 0 x v rfl rfl
  | false =>
    have hx := q5 hlf
    have hagg : ∃ cs, v = .agg cs := by
      cases n with
      | zero => simp [shOf] at hs
      | succ n =>
        simp only [shOf] at hs
        split at hs
        · rename_i y hy
          obtain ⟨i, d', z, hi, hsz, _, hd', hk, _⟩ := (hC.ty t y hy).ex
          split at hs
          all_goals first | cases hs | skip
          · simp [Sh.leaf] at hlf
          · simp [Sh.leaf] at hlf
          · simp [Sh.leaf] at hlf
          · split at hs
            · split at hs
              · simp at hs; subst hs; simp [Sh.leaf] at hlf
              · cases hs
            · cases hs
          · rename_i hkk; rw [hkk] at hk; simp only [KOk] at hk; obtain ⟨fields, rfl, _⟩ := hk
            simp only [Value.okWide, hd'] at hval
            obtain ⟨cs, rfl, _⟩ := hval
            exact ⟨cs, rfl⟩
          · rename_i hkk; rw [hkk] at hk; simp only [KOk] at hk; subst hk
            simp only [Value.okWide, hd'] at hval
            obtain ⟨cs, rfl, _⟩ := hval
            exact ⟨cs, rfl⟩
        · cases hs
    obtain ⟨cs, rfl⟩ := hagg
    subst hx
    have := VRel.agg vs cs.toList (by simpa [Value.cells] using g2.1) g2.2.1 (by simpa [Value.cells] using g2.2.2)
    simpa using this

/-- The bare context: nothing is the evaluator's own yet. -/
def bareK : Ctx := ⟨fun _ => none, fun _ => False, fun _ => False⟩
theorem bareK_fz (w : World) : ∀ b, b < w.heap.size → fz bareK w.heap.size b := fun b hb => ⟨hb, fun h => h, fun id T h => by cases h⟩

/-- What the evaluator says of a law, the machine does: true, and what was there stays as it was. -/
theorem law_calls {cal : Callee} (hS : Sound C P cal) (hg : ∀ g, C.glob g = none) {f : FuncId} {args : List V} {us : List Value} (ha : LRel bareK w args us) {s' : St} (h : cal f args St.empty = some (.bool true, s')) :
    Calls P f us.toArray w fun e w' => e = .returned (.bool true) ∧ Go.RowKit.Below w.heap.size w w' := by
  have hR : RelW C.glob bareK St.empty w := {
    obj := fun id o ho => by simp [St.empty, St.get, aget] at ho
    dom := fun id T h => by cases h
    al := fun id T h => by cases h
    inj := fun id id' T T' h => by cases h
    X := fun id T h => by cases h
    Xlt := fun b hb => hb.elim
    glob := fun g cs h => by rw [hg] at h; cases h }
  refine (hS f args St.empty _ s' h bareK w us hR (fun j hj => hj.elim) ha).mono ?_
  rintro e w' ⟨K', u, rfl, hst, _, hv, _⟩
  cases hv
  exact ⟨rfl, hst.os, hst.tape, hst.output, hst.size, fun k hk => (hst.un k hk fun id T h => by cases h).1⟩
end
end Go.Ilv
#print axioms Go.Ilv.law_calls
#print axioms Go.Ilv.arg_wf
