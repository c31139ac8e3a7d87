import Derived.Test.YtdofkchhdckomaaFw5
import Derived.Sort.Row
import Derived.Sort.Grow
import Derived.Lib.SlicesCompact
/- Functions of the library that are told by what they come to: slices.Sort, slices.Compact, at numbers. -/
set_option linter.unusedVariables false
set_option linter.unusedSimpArgs false
namespace Go.Ilv
open Go Go.Sort

/-- Rows of one number each. -/
def intsOf : List (List V) → Option (List Int)
  | [] => some []
  | [.int .i64 n] :: r => (intsOf r).map (n :: ·)
  | _ => none
def intRow (n : Int) : List V := [.int .i64 n]
theorem intsOf_map : ∀ {rows : List (List V)} {zs : List Int}, intsOf rows = some zs → rows = zs.map intRow
  | [], zs, h => by simp [intsOf] at h; subst h; rfl
  | [.int .i64 n] :: rows, zs, h => by
    simp only [intsOf] at h
    cases hr : intsOf rows with
    | none => rw [hr] at h; cases h
    | some l =>
      rw [hr] at h
      simp at h
      subst h
      rw [intsOf_map hr]
      rfl
  | [] :: rows, zs, h => by simp [intsOf] at h
  | (_ :: _ :: _) :: rows, zs, h => by simp [intsOf] at h
  | [v] :: rows, zs, h => by
    cases v with
    | int k n =>
      cases k with
      | i64 =>
        simp only [intsOf] at h
        cases hr : intsOf rows with
        | none => rw [hr] at h; cases h
        | some l =>
          rw [hr] at h
          simp at h
          subst h
          rw [intsOf_map hr]
          rfl
      | _ => simp [intsOf] at h
    | _ => simp [intsOf] at h
theorem intsOf_of (zs : List Int) : intsOf (zs.map intRow) = some zs := by
  induction zs with
  | nil => rfl
  | cons z r ih => simp only [List.map_cons, intRow, intsOf]; rw [ih]; rfl

theorem putCells_size (off : Nat) (d : Array Int) (c : Array Value) : (putCells (Value.int .i64) off d c).size = c.size := by simp [putCells]
theorem putCells_get (off : Nat) (d : Array Int) (c : Array Value) (k : Nat) : (putCells (Value.int .i64) off d c)[k]? = (c[k]?).map fun x => if off ≤ k ∧ k < off + d.size then .int .i64 d[k - off]! else x := by simp [putCells, Array.getElem?_mapIdx]

section
variable {C : Cfg} {P : Program} {gl : Nat → Option (List V)} {K : Ctx} {s : St} {w w' : World}

/-- Numbers written over numbers, at their places in a row. -/
theorem ints_put (hk : RelW gl K s w) {id : Nat} {T : Terr} {o : Obj} (hT : K.φ id = some T) (ho : s.get id = some o) (hsz : o.sz = 1) {off : Nat} {zs ns : List Int} (hr : (o.rows.drop off).take zs.length = zs.map intRow)
    (hl : off + zs.length ≤ o.rows.length) (hn : ns.length = zs.length) {n : Nat} {os : Array Go.Obj} (hw : w' = grow (putRow (Value.int .i64) (Sort.ahead w n) T.blk (T.base + off) ns.toArray) os) :
    Stp K w K w' ∧ RelW gl K (s.set id { o with rows := o.rows.take off ++ ns.map intRow ++ o.rows.drop (off + zs.length) }) w' := by
  obtain ⟨T', hT', hor⟩ := hk.obj id o ho
  rw [hT] at hT'
  obtain rfl := Option.some.inj hT'
  obtain ⟨c, et, h1, h2, h3⟩ := hor.row
  have hlt : T.blk < w.heap.size := hk.blk_lt hT
  have hblk : w'.heap[T.blk]? = some (.cells (putCells (Value.int .i64) (T.base + off) ns.toArray c) et (0, 0)) := by
    rw [hw, heap_grow_old _ _ (by simpa [putRow, mapBlock, Sort.ahead] using hlt)]
    simp [putRow, mapBlock, Sort.ahead, Array.getElem?_modify, h1, onCells]
  have hother : ∀ b, b < w.heap.size → b ≠ T.blk → w'.heap[b]? = w.heap[b]? := by
    intro b hb hne
    rw [hw, heap_grow_old _ _ (by simpa [putRow, mapBlock, Sort.ahead] using hb)]
    have : T.blk ≠ b := fun e => hne e.symm
    simp [putRow, mapBlock, Sort.ahead, Array.getElem?_modify, this]
  have hst : Stp K w K w' := by
    refine ⟨rfl, fun _ h => h, fun j _ T2 h => ⟨T2, h, .inl rfl⟩, ?_, by rw [hw]; rfl, by rw [hw]; rfl, by rw [hw]; rfl, fun b hb hne => ⟨hother b hb fun e => hne id T hT e.symm, hne⟩⟩
    rw [hw]; simp [putRow, mapBlock, Sort.ahead, grow]
  refine ⟨hst, ?_⟩
  have hz : ∀ (i : Nat), off ≤ i → i < off + zs.length → o.rows[i]? = (zs[i - off]?).map intRow := by
    intro i h4 h5
    have : ((o.rows.drop off).take zs.length)[i - off]? = (zs.map intRow)[i - off]? := by rw [hr]
    rw [List.getElem?_take_of_lt (by omega), List.getElem?_drop, List.getElem?_map] at this
    rw [← this]; congr 1; omega
  refine hk.put (K' := K) (T := T) (fun j => ?_) (fun j => ?_) rfl hst ?_ ?_ (hk.X id T hT) ?_
  · by_cases h : j = id
    · rw [if_pos h, h, hT]
    · rw [if_neg h]
  · constructor
    · exact .inl
    · rintro (h | h)
      · exact h
      · rw [h]; exact hk.al id T hT
  · have hlen : (o.rows.take off ++ ns.map intRow ++ o.rows.drop (off + zs.length)).length = o.rows.length := by simp; omega
    refine ⟨hor.sz, hor.ver, hor.pos, by simp only [hlen]; exact hor.cap, _, et, hblk, by rw [putCells_size]; exact h2, ?_⟩
    intro i r hir
    simp only at hir
    have hTs : T.sz = 1 := by rw [hor.sz, hsz]
    by_cases h4 : i < off
    · have hor' : o.rows[i]? = some r := by
        rw [List.append_assoc, List.getElem?_append_left (by simp; omega), List.getElem?_take_of_lt h4] at hir
        exact hir
      obtain ⟨g1, g2⟩ := h3 i r hor'
      refine ⟨g1, fun j x hx => ?_⟩
      obtain ⟨q1, u, q2, q3⟩ := g2 j x hx
      refine ⟨q1, u, ?_, q3.mono hst⟩
      have hj : j < 1 := by rw [← hsz, ← g1]; exact (List.getElem?_eq_some_iff.1 hx).1
      rw [putCells_get, q2, Option.map_some, if_neg]
      rw [hsz]; omega
    · by_cases h5 : i < off + zs.length
      · have hni : i - off < ns.length := by omega
        have hrr : r = intRow ns[i - off] := by
          have e1 : (o.rows.take off).length = off := by simp; omega
          rw [List.append_assoc, List.getElem?_append_right (by omega), e1, List.getElem?_append_left (by simp; omega), List.getElem?_map, List.getElem?_eq_getElem hni] at hir
          simpa using hir.symm
        subst hrr
        refine ⟨by rw [hsz]; rfl, fun j x hx => ?_⟩
        have hj : j = 0 := by
          have := (List.getElem?_eq_some_iff.1 hx).1
          simp [intRow] at this; exact this
        subst hj
        simp [intRow] at hx
        subst hx
        refine ⟨rfl, .int .i64 ns[i - off], ?_, .int _ _⟩
        have hzi : i - off < zs.length := by omega
        have hoi := hz i (by omega) h5
        rw [List.getElem?_eq_getElem hzi, Option.map_some] at hoi
        obtain ⟨_, g2⟩ := h3 i _ hoi
        obtain ⟨_, u, q2, _⟩ := g2 0 (.int .i64 zs[i - off]) (by rfl)
        rw [hsz] at q2 ⊢
        rw [putCells_get, q2, Option.map_some, if_pos ⟨by omega, by simp; omega⟩]
        congr 1
        have e2 : T.base + i * 1 + 0 - (T.base + off) = i - off := by omega
        rw [e2, getElem!_pos _ _ (by simpa using hni)]
        simp
      · have hor' : o.rows[i]? = some r := by
          have e1 : (o.rows.take off ++ ns.map intRow).length = off + zs.length := by simp; omega
          rw [List.getElem?_append_right (by omega), e1, List.getElem?_drop] at hir
          rw [← hir]; congr 1; omega
        obtain ⟨g1, g2⟩ := h3 i r hor'
        refine ⟨g1, fun j x hx => ?_⟩
        obtain ⟨q1, u, q2, q3⟩ := g2 j x hx
        refine ⟨q1, u, ?_, q3.mono hst⟩
        rw [putCells_get, q2, Option.map_some, if_neg]
        simp only [List.size_toArray]
        rw [hsz]; omega
  · intro j Tj hj hTj he
    exact hj (hk.inj j id Tj T hTj hT he)
  · intro j Tj hj hTj
    exact hother _ (hk.blk_lt hTj) fun he => hj (hk.inj j id Tj T hTj hT he)

/-- The cells of such a row, in the library's words. -/
theorem ints_hold (hk : RelW gl K s w) {id : Nat} {T : Terr} {o : Obj} (hT : K.φ id = some T) (ho : s.get id = some o) (hsz : o.sz = 1) {off : Nat} {zs : List Int} (hr : (o.rows.drop off).take zs.length = zs.map intRow) :
    Holds (Value.int .i64) w T.blk (T.base + off) zs.toArray := by
  obtain ⟨T', hT', hor⟩ := hk.obj id o ho
  rw [hT] at hT'
  obtain rfl := Option.some.inj hT'
  obtain ⟨c, et, h1, h2, h3⟩ := hor.row
  intro j hj
  have hj' : j < zs.length := by simpa using hj
  have : ((o.rows.drop off).take zs.length)[j]? = (zs.map intRow)[j]? := by rw [hr]
  rw [List.getElem?_take_of_lt hj', List.getElem?_drop, List.getElem?_map, List.getElem?_eq_getElem hj', Option.map_some] at this
  obtain ⟨_, g2⟩ := h3 (off + j) _ this
  obtain ⟨_, u, q2, q3⟩ := g2 0 (.int .i64 zs[j]) (by rfl)
  cases q3
  rw [hsz] at q2
  constructor
  · simp only [World.cell?, h1]
    rw [show T.base + off + j = T.base + (off + j) * 1 + 0 by omega, q2, getElem!_pos zs.toArray j hj]
    simp
  · simp only [World.frozen?, h1]
    simp

/-! ### slices.Sort -/
def SortOk (P : Program) (f : FuncId) : Prop := ∀ (blk off cap : Nat) (zs : List Int) (w : World), Holds (Value.int .i64) w blk off zs.toArray → blk < w.heap.size → zs.length < 4611686018427387904 →
  Calls P f #[.slice (some ⟨blk, off, none⟩) zs.length cap] w fun e w' => e = .returned (.tuple #[]) ∧ ∃ n os, w' = grow (putRow (Value.int .i64) (Sort.ahead w n) blk off (zs.mergeSort fun x y => decide (x ≤ y)).toArray) os
def SortNone (P : Program) (f : FuncId) : Prop := ∀ (p : Option Addr) (cap : Nat) (w : World), Calls P f #[.slice p 0 cap] w fun e w' => e = .returned (.tuple #[]) ∧ w' = w
def sortZ (zs : List Int) : List Int := zs.mergeSort fun x y => decide (x ≤ y)
def intrSort (args : List V) (s : St) : Option (V × St) :=
  match args with
  | [.nils] => some (.tup [], s)
  | [.ref id ver sz off len] => match s.get id with
    | some o => if o.ver = ver ∧ o.sz = 1 ∧ off + len ≤ o.rows.length ∧ len < 4611686018427387904 then
        match intsOf ((o.rows.drop off).take len) with
        | some zs => some (.tup [], if len = 0 then s else s.set id { o with rows := o.rows.take off ++ (sortZ zs).map intRow ++ o.rows.drop (off + len) })
        | none => none
      else none
    | none => none
  | _ => none
theorem vrel_tup0 : VRel K w (.tup []) (.tuple #[]) := by
  have := VRel.tup (K := K) (w := w) [] [] rfl (fun i c u h => by simp at h)
  simpa using this
theorem LRel.one {x : V} {us : List Value} (h : LRel K w [x] us) : ∃ u, us = [u] ∧ VRel K w x u := by
  match us, h with
  | [u], h => exact ⟨u, rfl, h.head⟩
  | [], h => exact absurd h.1 (by simp)
  | _ :: _ :: _, h => exact absurd h.1 (by simp)
theorem intrSort_sound {f : FuncId} (h1 : SortOk P f) (h0 : SortNone P f) : Sound C P fun f' args s => if f' = f then intrSort args s else none := by
  intro f' args s r s' h K w us hk hal ha
  simp only at h
  split at h
  · rename_i hf
    subst hf
    unfold intrSort at h
    split at h
    · simp at h
      obtain ⟨rfl, rfl⟩ := h
      obtain ⟨u, rfl, hu⟩ := ha.one
      cases hu
      refine (h0 _ _ w).mono ?_
      rintro e w' ⟨rfl, rfl⟩
      exact ⟨K, _, rfl, Stp.refl K _, hk, vrel_tup0, fun j hj => .inl hj, Nat.le_refl _⟩
    · rename_i id ver sz off len
      split at h
      · rename_i o ho
        split at h
        · rename_i hc
          obtain ⟨c1, c2, c3, c4⟩ := hc
          split at h
          · rename_i zs hzs
            simp only [Option.some.injEq, Prod.mk.injEq] at h
            obtain ⟨rfl, rfl⟩ := h
            obtain ⟨u, rfl, hu⟩ := ha.one
            have hm := intsOf_map hzs
            have hzl : zs.length = len := by
              have := congrArg List.length hm
              simp at this; omega
            by_cases hl0 : len = 0
            · rw [if_pos hl0]
              subst hl0
              have : ∃ a cap, u = .slice a 0 cap := by cases hu <;> exact ⟨_, _, rfl⟩
              obtain ⟨a, cap, rfl⟩ := this
              refine (h0 a cap w).mono ?_
              rintro e w' ⟨rfl, rfl⟩
              exact ⟨K, _, rfl, Stp.refl K _, hk, vrel_tup0, fun j hj => .inl hj, Nat.le_refl _⟩
            · rw [if_neg hl0]
              obtain ⟨T, hT, hor⟩ := hk.obj id o ho
              cases hu with
              | refd _ _ _ _ _ a cap hal' hd hl ha' =>
                have := hd T hT
                rw [hor.ver, c1] at this
                omega
              | ref _ _ _ _ _ T' a cap hT' hal' hv hz hl hcc ha' =>
                rw [hT] at hT'
                obtain rfl := Option.some.inj hT'
                have hTs : T.sz = 1 := by rw [hor.sz, c2]
                rcases ha' with rfl | hcap
                · rw [hTs, Nat.mul_one]
                  rw [← hzl] at hm ⊢
                  refine (h1 T.blk (T.base + off) cap zs w (ints_hold hk hT ho c2 hm) (hk.blk_lt hT) (by omega)).mono ?_
                  rintro e w' ⟨rfl, n, os, hw⟩
                  obtain ⟨g1, g2⟩ := ints_put (ns := sortZ zs) hk hT ho c2 hm (by omega) (by simp [sortZ]) hw
                  exact ⟨K, _, rfl, g1, g2, vrel_tup0, fun j hj => .inl hj, Nat.le_refl _⟩
                · omega
          · cases h
        · cases h
      · cases h
    · cases h
  · cases h

/-! ### slices.Compact -/
def CompactOk (P : Program) (cpt : List Int → List Int) (f : FuncId) : Prop := ∀ (blk off cap : Nat) (zs : List Int) (w : World), Holds (Value.int .i64) w blk off zs.toArray → zs.length ≤ 9223372036854775807 → zs.length ≤ cap →
  Calls P f #[.slice (some ⟨blk, off, none⟩) zs.length cap] w fun e w' => e = .returned (.slice (some ⟨blk, off, none⟩) (cpt zs).length cap) ∧ ∃ q, w' = putRow (Value.int .i64) (Sort.ahead w q) blk off (cpt zs ++ List.replicate (zs.length - (cpt zs).length) 0).toArray
def CompactNone (P : Program) (f : FuncId) : Prop := ∀ (p : Option Addr) (cap : Nat) (w : World), Calls P f #[.slice p 0 cap] w fun e w' => e = .returned (.slice p 0 cap) ∧ w' = w
def intrCompact (cpt : List Int → List Int) (args : List V) (s : St) : Option (V × St) :=
  match args with
  | [.nils] => some (.nils, s)
  | [.ref id ver sz off len] => match s.get id with
    | some o => if o.ver = ver ∧ o.sz = 1 ∧ off + len ≤ o.rows.length ∧ len ≤ 9223372036854775807 then
        match intsOf ((o.rows.drop off).take len) with
        | some zs => if (cpt zs).length ≤ len then some (.ref id ver sz off (cpt zs).length, if len = 0 then s else s.set id { o with rows := o.rows.take off ++ (cpt zs ++ List.replicate (zs.length - (cpt zs).length) 0).map intRow ++ o.rows.drop (off + len) }) else none
        | none => none
      else none
    | none => none
  | _ => none
theorem intrCompact_sound {cpt : List Int → List Int} {f : FuncId} (h1 : CompactOk P cpt f) (h0 : CompactNone P f) : Sound C P fun f' args s => if f' = f then intrCompact cpt args s else none := by
  intro f' args s r s' h K w us hk hal ha
  simp only at h
  split at h
  · rename_i hf
    subst hf
    unfold intrCompact at h
    split at h
    · simp at h
      obtain ⟨rfl, rfl⟩ := h
      obtain ⟨u, rfl, hu⟩ := ha.one
      cases hu
      refine (h0 _ _ w).mono ?_
      rintro e w' ⟨rfl, rfl⟩
      exact ⟨K, _, rfl, Stp.refl K _, hk, .nils _, fun j hj => .inl hj, Nat.le_refl _⟩
    · rename_i id ver sz off len
      split at h
      · rename_i o ho
        split at h
        · rename_i hc
          obtain ⟨c1, c2, c3, c4⟩ := hc
          split at h
          · rename_i zs hzs
            split at h
            · rename_i hle
              simp only [Option.some.injEq, Prod.mk.injEq] at h
              obtain ⟨rfl, rfl⟩ := h
              obtain ⟨u, rfl, hu⟩ := ha.one
              have hm := intsOf_map hzs
              have hzl : zs.length = len := by
                have := congrArg List.length hm
                simp at this; omega
              obtain ⟨T, hT, hor⟩ := hk.obj id o ho
              cases hu with
              | refd _ _ _ _ _ a cap hal' hd hl ha' =>
                have := hd T hT
                rw [hor.ver, c1] at this
                omega
              | ref _ _ _ _ _ T' a cap hT' hal' hv hz hl hcc ha' =>
                rw [hT] at hT'
                obtain rfl := Option.some.inj hT'
                by_cases hl0 : len = 0
                · rw [if_pos hl0]
                  subst hl0
                  have hc0 : (cpt zs).length = 0 := by omega
                  refine (h0 a cap w).mono ?_
                  rintro e w' ⟨rfl, rfl⟩
                  rw [hc0]
                  exact ⟨K, _, rfl, Stp.refl K _, hk, .ref _ _ _ _ _ T a cap hT hal' hv hz (by omega) hcc ha', fun j hj => .inl hj, Nat.le_refl _⟩
                · rw [if_neg hl0]
                  have hTs : T.sz = 1 := by rw [hor.sz, c2]
                  rcases ha' with rfl | hcap
                  · have hm' := hm
                    rw [← hzl] at hm'
                    have hH := h1 T.blk (T.base + off) cap zs w (ints_hold hk hT ho c2 hm') (by omega) (by omega)
                    rw [hzl] at hH
                    rw [hTs, Nat.mul_one]
                    refine hH.mono ?_
                    rintro e w' ⟨rfl, q, hw⟩
                    have hw' : w' = grow (putRow (Value.int .i64) (Sort.ahead w q) T.blk (T.base + off) (cpt zs ++ List.replicate (zs.length - (cpt zs).length) 0).toArray) #[] := by rw [grow_empty, hzl]; exact hw
                    obtain ⟨g1, g2⟩ := ints_put hk hT ho c2 hm' (by omega) (by simp; omega) hw'
                    rw [hzl] at g2 ⊢
                    refine ⟨K, _, rfl, g1, g2, .ref _ _ _ _ _ T _ cap hT hal' hv hz (by omega) hcc (.inl (by rw [hTs, Nat.mul_one])), fun j hj => .inl hj, Nat.le_refl _⟩
                  · omega
            · cases h
          · cases h
        · cases h
      · cases h
    · cases h
  · cases h

/-! ### slices.Grow of nothing -/
/-- A new row: room, and nothing in it. -/
def GrowOk (P : Program) (sz bytes : Nat) (f : FuncId) : Prop := ∀ (a : Option Addr) (n : Nat) (w : World), 0 < n → n * bytes ≤ 140737488355328 → n ≤ 4611686018427387904 →
  Calls P f #[.slice a 0 0, .int .i64 n] w fun e w' => ∃ G c et, e = .returned (.slice (some ⟨w.heap.size, 0, none⟩) 0 G) ∧ w' = w.drew.alloc (.cells c et) ∧ G * sz ≤ c.size
def GrowRoom (P : Program) (f : FuncId) : Prop := ∀ (a : Option Addr) (l c n : Nat) (w : World), l ≤ c → c ≤ 9223372036854775807 → n ≤ 9223372036854775807 → l + n ≤ c → Calls P f #[.slice a l c, .int .i64 n] w fun e w' => e = .returned (.slice a l c) ∧ w' = w
def intrGrow (sz bytes : Nat) (args : List V) (s : St) : Option (V × St) :=
  match args with
  | [.nils, .int .i64 n] => if n = 0 then some (.nils, s) else
      if 0 < n ∧ n.toNat * bytes ≤ 140737488355328 ∧ n.toNat ≤ 4611686018427387904 ∧ 0 < sz then some (.ref s.nxt 0 sz 0 0, { nxt := s.nxt + 1, objs := aset s.objs s.nxt ⟨sz, 0, false, []⟩ }) else none
  | _ => none
theorem LRel.two {x y : V} {us : List Value} (h : LRel K w [x, y] us) : ∃ u v, us = [u, v] ∧ VRel K w x u ∧ VRel K w y v := by
  match us, h with
  | [u, v], h => exact ⟨u, v, rfl, h.head, h.tail.head⟩
  | [], h => exact absurd h.1 (by simp)
  | [_], h => exact absurd h.1 (by simp)
  | _ :: _ :: _ :: _, h => exact absurd h.1 (by simp)
theorem intrGrow_sound {sz bytes : Nat} {f : FuncId} (h1 : GrowOk P sz bytes f) (h0 : GrowRoom P f) : Sound C P fun f' args s => if f' = f then intrGrow sz bytes args s else none := by
  intro f' args s r s' h K w us hk hal ha
  simp only at h
  split at h
  · rename_i hf
    subst hf
    unfold intrGrow at h
    split at h
    · rename_i n
      obtain ⟨u, v, rfl, hu, hv⟩ := ha.two
      cases hu with
      | nils a =>
        cases hv
        split at h
        · rename_i hn
          subst hn
          simp only [Option.some.injEq, Prod.mk.injEq] at h
          obtain ⟨rfl, rfl⟩ := h
          refine (h0 a 0 0 0 w (by omega) (by omega) (by omega) (by omega)).mono ?_
          rintro e w' ⟨rfl, rfl⟩
          exact ⟨K, _, rfl, Stp.refl K _, hk, .nils _, fun j hj => .inl hj, Nat.le_refl _⟩
        · split at h
          · rename_i hc
            obtain ⟨c1, c2, c3, c4⟩ := hc
            simp only [Option.some.injEq, Prod.mk.injEq] at h
            obtain ⟨rfl, rfl⟩ := h
            have hn : ((n.toNat : Nat) : Int) = n := by omega
            have hh := h1 a n.toNat w (by omega) c2 c3
            rw [hn] at hh
            refine hh.mono ?_
            rintro e w' ⟨G, c, et, rfl, hw, hG⟩
            have hid : ¬ K.al s.nxt := fun hx => Nat.lt_irrefl _ (hal _ hx)
            subst hw
            obtain ⟨g1, g2⟩ := new_obj hk (newer_drew (w := w) c et) (id := s.nxt) (T := ⟨w.heap.size, 0, sz, G, 0⟩) (o := ⟨sz, 0, false, []⟩) rfl (.inl hid) rfl rfl c4 (Nat.zero_le _) (by simpa using hG)
              ⟨fun i r h => by simp at h, fun i r j x h => by simp at h⟩
            refine ⟨_, _, rfl, g1, ⟨g2.obj, g2.dom, g2.al, g2.inj, g2.X, g2.Xlt, g2.glob⟩, .ref _ _ _ _ _ ⟨w.heap.size, 0, sz, G, 0⟩ _ G (by simp [Ctx.put]) (.inr rfl) rfl rfl (Nat.zero_le _) (by simp) (.inl (by simp)), fun j hj => ?_, by simp⟩
            rcases hj with hj | rfl
            · exact .inl hj
            · exact .inr ⟨Nat.le_refl _, by simp⟩
          · cases h
    · cases h
  · cases h
end
end Go.Ilv

/- The plain law of the union of two lists of numbers: ascending, each once. -/
set_option linter.unusedVariables false
namespace Go.Ilv
open Go Go.Lib

theorem compactUpTo_spec (d : Array Int) (hs : ∀ i j, i ≤ j → j < d.size → d[i]! ≤ d[j]!) : ∀ m, m ≤ d.size →
    (compactUpTo d m).Pairwise (· < ·) ∧ (∀ x ∈ compactUpTo d m, ∃ j, j < m ∧ d[j]! = x) ∧ (∀ j, j < m → d[j]! ∈ compactUpTo d m) := by
  intro m
  induction m with
  | zero => intro _; exact ⟨by simp [compactUpTo], by simp [compactUpTo], fun j h => by omega⟩
  | succ m ih =>
    intro hm
    obtain ⟨h1, h2, h3⟩ := ih (by omega)
    rw [compactUpTo_succ]
    cases hk : keeps d m with
    | true =>
      simp only [if_true]
      refine ⟨?_, ?_, ?_⟩
      · rw [List.pairwise_append]
        refine ⟨h1, by simp, ?_⟩
        intro x hx y hy
        obtain ⟨j, hj, rfl⟩ := h2 x hx
        obtain rfl := List.mem_singleton.1 hy
        have hle := hs j (m - 1) (by omega) (by omega)
        have hle2 := hs (m - 1) m (by omega) (by omega)
        have hne : d[m]! ≠ d[m - 1]! := by
          simp only [keeps, decide_eq_true_eq] at hk
          rcases hk with h | h
          · omega
          · exact h
        omega
      · intro x hx
        rcases List.mem_append.1 hx with hx | hx
        · obtain ⟨j, hj, e⟩ := h2 x hx; exact ⟨j, by omega, e⟩
        · obtain rfl := List.mem_singleton.1 hx; exact ⟨m, by omega, rfl⟩
      · intro j hj
        rcases Nat.lt_or_ge j m with h | h
        · exact List.mem_append_left _ (h3 j h)
        · obtain rfl : j = m := by omega
          exact List.mem_append_right _ (by simp)
    | false =>
      simp only [Bool.false_eq_true, if_false, List.append_nil]
      refine ⟨h1, fun x hx => ?_, ?_⟩
      · obtain ⟨j, hj, e⟩ := h2 x hx; exact ⟨j, by omega, e⟩
      · intro j hj
        rcases Nat.lt_or_ge j m with h | h
        · exact h3 j h
        · obtain rfl : j = m := by omega
          simp only [keeps, decide_eq_false_iff_not, not_or, Classical.not_not] at hk
          rw [hk.2]
          exact h3 (j - 1) (by omega)
def uni (xs ys : List Int) : List Int := compact (sortZ (xs ++ ys))
theorem sorted_get (zs : List Int) (i j : Nat) (hij : i ≤ j) (hj : j < (sortZ zs).toArray.size) : (sortZ zs).toArray[i]! ≤ (sortZ zs).toArray[j]! := by
  have hp : (sortZ zs).Pairwise fun a b => decide (a ≤ b) = true := List.pairwise_mergeSort (fun a b c h1 h2 => by simp at *; omega) (fun a b => by simp; omega) zs
  have hj' : j < (sortZ zs).length := by simpa using hj
  rw [getElem!_pos _ i (by simpa using Nat.lt_of_le_of_lt hij hj'), getElem!_pos _ j hj]
  rcases Nat.eq_or_lt_of_le hij with rfl | h
  · exact Int.le_refl _
  · have := List.pairwise_iff_getElem.1 hp i j (by omega) hj' h
    simpa using this
theorem uni_spec (xs ys : List Int) : (uni xs ys).Pairwise (· < ·) ∧ (∀ x, x ∈ uni xs ys ↔ x ∈ xs ∨ x ∈ ys) := by
  obtain ⟨h1, h2, h3⟩ := compactUpTo_spec (sortZ (xs ++ ys)).toArray (fun i j => sorted_get _ i j) (sortZ (xs ++ ys)).length (by simp)
  have hm : ∀ x, x ∈ sortZ (xs ++ ys) ↔ x ∈ xs ∨ x ∈ ys := fun x => by rw [sortZ, List.mem_mergeSort, List.mem_append]
  refine ⟨h1, fun x => ⟨fun hx => ?_, fun hx => ?_⟩⟩
  · obtain ⟨j, hj, e⟩ := h2 x hx
    rw [getElem!_pos _ j (by simpa using hj)] at e
    rw [← hm, ← e]
    simp
  · rw [← hm] at hx
    obtain ⟨j, hj, e⟩ := List.getElem_of_mem hx
    have := h3 j hj
    rw [getElem!_pos _ j (by simpa using hj)] at this
    simp only [List.getElem_toArray, e] at this
    exact this
end Go.Ilv
