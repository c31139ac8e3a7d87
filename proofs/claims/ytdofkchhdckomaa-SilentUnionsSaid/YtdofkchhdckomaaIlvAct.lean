/- Calls, and one operation of a region. -/
import Derived.Test.YtdofkchhdckomaaIlvPrim
set_option linter.unusedVariables false
set_option linter.unusedSimpArgs false
namespace Go.Ilv
open Go

/-- What is said of a call. -/
def Sound (C : Cfg) (P : Program) (cal : Callee) : Prop :=
  ∀ (f : FuncId) (args : List V) (s : St) (r : V) (s' : St), cal f args s = some (r, s') → ∀ (K : Ctx) (w : World) (us : List Value), RelW C.glob K s w → (∀ j, K.al j → j < s.nxt) → LRel K w args us →
    Calls P f us.toArray w fun e w' => ∃ K' u, e = .returned u ∧ Stp K w K' w' ∧ RelW C.glob K' s' w' ∧ VRel K' w' r u ∧ (∀ j, K'.al j → K.al j ∨ (s.nxt ≤ j ∧ j < s'.nxt)) ∧ s.nxt ≤ s'.nxt

section
variable {C : Cfg} {P : Program} {gl : Nat → Option (List V)} {K : Ctx} {s : St} {w w' : World} {e : Env} {a : Act} {cal : Callee}

theorem allSome_get {α β : Type} {f : α → Option β} : ∀ {l : List α} {r : List β}, allSome f l = some r → r.length = l.length ∧ ∀ (i : Nat) (x : α), l[i]? = some x → ∃ y, f x = some y ∧ r[i]? = some y
  | [], r, h => by simp [allSome] at h; subst h; simp
  | x :: l, r, h => by
    simp only [allSome] at h
    split at h
    · rename_i y l' h1 h2
      simp at h; subst h
      obtain ⟨g1, g2⟩ := allSome_get h2
      refine ⟨by simp [g1], fun i z hz => ?_⟩
      cases i with
      | zero => simp at hz; subst hz; exact ⟨y, h1, rfl⟩
      | succ i => obtain ⟨q, q1, q2⟩ := g2 i z (by simpa using hz); exact ⟨q, q1, by simpa using q2⟩
    · cases h

/-- Nothing is anybody's. -/
def Ctx.bare (X : Nat → Prop) : Ctx := ⟨fun _ => none, fun _ => False, X⟩

theorem LRel.of_all {xs : List V} {us : List Value} (hl : xs.length = us.length) (h : ∀ (i : Nat) (c : V) (u : Value), xs[i]? = some c → us[i]? = some u → VRel K w c u) : LRel K w xs us := ⟨hl, h⟩

theorem flat_bare {x : V} (h : x.noIds = true) {u : Value} (hx : VRel K w x u) : VRel (Ctx.bare K.X) w x u :=
  hx.transfer (K := K) (K' := Ctx.bare K.X) (fun b hb => ⟨hb.1, hb.2.1, by simp [Ctx.bare]⟩) h

/-- A value told without objects: what it says stands, as long as nobody writes. -/
theorem reify_rel (hk : RelW gl K s w) : ∀ (n : Nat) {x y : V} {u : Value}, VRel K w x u → reify s n x = some y → VRel (Ctx.bare K.X) w y u ∧ y.noIds = true ∧ (x.leaf = true → y.leaf = true) ∧ (x.flat = true → VRel K w y u) ∧ (x.storable = true → y.storable = true)
  | 0, x, y, u, hx, h => by simp [reify] at h
  | n + 1, x, y, u, hx, h => by
    cases hx with
    | bool b => simp [reify] at h; subst h; exact ⟨.bool b, rfl, fun _ => rfl, fun _ => .bool b, fun _ => rfl⟩
    | int k m => simp [reify] at h; subst h; exact ⟨.int k m, rfl, fun _ => rfl, fun _ => .int k m, fun _ => rfl⟩
    | str b => simp [reify] at h; subst h; exact ⟨.str b, rfl, fun _ => rfl, fun _ => .str b, fun _ => rfl⟩
    | nils b => simp [reify] at h; subst h; exact ⟨.lit0 b 0, rfl, fun _ => rfl, fun _ => .lit0 b 0, fun _ => rfl⟩
    | pnil => simp [reify] at h; subst h; exact ⟨.pnil, rfl, fun _ => rfl, fun _ => .pnil, fun _ => rfl⟩
    | lit0 a cap => simp [reify] at h; subst h; exact ⟨.lit0 a cap, rfl, fun _ => rfl, fun _ => .lit0 a cap, fun _ => rfl⟩
    | lit xs b o sz cap vals hb hc hx hcell hrel =>
      simp [reify] at h; subst h
      have hn : (V.lit xs).noIds = true := by rw [V.noIds]; exact V.noIdsL_of fun x hx' => (hx x hx').2.2
      exact ⟨flat_bare hn (.lit xs b o sz cap vals hb hc hx hcell hrel), hn, fun _ => rfl, fun _ => .lit xs b o sz cap vals hb hc hx hcell hrel, fun _ => rfl⟩
    | cptr cs b o vals hb hnn hcell hrel =>
      simp [reify] at h; subst h
      have hn : (V.cptr cs).noIds = true := by rw [V.noIds]; exact V.noIdsL_of fun x hx' => (hnn x hx').2
      exact ⟨flat_bare hn (.cptr cs b o vals hb hnn hcell hrel), hn, fun _ => rfl, fun _ => .cptr cs b o vals hb hnn hcell hrel, fun _ => rfl⟩
    | agg cs us hl hf hh =>
      simp only [reify] at h
      split at h
      · rename_i ys hys
        simp at h; subst h
        obtain ⟨g1, g2⟩ := allSome_get hys
        have hget : ∀ (i : Nat) (c : V) (u : Value), ys[i]? = some c → us[i]? = some u → VRel (Ctx.bare K.X) w c u ∧ c.noIds = true ∧ c.leaf = true ∧ ((V.agg cs).flat = true → VRel K w c u) := by
          intro i c u e1 e2
          have hi : i < cs.length := by rw [← g1]; exact (List.getElem?_eq_some_iff.1 e1).1
          obtain ⟨y, q1, q2⟩ := g2 i _ (List.getElem?_eq_getElem hi)
          rw [e1] at q2
          obtain rfl := Option.some.inj q2
          obtain ⟨r1, r2, r3, r4, _⟩ := reify_rel hk n (hh i _ u (List.getElem?_eq_getElem hi) e2) q1
          refine ⟨r1, r2, r3 (hf _ (List.getElem_mem _)), fun hfl => ?_⟩
          refine r4 ?_
          have h1 := hf _ (List.getElem_mem hi)
          have h2 : _ := List.all_eq_true.1 (by simpa only [V.flat] using hfl) _ (List.getElem_mem hi)
          generalize cs[i] = c at h1 h2
          cases c <;> first | rfl | (simp at h2; done) | (simp [V.leaf] at h1)
        have hylen : ys.length = us.length := by rw [g1, hl]
        have hmem : ∀ c ∈ ys, ∃ (i : Nat) (u : Value), ys[i]? = some c ∧ us[i]? = some u := by
          intro c hc
          obtain ⟨i, hi⟩ := List.getElem?_of_mem hc
          exact ⟨i, _, hi, List.getElem?_eq_getElem (by rw [← hylen]; exact (List.getElem?_eq_some_iff.1 hi).1)⟩
        refine ⟨.agg ys us hylen (fun c hc => ?_) fun i c u e1 e2 => (hget i c u e1 e2).1, ?_, fun h => by simp [V.leaf] at h, fun hfl => ?_, fun _ => rfl⟩
        · obtain ⟨i, u, h1, h2⟩ := hmem c hc; exact (hget i c u h1 h2).2.2.1
        · rw [V.noIds]; exact V.noIdsL_of fun c hc => by obtain ⟨i, u, h1, h2⟩ := hmem c hc; exact (hget i c u h1 h2).2.1
        · exact .agg ys us hylen (fun c hc => by obtain ⟨i, u, h1, h2⟩ := hmem c hc; exact (hget i c u h1 h2).2.2.1) fun i c u e1 e2 => (hget i c u e1 e2).2.2.2 hfl
      · cases h
    | tup cs us hl hh =>
      simp only [reify] at h
      split at h
      · rename_i ys hys
        simp at h; subst h
        obtain ⟨g1, g2⟩ := allSome_get hys
        have hget : ∀ (i : Nat) (c : V) (u : Value), ys[i]? = some c → us[i]? = some u → VRel (Ctx.bare K.X) w c u ∧ c.noIds = true := by
          intro i c u e1 e2
          have hi : i < cs.length := by rw [← g1]; exact (List.getElem?_eq_some_iff.1 e1).1
          obtain ⟨y, q1, q2⟩ := g2 i _ (List.getElem?_eq_getElem hi)
          rw [e1] at q2
          obtain rfl := Option.some.inj q2
          obtain ⟨r1, r2, _⟩ := reify_rel hk n (hh i _ u (List.getElem?_eq_getElem hi) e2) q1
          exact ⟨r1, r2⟩
        have hylen : ys.length = us.length := by rw [g1, hl]
        refine ⟨.tup ys us hylen fun i c u e1 e2 => (hget i c u e1 e2).1, ?_, fun hlf => ?_, fun hfl => by simp [V.flat] at hfl, fun hst => by simp [V.storable] at hst⟩
        · rw [V.noIds]
          refine V.noIdsL_of fun c hc => ?_
          obtain ⟨i, hi⟩ := List.getElem?_of_mem hc
          exact (hget i c _ hi (List.getElem?_eq_getElem (by rw [← hylen]; exact (List.getElem?_eq_some_iff.1 hi).1))).2
        · simp [V.leaf] at hlf
      · cases h
    | ref id ver sz off len T a cap hT hal hv hz hl hc ha =>
      simp only [reify] at h
      split at h
      · rename_i xs hxs
        split at h
        · rename_i ys hys
          simp at h; subst h
          obtain ⟨g1, g2⟩ := allSome_get hys
          obtain ⟨sz', vals, ad, cap', E⟩ := elems_rel hk (.ref id ver sz off len T a cap hT hal hv hz hl hc ha) hxs
          have hv' := E.val
          simp only [Value.slice.injEq] at hv'
          obtain ⟨e1, e2, e3⟩ := hv'
          subst e1; subst e3
          have hrows : ∀ (i : Nat) (x : V), xs[i]? = some x → x.storable = true := by
            intro i x hx
            simp only [elems] at hxs
            split at hxs
            · split at hxs
              · split at hxs
                · simp only [Option.some.injEq] at hxs
                  rename_i o ho _ _
                  obtain ⟨T0, hT0, hor⟩ := hk.obj id o ho
                  obtain ⟨cc, et, _, _, hrow⟩ := hor.row
                  rw [← hxs, List.getElem?_map] at hx
                  cases hq : ((o.rows.drop off).take len)[i]? with
                  | none => simp [hq] at hx
                  | some r =>
                    simp [hq] at hx
                    rw [← hx]
                    have hr : r ∈ o.rows := List.mem_of_mem_drop (List.mem_of_mem_take (List.mem_of_getElem? hq))
                    obtain ⟨i2, hi2⟩ := List.getElem?_of_mem hr
                    match r, hi2 with
                    | [v], hi2 => 
                      have := ((hrow i2 [v] hi2).2 0 v rfl).1
                      rcases V.leaf_cells this with _
                      cases v <;> first | rfl | (simp [V.leaf] at this)
                    | [], _ => rfl
                    | _ :: _ :: _, _ => rfl
                · cases hxs
              · cases hxs
            · cases hxs
          -- the value that an element stands for
          have hel : ∀ (i : Nat) (y : V), ys[i]? = some y → ∃ x, xs[i]? = some x ∧ y.noIds = true ∧ y.storable = true ∧ y.cells.length = sz' ∧ ∀ (j : Nat) (c : V), y.cells[j]? = some c → c.leaf = true ∧ j < x.cells.length ∧ VRel (Ctx.bare K.X) w c (vals i j) := by
            intro i y hy
            have hi : i < xs.length := by rw [← g1]; exact (List.getElem?_eq_some_iff.1 hy).1
            have hx := List.getElem?_eq_getElem hi
            obtain ⟨y', q1, q2⟩ := g2 i _ hx
            rw [hy] at q2
            obtain rfl := Option.some.inj q2
            refine ⟨_, hx, ?_⟩
            generalize xs[i] = x at hx q1
            have hst := hrows i x hx
            have hlen := E.szs x (List.mem_of_getElem? hx)
            obtain ⟨u, hu, huc⟩ : ∃ u, VRel K w x u ∧ u.cells.toList = (List.range sz').map (vals i) := by
              rcases V.leaf_or hst with hlf | ⟨cs, rfl⟩
              · have hc := V.leaf_cells hlf
                have h1 : x.cells[0]? = some x := by rw [hc]; rfl
                have hr := (E.rel i x 0 x hx h1).2
                refine ⟨vals i 0, hr, ?_⟩
                rw [(hr.one hlf).2]
                rw [hc] at hlen
                simp at hlen
                rw [← hlen]; rfl
              · refine ⟨.agg ((List.range sz').map (vals i)).toArray, .agg cs _ (by simpa [V.cells] using hlen) (fun c hc => ?_) (fun j c v e1 e2 => ?_), by simp [Value.cells]⟩
                · obtain ⟨j, hj⟩ := List.getElem?_of_mem hc
                  exact (E.rel i _ j c hx hj).1
                · have hj : j < sz' := by rw [← hlen]; exact (List.getElem?_eq_some_iff.1 e1).1
                  simp [hj] at e2
                  subst e2
                  exact (E.rel i _ j c hx e1).2
            obtain ⟨r1, r2, r3, r4, r5⟩ := reify_rel hk n hu q1
            have hcr := r1.cells (r5 hst)
            rw [huc] at hcr
            refine ⟨r2, r5 hst, by simpa using hcr.1, fun j c hc => ?_⟩
            have hj : j < sz' := by have := (List.getElem?_eq_some_iff.1 hc).1; have := hcr.1; simp at this; omega
            exact ⟨hcr.2.1 c (List.mem_of_getElem? hc), by rw [hlen]; exact hj, hcr.2.2 j c (vals i j) hc (by simp [hj])⟩
          have hn : (V.lit ys).noIds = true := by
            rw [V.noIds]
            refine V.noIdsL_of fun y hy => ?_
            obtain ⟨i, hi⟩ := List.getElem?_of_mem hy
            obtain ⟨x, _, h1, _⟩ := hel i y hi
            exact h1
          refine ⟨?_, hn, fun _ => rfl, fun hfl => by simp [V.flat] at hfl, fun _ => rfl⟩
          rw [e2, ← g1]
          by_cases hne : xs = []
          · subst hne
            have : ys = [] := List.eq_nil_of_length_eq_zero (by rw [g1]; rfl)
            subst this
            exact .lit0 _ _
          · obtain ⟨b, o, rfl, hcell⟩ := E.base hne
            have hpos : 0 < xs.length := List.length_pos_iff.2 hne
            have hbT : b = T.blk := by
              rcases ha with ha | ha
              · simp at ha; exact ha.1
              · omega
            refine .lit ys b o sz' cap vals ⟨?_, ?_, by simp [Ctx.bare]⟩ (by rw [g1, ← e2]; exact hl) (fun y hy => ?_) (fun i y j c h1 h2 => ?_) (fun i y j c h1 h2 => ?_)
            · rw [hbT]; exact hk.blk_lt hT
            · rw [hbT]; exact hk.X id T hT
            · obtain ⟨i, hi⟩ := List.getElem?_of_mem hy
              obtain ⟨x, _, q1, q2, q3, _⟩ := hel i y hi
              exact ⟨q3, q2, q1⟩
            · obtain ⟨x, q0, q1, q2, q3, q4⟩ := hel i y h1
              obtain ⟨p1, p2, p3⟩ := q4 j c h2
              exact ⟨p1, hcell i x j _ q0 (List.getElem?_eq_getElem p2)⟩
            · obtain ⟨x, q0, q1, q2, q3, q4⟩ := hel i y h1
              exact (q4 j c h2).2.2
        · cases h
      · cases h
    | refd id ver sz off len a cap hal hd hl ha =>
      simp only [reify] at h
      split at h
      · rename_i xs hxs
        simp only [elems] at hxs
        split at hxs
        · rename_i o ho
          obtain ⟨T, hT, hor⟩ := hk.obj id o ho
          split at hxs
          · rename_i hver
            exact absurd (hd T hT) (by rw [hor.ver, hver]; omega)
          · cases hxs
        · cases hxs
      · cases h
    | ptr => simp [reify] at h
    | ptrd => simp [reify] at h
    | fn => simp [reify] at h
    | undef => simp [reify] at h

theorem bare_any {K' : Ctx} {w' : World} {x : V} {u : Value} (h : VRel K' w' x u) (hb : x.bare = true) : VRel K w x u := by
  cases h with
  | bool b => exact .bool b
  | int k n => exact .int k n
  | str b => exact .str b
  | nils b => exact .nils b
  | pnil => exact .pnil
  | lit0 a cap => exact .lit0 a cap
  | lit xs b o sz cap vals hb' hc hx hcell hrel =>
    cases xs with
    | nil => exact .lit0 _ _
    | cons x r => simp [V.bare] at hb
  | _ => simp [V.bare] at hb
theorem scalar1_any {K' : Ctx} {w' : World} {x : V} {u : Value} (h : VRel K' w' x u) (hb : x.scalar1 = true) : VRel K w x u := by
  by_cases ha : ∃ cs, x = .agg cs
  · obtain ⟨cs, rfl⟩ := ha
    cases h with
    | agg _ us hl hf hh =>
      simp only [V.scalar1, List.all_eq_true] at hb
      exact .agg cs us hl hf fun i c v h1 h2 => bare_any (hh i c v h1 h2) (hb c (List.mem_of_getElem? h1))
  · refine bare_any h ?_
    cases x <;> first | exact hb | exact absurd ⟨_, rfl⟩ ha
theorem scalar_any {K' : Ctx} {w' : World} {x : V} {u : Value} (h : VRel K' w' x u) (hb : x.scalar = true) : VRel K w x u := by
  by_cases ha : ∃ cs, x = .tup cs
  · obtain ⟨cs, rfl⟩ := ha
    cases h with
    | tup _ us hl hh =>
      simp only [V.scalar, List.all_eq_true] at hb
      exact .tup cs us hl fun i c v h1 h2 => scalar1_any (hh i c v h1 h2) (hb c (List.mem_of_getElem? h1))
  · refine scalar1_any h ?_
    cases x <;> first | exact hb | exact absurd ⟨_, rfl⟩ ha

/-- A call as the evaluator makes it. -/
def CallPost (C : Cfg) (K : Ctx) (s : St) (w : World) (r : V) (s' : St) (e : Ending) (w' : World) : Prop :=
  ∃ K' u, e = .returned u ∧ Stp K w K' w' ∧ RelW C.glob K' s' w' ∧ VRel K' w' r u ∧ (∀ j, K'.al j → K.al j ∨ (s.nxt ≤ j ∧ j < s'.nxt)) ∧ s.nxt ≤ s'.nxt

theorem callV_rel (hcal : Sound C P cal) (hk : RelW C.glob K s w) (hal : ∀ j, K.al j → j < s.nxt) {pure : Bool} {f : FuncId} {args : List V} {us : List Value} (ha : LRel K w args us) {r : V} {s' : St}
    (h : callV cal pure f args s = some (r, s')) : Calls P f us.toArray w (CallPost C K s w r s') := by
  unfold callV at h
  split at h
  · split at h
    · rename_i as has
      split at h
      · rename_i r1 s1 hc
        split at h
        · rename_i r2 hr2
          split at h
          · rename_i hfl
            simp at h
            obtain ⟨rfl, rfl⟩ := h
            obtain ⟨q1, q2⟩ := allSome_get has
            -- what the callee may not touch
            obtain ⟨X0, hX0, hX1, hback, hargs⟩ : ∃ X0 : Nat → Prop, (∀ b, fz K w.heap.size b → ¬ X0 b) ∧ (∀ b, X0 b → b < w.heap.size) ∧
                (∀ (w' : World) (u : Value), Stp K w K w' → VRel (Ctx.bare X0) w' r2 u → r2.noIds = true → VRel K w' r2 u) ∧ LRel (Ctx.bare X0) w as us := by
              cases hf : args.all V.flat with
              | true =>
                refine ⟨fun b => K.X b ∨ ∃ id T, K.φ id = some T ∧ T.blk = b, fun b hb hx => ?_, fun b hx => ?_, fun w' u hs hv hn => ?_, ?_⟩
                · rcases hx with hx | ⟨id, T, h1, h2⟩
                  · exact hb.2.1 hx
                  · exact hb.2.2 id T h1 h2
                · rcases hx with hx | ⟨id, T, h1, h2⟩
                  · exact hk.Xlt b hx
                  · rw [← h2]; exact hk.blk_lt h1
                · exact hv.transfer (K := Ctx.bare _) (K' := K) (fun b hb => ⟨hb.1, fun hx => hb.2.1 (.inl hx), fun id T h1 h2 => hb.2.1 (.inr ⟨id, T, h1, h2⟩)⟩) hn
                · refine ⟨by rw [q1, ha.1], fun i c u e1 e2 => ?_⟩
                  have hi : i < args.length := by rw [← q1]; exact (List.getElem?_eq_some_iff.1 e1).1
                  obtain ⟨y, p1, p2⟩ := q2 i _ (List.getElem?_eq_getElem hi)
                  rw [e1] at p2
                  obtain rfl := Option.some.inj p2
                  have hv := ha.2 i _ u (List.getElem?_eq_getElem hi) e2
                  have hfi := List.all_eq_true.1 hf _ (List.getElem_mem hi)
                  obtain ⟨_, r2, _, r4, _⟩ := reify_rel hk 40 hv p1
                  exact (r4 hfi).transfer (K := K) (K' := Ctx.bare _) (fun b hb => ⟨hb.1, fun hx => by
                    rcases hx with hx | ⟨id, T, h1, h2⟩
                    · exact hb.2.1 hx
                    · exact hb.2.2 id T h1 h2, by simp [Ctx.bare]⟩) r2
              | false =>
                have hsc : r2.scalar = true := by simpa [hf] using hfl
                refine ⟨K.X, fun b hb => hb.2.1, hk.Xlt, fun w' u hs hv hn => scalar_any hv hsc, by rw [q1, ha.1], fun i c u e1 e2 => ?_⟩
                have hi : i < args.length := by rw [← q1]; exact (List.getElem?_eq_some_iff.1 e1).1
                obtain ⟨y, p1, p2⟩ := q2 i _ (List.getElem?_eq_getElem hi)
                rw [e1] at p2
                obtain rfl := Option.some.inj p2
                exact (reify_rel hk 40 (ha.2 i _ u (List.getElem?_eq_getElem hi) e2) p1).1
            have hk0 : RelW C.glob (Ctx.bare X0) St.empty w :=
              { obj := fun id o ho => by simp [St.empty, St.get, aget] at ho
                dom := fun id T hT => by simp [Ctx.bare] at hT
                al := fun id T hT => by simp [Ctx.bare] at hT
                inj := fun id id' T T' hT => by simp [Ctx.bare] at hT
                X := fun id T hT => by simp [Ctx.bare] at hT
                Xlt := hX1
                glob := fun g cs hg => by
                  have hv := hk.glob g cs hg
                  refine hv.transfer (K := K) (K' := Ctx.bare X0) (fun b hb => ⟨hb.1, hX0 b hb, by simp [Ctx.bare]⟩) ?_
                  exact hv.flat_noIds rfl }
            refine (hcal f as St.empty r1 s1 hc (Ctx.bare X0) w us hk0 (fun j hj => by simp [Ctx.bare] at hj) hargs).mono ?_
            rintro e w' ⟨K1, u, rfl, hs, hk1, hv, _, _⟩
            have hheap : ∀ b, b < w.heap.size → w'.heap[b]? = w.heap[b]? := fun b hb => (hs.un b hb (by simp [Ctx.bare])).1
            have hst : Stp K w K w' := ⟨rfl, fun _ h => h, fun _ _ T' h => ⟨T', h, .inl rfl⟩, hs.size, hs.os, hs.tape, hs.output, fun b hb hn => ⟨hheap b hb, hn⟩⟩
            obtain ⟨g1, g2, _⟩ := reify_rel hk1 40 hv hr2
            rw [hs.X] at g1
            exact ⟨K, u, rfl, hst, hk.same hst (fun id T hT => hheap _ (hk.blk_lt hT)), hback w' u hst g1 g2, fun j h => .inl h, Nat.le_refl _⟩
          · cases h
        · cases h
      · cases h
    · cases h
  · exact hcal f args s r s' h K w us hk hal ha

theorem callFunc_enter {f : FuncId} {fn : Func} {b : Code} (hf : P.funcs[f]? = some fn) (hn : fn.name ≠ "runtime.NumGoroutine") (hb : fn.body = some b) (args : Array Value) : (callFunc f args).run P w = .ok (.enter f args) w := by
  have hn' : (fn.name == "runtime.NumGoroutine") = false := by simpa using hn
  simp [callFunc, hf, hn, hb]

theorem slf {id sz i : Nat} {xs : List V} {v : V} {ob : Obj} (h : sliceOfRows true id sz xs = some (v, .set i ob)) : False := by
  unfold sliceOfRows at h
  split at h
  · simp only [if_true] at h
    split at h
    · simp at h
    · cases h
  · cases h
theorem qmap_set {x : Option V} {v : V} {i : Nat} {ob : Obj} (h : x.map (fun v => (v, Eff.none)) = some (v, .set i ob)) : False := by
  cases x <;> simp at h

/-- What makes an object, or writes one otherwise than by a store. -/
theorem prim_makes {fi : FnI} {o : Oper} {id i : Nat} {v : V} {ob : Obj} (hp : prim C (frzOf fi o) e s id o.op = some (v, .set i ob)) (hns : notStore o = true) : makes fi o = true := by
  obtain ⟨dst, op, type, pos, after, guard⟩ := o
  cases op
  case call c =>
    obtain ⟨callee, args, ats⟩ := c
    cases callee with
    | builtin b =>
      cases b
      case append =>
        cases hf : frzOf fi ⟨dst, .call ⟨.builtin .append, args, ats⟩, type, pos, after, guard⟩ with
        | false => simp [makes, hf]
        | true =>
          rw [hf] at hp
          exfalso
          simp only [prim] at hp
          split at hp
          · split at hp
            · split at hp
              · unfold appendOp at hp
                split at hp
                · split at hp
                  · cases hp
                  · split at hp
                    · split at hp
                      · simp at hp
                      · split at hp
                        · exact slf hp
                        · cases hp
                    · simp at hp
                    · cases hp
                · cases hp
              · cases hp
            · cases hp
          · cases hp
      all_goals
        exfalso
        simp only [prim] at hp
        first
          | (cases hp; done)
          | (split at hp <;> first | exact qmap_set hp | cases hp)
    | value f => simp [prim] at hp
    | invoke r m => simp [prim] at hp
  case store => simp [notStore] at hns
  case box => rfl
  case alloc => rfl
  case buildSlice t n ps =>
    cases hf : frzOf fi ⟨dst, .buildSlice t n ps, type, pos, after, guard⟩ with
    | false => simp [makes, hf]
    | true =>
      rw [hf] at hp
      exfalso
      simp only [prim] at hp
      split at hp
      · split at hp
        · split at hp
          · split at hp
            · simp at hp
            · cases hp
          · split at hp
            · cases hp
            · split at hp
              · exact slf hp
              · cases hp
        · cases hp
      · cases hp
  case makeSlice t l c =>
    cases hf : frzOf fi ⟨dst, .makeSlice t l c, type, pos, after, guard⟩ with
    | false => simp [makes, hf]
    | true =>
      rw [hf] at hp
      exfalso
      simp only [prim] at hp
      split at hp
      · split at hp
        · split at hp
          · split at hp
            · exact slf hp
            · cases hp
          · cases hp
        · cases hp
      · cases hp
  case makeFunc f first cap =>
    exfalso
    cases f
    case func f =>
      simp only [prim] at hp
      split at hp
      · split at hp
        · simp at hp
        · cases hp
      · cases hp
    all_goals (simp only [prim] at hp; cases hp)
  all_goals
    exfalso
    simp only [prim] at hp
    first
      | (cases hp; done)
      | exact qmap_set hp
      | (split at hp <;> first | exact qmap_set hp | (simp at hp; done) | (cases hp; done) | (split at hp <;> first | exact qmap_set hp | (simp at hp; done) | (cases hp; done)))

/-- What an operation does, for whatever comes behind it. -/
theorem act_rel (hC : CfgOk C P) (hcal : Sound C P cal) (hk : RelW C.glob K s w) (hal : ∀ j, K.al j → j < s.nxt) (he : ERel K w e a) {fi : FnI} {o : Oper} {id : Nat} (hid : ¬ K.al id) {v : V} {s' : St} {b : Bool} {ft : Foot}
    (h : act C cal fi id o e s = some (v, s', b, ft)) {next : Act → World → Prop} {Q : Exit → Act → World → Prop}
    (hnext : ∀ K' w' u, Stp K w K' w' → RelW C.glob K' s' w' → VRel K' w' v u → (∀ j, K'.al j → K.al j ∨ (makes fi o = true ∧ b = true ∧ j = id) ∨ (s.nxt ≤ j ∧ j < s'.nxt)) → s.nxt ≤ s'.nxt → next (a.put o.dst u) w') :
    o.wp P a w next Q := by
  unfold act at h
  split at h
  · rename_i f args ats hop
    split at h
    · rename_i g cap as hf has
      split at h
      · rename_i gi hgi
        split at h
        · rename_i r s1 hc
          simp at h
          obtain ⟨rfl, rfl, rfl, _⟩ := h
          have hfr := opnd_rel hk he hf
          have har := opnds_rel hk he has
          generalize hgf : a.eval f = uf at hfr
          cases hfr with
          | fn _ _ us hl hh =>
            obtain ⟨h1, h2, bd, h3, _⟩ := hC.fn g gi hgi
            have hex : (execOp a.eval o).run P w = .ok (.enter g (args.toList.map a.eval ++ us).toArray) w := by
              have e : args.map a.eval ++ us.toArray = (args.toList.map a.eval ++ us).toArray := by
                rw [← List.append_toArray, ← List.map_toArray, Array.toArray_toList]
              simp only [execOp, hop, resolve, hgf]
              simp [Deferred.ofValue, invoke]
              rw [e, callFunc_enter h1 h2 h3]
            unfold Oper.wp
            rw [hex, Oper.upon_enter]
            refine (callV_rel hcal hk hal (har.append ⟨hl, hh⟩) hc).mono ?_
            rintro e w' ⟨K', u, rfl, g1, g2, g3, g4, g5⟩
            exact hnext K' w' u g1 g2 g3 (fun j hj => by rcases g4 j hj with h | h; exact .inl h; exact .inr (.inr h)) g5
        · cases h
      · cases h
    · cases h
  · split at h
    · rename_i v1 eff hp
      simp at h
      obtain ⟨rfl, rfl, hb, _⟩ := h
      obtain ⟨K', w', u, h1, h2, h3, h4, h5⟩ := prim_rel hC hk he hid hp
      have hnx : (eff.on s).nxt = s.nxt := by cases eff <;> rfl
      have hfin := hnext K' w' u h2 h3 h4 (fun j hj => by
        rcases h5 j hj with h | ⟨h, hns, o', ho'⟩
        · exact .inl h
        · refine .inr (.inl ⟨?_, ?_, h⟩)
          · rw [ho'] at hp; exact prim_makes hp hns
          · rw [← hb, ho']
            simp) (by rw [hnx]; exact Nat.le_refl _)
      unfold Oper.wp
      rcases h1 with h1 | ⟨h1, rfl⟩
      · rw [h1]; exact hfin
      · rw [h1]; exact hfin
    · cases h
end
end Go.Ilv
