import Derived.Test.YtdofkchhdckomaaFw2
import Derived.LoopN
/- Calls, and one operation of a region. -/
set_option linter.unusedVariables false
set_option linter.unusedSimpArgs false
namespace Go.Ilv
open Go

/-- What is said of a call. -/
def Sound (C : Cfg) (P : Program) (cal : Callee) : Prop :=
  ∀ (f : FuncId) (args : List V) (s : St) (r : V) (s' : St), cal f args s = some (r, s') → ∀ (K : Ctx) (w : World) (us : List Value), RelW C.glob K s w → (∀ j, K.al j → j < s.nxt) → LRel K w args us →
    Calls P f us.toArray w fun e w' => ∃ K' u, e = .returned u ∧ Stp K w K' w' ∧ RelW C.glob K' s' w' ∧ VRel K' w' r u ∧ (∀ j, K'.al j → K.al j ∨ (s.nxt ≤ j ∧ j < s'.nxt)) ∧ s.nxt ≤ s'.nxt

section
variable {C : Cfg} {P : Program} {gl : Nat → Option (List V)} {K : Ctx} {s : St} {w w' : World} {e : Env} {a : Act} {cal : Callee}

theorem allSome_get {α β : Type} {f : α → Option β} : ∀ {l : List α} {r : List β}, allSome f l = some r → r.length = l.length ∧ ∀ (i : Nat) (x : α), l[i]? = some x → ∃ y, f x = some y ∧ r[i]? = some y
  | [], r, h => by simp [allSome] at h; subst h; simp
  | x :: l, r, h => by
    simp only [allSome] at h
    split at h
    · rename_i y l' h1 h2
      simp at h; subst h
      obtain ⟨g1, g2⟩ := allSome_get h2
      refine ⟨by simp [g1], fun i z hz => ?_⟩
      cases i with
      | zero => simp at hz; subst hz; exact ⟨y, h1, rfl⟩
      | succ i => obtain ⟨q, q1, q2⟩ := g2 i z (by simpa using hz); exact ⟨q, q1, by simpa using q2⟩
    · cases h

/-- Nothing is anybody's. -/
def Ctx.bare (X : Nat → Prop) : Ctx := ⟨fun _ => none, fun _ => False, X⟩

theorem LRel.of_all {xs : List V} {us : List Value} (hl : xs.length = us.length) (h : ∀ (i : Nat) (c : V) (u : Value), xs[i]? = some c → us[i]? = some u → VRel K w c u) : LRel K w xs us := ⟨hl, h⟩

theorem flat_bare {x : V} (h : x.noIds = true) {u : Value} (hx : VRel K w x u) : VRel (Ctx.bare K.X) w x u :=
  hx.transfer (K := K) (K' := Ctx.bare K.X) (fun b hb => ⟨hb.1, hb.2.1, by simp [Ctx.bare]⟩) h

/-- A value told without objects: what it says stands, as long as nobody writes. -/
theorem reify_rel (hk : RelW gl K s w) : ∀ (n : Nat) {x y : V} {u : Value}, VRel K w x u → reify s n x = some y → VRel (Ctx.bare K.X) w y u ∧ y.noIds = true ∧ (x.leaf = true → y.leaf = true) ∧ (x.flat = true → VRel K w y u) ∧ (x.storable = true → y.storable = true)
  | 0, x, y, u, hx, h => by simp [reify] at h
  | n + 1, x, y, u, hx, h => by
    cases hx with
    | bool b => simp [reify] at h; subst h; exact ⟨.bool b, rfl, fun _ => rfl, fun _ => .bool b, fun _ => rfl⟩
    | int k m => simp [reify] at h; subst h; exact ⟨.int k m, rfl, fun _ => rfl, fun _ => .int k m, fun _ => rfl⟩
    | str b => simp [reify] at h; subst h; exact ⟨.str b, rfl, fun _ => rfl, fun _ => .str b, fun _ => rfl⟩
    | nils b => simp [reify] at h; subst h; exact ⟨.lit0 b 0, rfl, fun _ => rfl, fun _ => .lit0 b 0, fun _ => rfl⟩
    | pnil => simp [reify] at h; subst h; exact ⟨.pnil, rfl, fun _ => rfl, fun _ => .pnil, fun _ => rfl⟩
    | lit0 a cap => simp [reify] at h; subst h; exact ⟨.lit0 a cap, rfl, fun _ => rfl, fun _ => .lit0 a cap, fun _ => rfl⟩
    | lit xs b o sz cap vals hb hc hx hcell hrel =>
      simp [reify] at h; subst h
      have hn : (V.lit xs).noIds = true := by rw [V.noIds]; exact V.noIdsL_of fun x hx' => (hx x hx').2.2
      exact ⟨flat_bare hn (.lit xs b o sz cap vals hb hc hx hcell hrel), hn, fun _ => rfl, fun _ => .lit xs b o sz cap vals hb hc hx hcell hrel, fun _ => rfl⟩
    | cptr cs b o vals hb hnn hcell hrel =>
      simp [reify] at h; subst h
      have hn : (V.cptr cs).noIds = true := by rw [V.noIds]; exact V.noIdsL_of fun x hx' => (hnn x hx').2
      exact ⟨flat_bare hn (.cptr cs b o vals hb hnn hcell hrel), hn, fun _ => rfl, fun _ => .cptr cs b o vals hb hnn hcell hrel, fun _ => rfl⟩
    | agg cs us hl hf hh =>
      simp only [reify] at h
      split at h
      · rename_i ys hys
        simp at h; subst h
        obtain ⟨g1, g2⟩ := allSome_get hys
        have hget : ∀ (i : Nat) (c : V) (u : Value), ys[i]? = some c → us[i]? = some u → VRel (Ctx.bare K.X) w c u ∧ c.noIds = true ∧ c.leaf = true ∧ ((V.agg cs).flat = true → VRel K w c u) := by
          intro i c u e1 e2
          have hi : i < cs.length := by rw [← g1]; exact (List.getElem?_eq_some_iff.1 e1).1
          obtain ⟨y, q1, q2⟩ := g2 i _ (List.getElem?_eq_getElem hi)
          rw [e1] at q2
          obtain rfl := Option.some.inj q2
          obtain ⟨r1, r2, r3, r4, _⟩ := reify_rel hk n (hh i _ u (List.getElem?_eq_getElem hi) e2) q1
          refine ⟨r1, r2, r3 (hf _ (List.getElem_mem _)), fun hfl => ?_⟩
          refine r4 ?_
          have h1 := hf _ (List.getElem_mem hi)
          have h2 : _ := List.all_eq_true.1 (by simpa only [V.flat] using hfl) _ (List.getElem_mem hi)
          generalize cs[i] = c at h1 h2
          cases c <;> first | rfl | (simp at h2; done) | (simp [V.leaf] at h1)
        have hylen : ys.length = us.length := by rw [g1, hl]
        have hmem : ∀ c ∈ ys, ∃ (i : Nat) (u : Value), ys[i]? = some c ∧ us[i]? = some u := by
          intro c hc
          obtain ⟨i, hi⟩ := List.getElem?_of_mem hc
          exact ⟨i, _, hi, List.getElem?_eq_getElem (by rw [← hylen]; exact (List.getElem?_eq_some_iff.1 hi).1)⟩
        refine ⟨.agg ys us hylen (fun c hc => ?_) fun i c u e1 e2 => (hget i c u e1 e2).1, ?_, fun h => by simp [V.leaf] at h, fun hfl => ?_, fun _ => rfl⟩
        · obtain ⟨i, u, h1, h2⟩ := hmem c hc; exact (hget i c u h1 h2).2.2.1
        · rw [V.noIds]; exact V.noIdsL_of fun c hc => by obtain ⟨i, u, h1, h2⟩ := hmem c hc; exact (hget i c u h1 h2).2.1
        · exact .agg ys us hylen (fun c hc => by obtain ⟨i, u, h1, h2⟩ := hmem c hc; exact (hget i c u h1 h2).2.2.1) fun i c u e1 e2 => (hget i c u e1 e2).2.2.2 hfl
      · cases h
    | tup cs us hl hh =>
      simp only [reify] at h
      split at h
      · rename_i ys hys
        simp at h; subst h
        obtain ⟨g1, g2⟩ := allSome_get hys
        have hget : ∀ (i : Nat) (c : V) (u : Value), ys[i]? = some c → us[i]? = some u → VRel (Ctx.bare K.X) w c u ∧ c.noIds = true := by
          intro i c u e1 e2
          have hi : i < cs.length := by rw [← g1]; exact (List.getElem?_eq_some_iff.1 e1).1
          obtain ⟨y, q1, q2⟩ := g2 i _ (List.getElem?_eq_getElem hi)
          rw [e1] at q2
          obtain rfl := Option.some.inj q2
          obtain ⟨r1, r2, _⟩ := reify_rel hk n (hh i _ u (List.getElem?_eq_getElem hi) e2) q1
          exact ⟨r1, r2⟩
        have hylen : ys.length = us.length := by rw [g1, hl]
        refine ⟨.tup ys us hylen fun i c u e1 e2 => (hget i c u e1 e2).1, ?_, fun hlf => ?_, fun hfl => by simp [V.flat] at hfl, fun hst => by simp [V.storable] at hst⟩
        · rw [V.noIds]
          refine V.noIdsL_of fun c hc => ?_
          obtain ⟨i, hi⟩ := List.getElem?_of_mem hc
          exact (hget i c _ hi (List.getElem?_eq_getElem (by rw [← hylen]; exact (List.getElem?_eq_some_iff.1 hi).1))).2
        · simp [V.leaf] at hlf
      · cases h
    | ref id ver sz off len T a cap hT hal hv hz hl hc ha =>
      simp only [reify] at h
      split at h
      · rename_i xs hxs
        split at h
        · rename_i ys hys
          simp at h; subst h
          obtain ⟨g1, g2⟩ := allSome_get hys
          obtain ⟨sz', vals, ad, cap', E⟩ := elems_rel hk (.ref id ver sz off len T a cap hT hal hv hz hl hc ha) hxs
          have hv' := E.val
          simp only [Value.slice.injEq] at hv'
          obtain ⟨e1, e2, e3⟩ := hv'
          subst e1; subst e3
          have hrows : ∀ (i : Nat) (x : V), xs[i]? = some x → x.storable = true := by
            intro i x hx
            simp only [elems] at hxs
            split at hxs
            · split at hxs
              · split at hxs
                · simp only [Option.some.injEq] at hxs
                  rename_i o ho _ _
                  obtain ⟨T0, hT0, hor⟩ := hk.obj id o ho
                  obtain ⟨cc, et, _, _, hrow⟩ := hor.row
                  rw [← hxs, List.getElem?_map] at hx
                  cases hq : ((o.rows.drop off).take len)[i]? with
                  | none => simp [hq] at hx
                  | some r =>
                    simp [hq] at hx
                    rw [← hx]
                    have hr : r ∈ o.rows := List.mem_of_mem_drop (List.mem_of_mem_take (List.mem_of_getElem? hq))
                    obtain ⟨i2, hi2⟩ := List.getElem?_of_mem hr
                    match r, hi2 with
                    | [v], hi2 => 
                      have := ((hrow i2 [v] hi2).2 0 v rfl).1
                      rcases V.leaf_cells this with _
                      cases v <;> first | rfl | (simp [V.leaf] at this)
                    | [], _ => rfl
                    | _ :: _ :: _, _ => rfl
                · cases hxs
              · cases hxs
            · cases hxs
          -- the value that an element stands for
          have hel : ∀ (i : Nat) (y : V), ys[i]? = some y → ∃ x, xs[i]? = some x ∧ y.noIds = true ∧ y.storable = true ∧ y.cells.length = sz' ∧ ∀ (j : Nat) (c : V), y.cells[j]? = some c → c.leaf = true ∧ j < x.cells.length ∧ VRel (Ctx.bare K.X) w c (vals i j) := by
            intro i y hy
            have hi : i < xs.length := by rw [← g1]; exact (List.getElem?_eq_some_iff.1 hy).1
            have hx := List.getElem?_eq_getElem hi
            obtain ⟨y', q1, q2⟩ := g2 i _ hx
            rw [hy] at q2
            obtain rfl := Option.some.inj q2
            refine ⟨_, hx, ?_⟩
            generalize xs[i] = x at hx q1
            have hst := hrows i x hx
            have hlen := E.szs x (List.mem_of_getElem? hx)
            obtain ⟨u, hu, huc⟩ : ∃ u, VRel K w x u ∧ u.cells.toList = (List.range sz').map (vals i) := by
              rcases V.leaf_or hst with hlf | ⟨cs, rfl⟩
              · have hc := V.leaf_cells hlf
                have h1 : x.cells[0]? = some x := by rw [hc]; rfl
                have hr := (E.rel i x 0 x hx h1).2
                refine ⟨vals i 0, hr, ?_⟩
                rw [(hr.one hlf).2]
                rw [hc] at hlen
                simp at hlen
                rw [← hlen]; rfl
              · refine ⟨.agg ((List.range sz').map (vals i)).toArray, .agg cs _ (by simpa [V.cells] using hlen) (fun c hc => ?_) (fun j c v e1 e2 => ?_), by simp [Value.cells]⟩
                · obtain ⟨j, hj⟩ := List.getElem?_of_mem hc
                  exact (E.rel i _ j c hx hj).1
                · have hj : j < sz' := by rw [← hlen]; exact (List.getElem?_eq_some_iff.1 e1).1
                  simp [hj] at e2
                  subst e2
                  exact (E.rel i _ j c hx e1).2
            obtain ⟨r1, r2, r3, r4, r5⟩ := reify_rel hk n hu q1
            have hcr := r1.cells (r5 hst)
            rw [huc] at hcr
            refine ⟨r2, r5 hst, by simpa using hcr.1, fun j c hc => ?_⟩
            have hj : j < sz' := by have := (List.getElem?_eq_some_iff.1 hc).1; have := hcr.1; simp at this; omega
            exact ⟨hcr.2.1 c (List.mem_of_getElem? hc), by rw [hlen]; exact hj, hcr.2.2 j c (vals i j) hc (by simp [hj])⟩
          have hn : (V.lit ys).noIds = true := by
            rw [V.noIds]
            refine V.noIdsL_of fun y hy => ?_
            obtain ⟨i, hi⟩ := List.getElem?_of_mem hy
            obtain ⟨x, _, h1, _⟩ := hel i y hi
            exact h1
          refine ⟨?_, hn, fun _ => rfl, fun hfl => by simp [V.flat] at hfl, fun _ => rfl⟩
          rw [e2, ← g1]
          by_cases hne : xs = []
          · subst hne
            have : ys = [] := List.eq_nil_of_length_eq_zero (by rw [g1]; rfl)
            subst this
            exact .lit0 _ _
          · obtain ⟨b, o, rfl, hcell⟩ := E.base hne
            have hpos : 0 < xs.length := List.length_pos_iff.2 hne
            have hbT : b = T.blk := by
              rcases ha with ha | ha
              · simp at ha; exact ha.1
              · omega
            refine .lit ys b o sz' cap vals ⟨?_, ?_, by simp [Ctx.bare]⟩ (by rw [g1, ← e2]; exact hl) (fun y hy => ?_) (fun i y j c h1 h2 => ?_) (fun i y j c h1 h2 => ?_)
            · rw [hbT]; exact hk.blk_lt hT
            · rw [hbT]; exact hk.X id T hT
            · obtain ⟨i, hi⟩ := List.getElem?_of_mem hy
              obtain ⟨x, _, q1, q2, q3, _⟩ := hel i y hi
              exact ⟨q3, q2, q1⟩
            · obtain ⟨x, q0, q1, q2, q3, q4⟩ := hel i y h1
              obtain ⟨p1, p2, p3⟩ := q4 j c h2
              exact ⟨p1, hcell i x j _ q0 (List.getElem?_eq_getElem p2)⟩
            · obtain ⟨x, q0, q1, q2, q3, q4⟩ := hel i y h1
              exact (q4 j c h2).2.2
        · cases h
      · cases h
    | refd id ver sz off len a cap hal hd hl ha =>
      simp only [reify] at h
      split at h
      · rename_i xs hxs
        simp only [elems] at hxs
        split at hxs
        · rename_i o ho
          obtain ⟨T, hT, hor⟩ := hk.obj id o ho
          split at hxs
          · rename_i hver
            exact absurd (hd T hT) (by rw [hor.ver, hver]; omega)
          · cases hxs
        · cases hxs
      · cases h
    | ptr => simp [reify] at h
    | ptrd => simp [reify] at h
    | fn => simp [reify] at h
    | undef => simp [reify] at h

theorem bare_any {K' : Ctx} {w' : World} {x : V} {u : Value} (h : VRel K' w' x u) (hb : x.bare = true) : VRel K w x u := by
  cases h with
  | bool b => exact .bool b
  | int k n => exact .int k n
  | str b => exact .str b
  | nils b => exact .nils b
  | pnil => exact .pnil
  | lit0 a cap => exact .lit0 a cap
  | lit xs b o sz cap vals hb' hc hx hcell hrel =>
    cases xs with
    | nil => exact .lit0 _ _
    | cons x r => simp [V.bare] at hb
  | _ => simp [V.bare] at hb
theorem scalar1_any {K' : Ctx} {w' : World} {x : V} {u : Value} (h : VRel K' w' x u) (hb : x.scalar1 = true) : VRel K w x u := by
  by_cases ha : ∃ cs, x = .agg cs
  · obtain ⟨cs, rfl⟩ := ha
    cases h with
    | agg _ us hl hf hh =>
      simp only [V.scalar1, List.all_eq_true] at hb
      exact .agg cs us hl hf fun i c v h1 h2 => bare_any (hh i c v h1 h2) (hb c (List.mem_of_getElem? h1))
  · refine bare_any h ?_
    cases x <;> first | exact hb | exact absurd ⟨_, rfl⟩ ha
theorem scalar_any {K' : Ctx} {w' : World} {x : V} {u : Value} (h : VRel K' w' x u) (hb : x.scalar = true) : VRel K w x u := by
  by_cases ha : ∃ cs, x = .tup cs
  · obtain ⟨cs, rfl⟩ := ha
    cases h with
    | tup _ us hl hh =>
      simp only [V.scalar, List.all_eq_true] at hb
      exact .tup cs us hl fun i c v h1 h2 => scalar1_any (hh i c v h1 h2) (hb c (List.mem_of_getElem? h1))
  · refine scalar1_any h ?_
    cases x <;> first | exact hb | exact absurd ⟨_, rfl⟩ ha

/-- A call as the evaluator makes it. -/
def CallPost (C : Cfg) (K : Ctx) (s : St) (w : World) (r : V) (s' : St) (e : Ending) (w' : World) : Prop :=
  ∃ K' u, e = .returned u ∧ Stp K w K' w' ∧ RelW C.glob K' s' w' ∧ VRel K' w' r u ∧ (∀ j, K'.al j → K.al j ∨ (s.nxt ≤ j ∧ j < s'.nxt)) ∧ s.nxt ≤ s'.nxt

theorem callV_rel (hcal : Sound C P cal) (hk : RelW C.glob K s w) (hal : ∀ j, K.al j → j < s.nxt) {pure : Bool} {f : FuncId} {args : List V} {us : List Value} (ha : LRel K w args us) {r : V} {s' : St}
    (h : callV cal pure f args s = some (r, s')) : Calls P f us.toArray w (CallPost C K s w r s') := by
  unfold callV at h
  split at h
  · split at h
    · rename_i as has
      split at h
      · rename_i r1 s1 hc
        split at h
        · rename_i r2 hr2
          split at h
          · rename_i hfl
            simp at h
            obtain ⟨rfl, rfl⟩ := h
            obtain ⟨q1, q2⟩ := allSome_get has
            -- what the callee may not touch
            obtain ⟨X0, hX0, hX1, hback, hargs⟩ : ∃ X0 : Nat → Prop, (∀ b, fz K w.heap.size b → ¬ X0 b) ∧ (∀ b, X0 b → b < w.heap.size) ∧
                (∀ (w' : World) (u : Value), Stp K w K w' → VRel (Ctx.bare X0) w' r2 u → r2.noIds = true → VRel K w' r2 u) ∧ LRel (Ctx.bare X0) w as us := by
              cases hf : args.all V.flat with
              | true =>
                refine ⟨fun b => K.X b ∨ ∃ id T, K.φ id = some T ∧ T.blk = b, fun b hb hx => ?_, fun b hx => ?_, fun w' u hs hv hn => ?_, ?_⟩
                · rcases hx with hx | ⟨id, T, h1, h2⟩
                  · exact hb.2.1 hx
                  · exact hb.2.2 id T h1 h2
                · rcases hx with hx | ⟨id, T, h1, h2⟩
                  · exact hk.Xlt b hx
                  · rw [← h2]; exact hk.blk_lt h1
                · exact hv.transfer (K := Ctx.bare _) (K' := K) (fun b hb => ⟨hb.1, fun hx => hb.2.1 (.inl hx), fun id T h1 h2 => hb.2.1 (.inr ⟨id, T, h1, h2⟩)⟩) hn
                · refine ⟨by rw [q1, ha.1], fun i c u e1 e2 => ?_⟩
                  have hi : i < args.length := by rw [← q1]; exact (List.getElem?_eq_some_iff.1 e1).1
                  obtain ⟨y, p1, p2⟩ := q2 i _ (List.getElem?_eq_getElem hi)
                  rw [e1] at p2
                  obtain rfl := Option.some.inj p2
                  have hv := ha.2 i _ u (List.getElem?_eq_getElem hi) e2
                  have hfi := List.all_eq_true.1 hf _ (List.getElem_mem hi)
                  obtain ⟨_, r2, _, r4, _⟩ := reify_rel hk 40 hv p1
                  exact (r4 hfi).transfer (K := K) (K' := Ctx.bare _) (fun b hb => ⟨hb.1, fun hx => by
                    rcases hx with hx | ⟨id, T, h1, h2⟩
                    · exact hb.2.1 hx
                    · exact hb.2.2 id T h1 h2, by simp [Ctx.bare]⟩) r2
              | false =>
                have hsc : r2.scalar = true := by simpa [hf] using hfl
                refine ⟨K.X, fun b hb => hb.2.1, hk.Xlt, fun w' u hs hv hn => scalar_any hv hsc, by rw [q1, ha.1], fun i c u e1 e2 => ?_⟩
                have hi : i < args.length := by rw [← q1]; exact (List.getElem?_eq_some_iff.1 e1).1
                obtain ⟨y, p1, p2⟩ := q2 i _ (List.getElem?_eq_getElem hi)
                rw [e1] at p2
                obtain rfl := Option.some.inj p2
                exact (reify_rel hk 40 (ha.2 i _ u (List.getElem?_eq_getElem hi) e2) p1).1
            have hk0 : RelW C.glob (Ctx.bare X0) St.empty w :=
              { obj := fun id o ho => by simp [St.empty, St.get, aget] at ho
                dom := fun id T hT => by simp [Ctx.bare] at hT
                al := fun id T hT => by simp [Ctx.bare] at hT
                inj := fun id id' T T' hT => by simp [Ctx.bare] at hT
                X := fun id T hT => by simp [Ctx.bare] at hT
                Xlt := hX1
                glob := fun g cs hg => by
                  have hv := hk.glob g cs hg
                  refine hv.transfer (K := K) (K' := Ctx.bare X0) (fun b hb => ⟨hb.1, hX0 b hb, by simp [Ctx.bare]⟩) ?_
                  exact hv.flat_noIds rfl }
            refine (hcal f as St.empty r1 s1 hc (Ctx.bare X0) w us hk0 (fun j hj => by simp [Ctx.bare] at hj) hargs).mono ?_
            rintro e w' ⟨K1, u, rfl, hs, hk1, hv, _, _⟩
            have hheap : ∀ b, b < w.heap.size → w'.heap[b]? = w.heap[b]? := fun b hb => (hs.un b hb (by simp [Ctx.bare])).1
            have hst : Stp K w K w' := ⟨rfl, fun _ h => h, fun _ _ T' h => ⟨T', h, .inl rfl⟩, hs.size, hs.os, hs.tape, hs.output, fun b hb hn => ⟨hheap b hb, hn⟩⟩
            obtain ⟨g1, g2, _⟩ := reify_rel hk1 40 hv hr2
            rw [hs.X] at g1
            exact ⟨K, u, rfl, hst, hk.same hst (fun id T hT => hheap _ (hk.blk_lt hT)), hback w' u hst g1 g2, fun j h => .inl h, Nat.le_refl _⟩
          · cases h
        · cases h
      · cases h
    · cases h
  · exact hcal f args s r s' h K w us hk hal ha

theorem callFunc_enter {f : FuncId} {fn : Func} {b : Code} (hf : P.funcs[f]? = some fn) (hn : fn.name ≠ "runtime.NumGoroutine") (hb : fn.body = some b) (args : Array Value) : (callFunc f args).run P w = .ok (.enter f args) w := by
  have hn' : (fn.name == "runtime.NumGoroutine") = false := by simpa using hn
  simp [callFunc, hf, hn, hb]

theorem slf {id sz i : Nat} {xs : List V} {v : V} {ob : Obj} (h : sliceOfRows true id sz xs = some (v, .set i ob)) : False := by
  unfold sliceOfRows at h
  split at h
  · simp only [if_true] at h
    split at h
    · simp at h
    · cases h
  · cases h
theorem qmap_set {x : Option V} {v : V} {i : Nat} {ob : Obj} (h : x.map (fun v => (v, Eff.none)) = some (v, .set i ob)) : False := by
  cases x <;> simp at h

/-- What makes an object, or writes one otherwise than by a store. -/
theorem prim_makes {fi : FnI} {o : Oper} {id i : Nat} {v : V} {ob : Obj} (hp : prim C (frzOf fi o) e s id o.op = some (v, .set i ob)) (hns : notStore o = true) : makes fi o = true := by
  obtain ⟨dst, op, type, pos, after, guard⟩ := o
  cases op
  case call c =>
    obtain ⟨callee, args, ats⟩ := c
    cases callee with
    | builtin b =>
      cases b
      case append =>
        cases hf : frzOf fi ⟨dst, .call ⟨.builtin .append, args, ats⟩, type, pos, after, guard⟩ with
        | false => simp [makes, hf]
        | true =>
          rw [hf] at hp
          exfalso
          simp only [prim] at hp
          split at hp
          · split at hp
            · split at hp
              · unfold appendOp at hp
                split at hp
                · split at hp
                  · cases hp
                  · split at hp
                    · split at hp
                      · simp at hp
                      · split at hp
                        · exact slf hp
                        · cases hp
                    · simp at hp
                    · cases hp
                · cases hp
              · cases hp
            · cases hp
          · cases hp
      all_goals
        exfalso
        simp only [prim] at hp
        first
          | (cases hp; done)
          | (split at hp <;> first | exact qmap_set hp | cases hp)
    | value f => simp [prim] at hp
    | invoke r m => simp [prim] at hp
  case store => simp [notStore] at hns
  case box => rfl
  case alloc => rfl
  case buildSlice t n ps =>
    cases hf : frzOf fi ⟨dst, .buildSlice t n ps, type, pos, after, guard⟩ with
    | false => simp [makes, hf]
    | true =>
      rw [hf] at hp
      exfalso
      simp only [prim] at hp
      split at hp
      · split at hp
        · split at hp
          · split at hp
            · simp at hp
            · cases hp
          · split at hp
            · cases hp
            · split at hp
              · exact slf hp
              · cases hp
        · cases hp
      · cases hp
  case makeSlice t l c =>
    cases hf : frzOf fi ⟨dst, .makeSlice t l c, type, pos, after, guard⟩ with
    | false => simp [makes, hf]
    | true =>
      rw [hf] at hp
      exfalso
      simp only [prim] at hp
      split at hp
      · split at hp
        · split at hp
          · split at hp
            · exact slf hp
            · cases hp
          · cases hp
        · cases hp
      · cases hp
  case makeFunc f first cap =>
    exfalso
    cases f
    case func f =>
      simp only [prim] at hp
      split at hp
      · split at hp
        · simp at hp
        · cases hp
      · cases hp
    all_goals (simp only [prim] at hp; cases hp)
  all_goals
    exfalso
    simp only [prim] at hp
    first
      | (cases hp; done)
      | exact qmap_set hp
      | (split at hp <;> first | exact qmap_set hp | (simp at hp; done) | (cases hp; done) | (split at hp <;> first | exact qmap_set hp | (simp at hp; done) | (cases hp; done)))

/-- What an operation does, for whatever comes behind it. -/
theorem act_rel (hC : CfgOk C P) (hcal : Sound C P cal) (hk : RelW C.glob K s w) (hal : ∀ j, K.al j → j < s.nxt) (he : ERel K w e a) {fi : FnI} {o : Oper} {id : Nat} (hid : ¬ K.al id) {v : V} {s' : St} {b : Bool} {ft : Foot}
    (h : act C cal fi id o e s = some (v, s', b, ft)) {next : Act → World → Prop} {Q : Exit → Act → World → Prop}
    (hnext : ∀ K' w' u, Stp K w K' w' → RelW C.glob K' s' w' → VRel K' w' v u → (∀ j, K'.al j → K.al j ∨ (makes fi o = true ∧ b = true ∧ j = id) ∨ (s.nxt ≤ j ∧ j < s'.nxt)) → s.nxt ≤ s'.nxt → next (a.put o.dst u) w') :
    o.wp P a w next Q := by
  unfold act at h
  split at h
  · rename_i f args ats hop
    split at h
    · rename_i g cap as hf has
      split at h
      · rename_i gi hgi
        split at h
        · rename_i r s1 hc
          simp at h
          obtain ⟨rfl, rfl, rfl, _⟩ := h
          have hfr := opnd_rel hk he hf
          have har := opnds_rel hk he has
          generalize hgf : a.eval f = uf at hfr
          cases hfr with
          | fn _ _ us hl hh =>
            obtain ⟨h1, h2, bd, h3, _⟩ := hC.fn g gi hgi
            have hex : (execOp a.eval o).run P w = .ok (.enter g (args.toList.map a.eval ++ us).toArray) w := by
              have e : args.map a.eval ++ us.toArray = (args.toList.map a.eval ++ us).toArray := by
                rw [← List.append_toArray, ← List.map_toArray, Array.toArray_toList]
              simp only [execOp, hop, resolve, hgf]
              simp [Deferred.ofValue, invoke]
              rw [e, callFunc_enter h1 h2 h3]
            unfold Oper.wp
            rw [hex, Oper.upon_enter]
            refine (callV_rel hcal hk hal (har.append ⟨hl, hh⟩) hc).mono ?_
            rintro e w' ⟨K', u, rfl, g1, g2, g3, g4, g5⟩
            exact hnext K' w' u g1 g2 g3 (fun j hj => by rcases g4 j hj with h | h; exact .inl h; exact .inr (.inr h)) g5
        · cases h
      · cases h
    · cases h
  · split at h
    · rename_i v1 eff hp
      simp at h
      obtain ⟨rfl, rfl, hb, _⟩ := h
      obtain ⟨K', w', u, h1, h2, h3, h4, h5⟩ := prim_rel hC hk he hid hp
      have hnx : (eff.on s).nxt = s.nxt := by cases eff <;> rfl
      have hfin := hnext K' w' u h2 h3 h4 (fun j hj => by
        rcases h5 j hj with h | ⟨h, hns, o', ho'⟩
        · exact .inl h
        · refine .inr (.inl ⟨?_, ?_, h⟩)
          · rw [ho'] at hp; exact prim_makes hp hns
          · rw [← hb, ho']
            simp) (by rw [hnx]; exact Nat.le_refl _)
      unfold Oper.wp
      rcases h1 with h1 | ⟨h1, rfl⟩
      · rw [h1]; exact hfin
      · rw [h1]; exact hfin
    · cases h
end
end Go.Ilv

/- The operations of a region, one behind the other. -/
set_option linter.unusedVariables false
set_option linter.unusedSimpArgs false
namespace Go.Ilv
open Go

section
variable {C : Cfg} {P : Program} {gl : Nat → Option (List V)} {K : Ctx} {s : St} {w w' : World} {e : Env} {a : Act} {cal : Callee}

/-- The state of a body: store, slots, no deferred calls. -/
structure SRel (C : Cfg) (N : Nat) (K : Ctx) (s : St) (w : World) (e : Env) (a : Act) : Prop where
  rel : RelW C.glob K s w
  al : ∀ j, K.al j → j < s.nxt
  env : ERel K w e a
  size : N ≤ a.tmps.size
  defers : a.defers = []

theorem put_size (a : Act) (dst : Option Tmp) (u : Value) : (a.put dst u).tmps.size = a.tmps.size := by cases dst <;> simp [Act.put]
theorem put_defers' (a : Act) (dst : Option Tmp) (u : Value) : (a.put dst u).defers = a.defers := by cases dst <;> rfl

theorem ERel.put {K' : Ctx} (h : ERel K w e a) {dst : Option Nat} {v : V} {u : Value} (hv : VRel K w v u) (hd : ∀ d, dst = some d → d < a.tmps.size) : ERel K w (putE e dst v) (a.put dst u) := by
  cases dst with
  | none => exact h
  | some d =>
    intro t x hx
    simp only [putE] at hx
    by_cases ht : t = d
    · subst ht
      rw [aget_aset_self] at hx
      obtain rfl := Option.some.inj hx
      exact ⟨u, by simp [Act.put, hd t rfl], hv⟩
    · rw [aget_aset_ne _ _ ht] at hx
      obtain ⟨u', h1, h2⟩ := h t x hx
      exact ⟨u', by simp [Act.put, Array.getElem?_setIfInBounds_ne (Ne.symm ht), h1], h2⟩

theorem wanted_rel (he : ERel K w e a) {ops : Array Oper} {o : Oper} {b : Bool} (h : wantedE ops o e = some b) : Region.wanted o (yielded ops a.tmps) = b := by
  unfold wantedE at h
  unfold Region.wanted
  split at h
  · rename_i hg
    simp at h; subst h
    rw [hg]
  · rename_i g want hg
    rw [hg]
    simp only
    split at h
    · cases h
    · rename_i d hd
      split at h
      · rename_i x hx
        simp at h; subst h
        obtain ⟨u, h1, h2⟩ := he d _ hx
        cases h2
        simp only [yielded, hd, Option.bind_some, h1]
        cases x <;> cases want <;> rfl
      · rename_i hx
        simp at h; subst h
        obtain ⟨u, h1, h2⟩ := he d _ hx
        cases h2
        simp only [yielded, hd, Option.bind_some, h1, Go.undef]
        rfl
      · cases h

/-- One operation, wanted or not. -/
theorem stepOp_rel (hC : CfgOk C P) (hcal : Sound C P cal) {N : Nat} (hs : SRel C N K s w e a) {fi : FnI} {ops : Array Oper} {id i : Nat} (hid : ¬ K.al id) (hdst : ∀ (o : Oper) (d : Nat), ops[i]? = some o → o.dst = some d → d < N) {e' : Env} {s' : St} {b : Bool} {ft : Foot}
    (h : stepOp C cal fi ops id i e s = some (e', s', b, ft)) {next : Act → World → Prop} {Q : Exit → Act → World → Prop}
    (hnext : ∀ K' w' a', Stp K w K' w' → RelW C.glob K' s' w' → ERel K' w' e' a' → N ≤ a'.tmps.size → a'.defers = [] → (∀ j, K'.al j → K.al j ∨ ((∃ o, ops[i]? = some o ∧ makes fi o = true) ∧ b = true ∧ j = id) ∨ (s.nxt ≤ j ∧ j < s'.nxt)) → s.nxt ≤ s'.nxt → next a' w') :
    wpOp P ops Q i next a w := by
  unfold stepOp at h
  unfold wpOp
  split at h
  · rename_i hop
    simp at h
    obtain ⟨rfl, rfl, rfl, _⟩ := h
    rw [hop]
    exact hnext K w a (Stp.refl _ _) hs.rel hs.env hs.size hs.defers (fun j h => .inl h) (Nat.le_refl _)
  · rename_i o hop
    rw [hop]
    simp only
    have hd : ∀ d, o.dst = some d → d < a.tmps.size := fun d h => Nat.lt_of_lt_of_le (hdst o d hop h) hs.size
    split at h
    · rename_i hw
      rw [wanted_rel hs.env hw, if_pos rfl]
      split at h
      · rename_i v s1 b1 ft1 hact
        simp at h
        obtain ⟨rfl, rfl, rfl, _⟩ := h
        refine .inl (act_rel hC hcal hs.rel hs.al hs.env hid hact fun K' w' u g1 g2 g3 g4 g5 => ?_)
        exact hnext K' w' _ g1 g2 ((hs.env.mono g1).put (K' := K') g3 hd) (by rw [put_size]; exact hs.size) (by rw [put_defers']; exact hs.defers) (fun j hj => (g4 j hj).imp_right fun h => h.imp_left fun h => ⟨⟨o, hop, h.1⟩, h.2⟩) g5
      · cases h
    · rename_i hw
      rw [wanted_rel hs.env hw]
      simp only [Bool.false_eq_true, if_false]
      simp at h
      obtain ⟨rfl, rfl, rfl, _⟩ := h
      exact hnext K w _ (Stp.refl _ _) hs.rel (hs.env.put (K' := K) .undef hd) (by rw [put_size]; exact hs.size) (by rw [put_defers']; exact hs.defers) (fun j h => .inl h) (Nat.le_refl _)
    · cases h

/-- What stands behind a piece of code. -/
def After (C : Cfg) (N : Nat) (K : Ctx) (s : St) (w : World) (e' : Env) (s' : St) (R : Act → World → Prop) : Prop :=
  ∀ K' w' a', Stp K w K' w' → SRel C N K' s' w' e' a' → (∀ j, K'.al j → K.al j ∨ (s.nxt ≤ j ∧ j < s'.nxt)) → s.nxt ≤ s'.nxt → R a' w'

theorem runSeq_rel (hC : CfgOk C P) (hcal : Sound C P cal) {N : Nat} {fi : FnI} {ops : Array Oper} (hdst : ∀ (i : Nat) (o : Oper) (d : Nat), ops[i]? = some o → o.dst = some d → d < N) {Q : Exit → Act → World → Prop} :
    ∀ (l : List Nat) {K : Ctx} {s : St} {w : World} {e : Env} {a : Act} {e' : Env} {s' : St}, SRel C N K s w e a → runSeq C cal fi ops l e s = some (e', s') → After C N K s w e' s' (Q .normal) → wpOps P ops Q l a w
  | [], K, s, w, e, a, e', s', hs, h, hQ => by
    simp [runSeq] at h
    obtain ⟨rfl, rfl⟩ := h
    exact hQ K w a (Stp.refl _ _) hs (fun j h => .inl h) (Nat.le_refl _)
  | i :: r, K, s, w, e, a, e', s', hs, h, hQ => by
    simp only [runSeq] at h
    split at h
    · rename_i e1 s1 b ft hst
      rw [wpOps_cons]
      refine stepOp_rel hC hcal hs (fun h => Nat.lt_irrefl _ (hs.al _ h)) (fun o d => hdst i o d) hst fun K' w' a' g1 g2 g3 g4 g5 g6 g7 => ?_
      have hs' : SRel C N K' (if b then { s1 with nxt := s1.nxt + 1 } else s1) w' e1 a' := by
        refine ⟨?_, fun j hj => ?_, g3, g4, g5⟩
        · cases b with
          | false => exact g2
          | true => exact { obj := g2.obj, dom := g2.dom, al := g2.al, inj := g2.inj, X := g2.X, Xlt := g2.Xlt, glob := g2.glob }
        · rcases g6 j hj with h1 | ⟨_, rfl, rfl⟩ | ⟨h1, h2⟩
          · have := hs.al j h1
            cases b <;> simp <;> omega
          · simp; omega
          · cases b <;> simp <;> omega
      refine runSeq_rel hC hcal hdst r hs' h fun K2 w2 a2 q1 q2 q3 q4 => hQ K2 w2 a2 (g1.trans q1) q2 (fun j hj => ?_) (by cases b <;> simp at q4 <;> omega)
      rcases q3 j hj with h1 | ⟨h1, h2⟩
      · rcases g6 j h1 with h3 | ⟨_, rfl, rfl⟩ | ⟨h3, h4⟩
        · exact .inl h3
        · simp at q4
          exact .inr ⟨Nat.le_refl _, by omega⟩
        · refine .inr ⟨h3, ?_⟩
          cases b <;> simp at q4 <;> omega
      · refine .inr ⟨?_, h2⟩
        cases b <;> simp at h1 <;> omega
    · cases h
end
end Go.Ilv

/- What an operation of the evaluator's hangs on: its operands, and the objects that it touched. -/
set_option linter.unusedVariables false
set_option linter.unusedSimpArgs false
namespace Go.Ilv
open Go

section
variable {C : Cfg} {cal : Callee}

theorem opnd_congr {e e' : Env} {x : Operand} (h : ∀ t, x = .tmp t → aget e t = aget e' t) : opnd C e x = opnd C e' x := by
  cases x with
  | tmp t => exact h t rfl
  | _ => rfl
theorem opnds_congr {e e' : Env} : ∀ {l : List Operand}, (∀ x ∈ l, opnd C e x = opnd C e' x) → opnds C e l = opnds C e' l
  | [], _ => rfl
  | x :: r, h => by
    have ih := opnds_congr (l := r) fun y hy => h y (by simp [hy])
    simp only [opnds, h x (by simp), ih]
theorem popnds_congr {e e' : Env} : ∀ {l : List (Nat × Operand)}, (∀ x ∈ l, opnd C e x.2 = opnd C e' x.2) → popnds C e l = popnds C e' l
  | [], _ => rfl
  | (i, x) :: r, h => by
    have ih := popnds_congr (l := r) fun y hy => h y (by simp [hy])
    simp only [popnds, h (i, x) (by simp), ih]
theorem oopnd_congr {e e' : Env} {x : Option Operand} (h : ∀ y ∈ x.toArray, opnd C e y = opnd C e' y) : oopnd C e x = oopnd C e' x := by
  cases x with
  | none => rfl
  | some y => simp only [oopnd, h y (by simp)]

theorem prim_congr {e e' : Env} {frz : Bool} {s : St} {id : Nat} {op : Op} (h : ∀ x ∈ op.operands, opnd C e x = opnd C e' x) : prim C frz e s id op = prim C frz e' s id op := by
  cases op
  case call c =>
    obtain ⟨callee, args, ats⟩ := c
    cases callee with
    | builtin b =>
      have ha : opnds C e args.toList = opnds C e' args.toList := opnds_congr fun x hx => h x (by simp [Op.operands, Call.operands]; simpa using hx)
      cases b <;> simp only [prim, ha]
    | _ => rfl
  case build t ps => 
    have ha : popnds C e ps.toList = popnds C e' ps.toList := popnds_congr fun x hx => h x.2 (by simp [Op.operands]; exact ⟨x.1, by simpa using hx⟩)
    simp only [prim, ha]
  case buildSlice t n ps =>
    have ha : popnds C e ps.toList = popnds C e' ps.toList := popnds_congr fun x hx => h x.2 (by simp [Op.operands]; exact ⟨x.1, by simpa using hx⟩)
    simp only [prim, ha]
  case makeFunc f first cap =>
    have ha : opnds C e cap.toList = opnds C e' cap.toList := opnds_congr fun x hx => h x (by simp [Op.operands]; exact .inr (by simpa using hx))
    cases f <;> simp only [prim, ha]
  case slice t x lo hi mx =>
    have h1 : opnd C e x = opnd C e' x := h x (by simp [Op.operands])
    have h2 : oopnd C e lo = oopnd C e' lo := oopnd_congr fun y hy => h y (by simp only [Op.operands, Array.mem_append]; exact .inl (.inl (.inr hy)))
    have h3 : oopnd C e hi = oopnd C e' hi := oopnd_congr fun y hy => h y (by simp only [Op.operands, Array.mem_append]; exact .inl (.inr hy))
    have h4 : oopnd C e mx = oopnd C e' mx := oopnd_congr fun y hy => h y (by simp only [Op.operands, Array.mem_append]; exact .inr hy)
    simp only [prim, h1, h2, h3, h4]
  all_goals first
    | rfl
    | (rename_i x; have h1 : opnd C e x = opnd C e' x := h x (by simp [Op.operands]); simp only [prim, h1]; done)
    | (rename_i x _; have h1 : opnd C e x = opnd C e' x := h x (by simp [Op.operands]); simp only [prim, h1]; done)
    | (rename_i x y; have h1 : opnd C e x = opnd C e' x := h x (by simp [Op.operands]); have h2 : opnd C e y = opnd C e' y := h y (by simp [Op.operands]); simp only [prim, h1, h2]; done)
    | (rename_i x y _; have h1 : opnd C e x = opnd C e' x := h x (by simp [Op.operands]); have h2 : opnd C e y = opnd C e' y := h y (by simp [Op.operands]); simp only [prim, h1, h2]; done)
    | (rename_i x y z; have h1 : opnd C e x = opnd C e' x := h x (by simp [Op.operands]); have h2 : opnd C e y = opnd C e' y := h y (by simp [Op.operands]); have h3 : opnd C e z = opnd C e' z := h z (by simp [Op.operands]); simp only [prim, h1, h2, h3]; done)

theorem footOf_congr {e e' : Env} {id : Nat} {o : Oper} {s s' : St} {eff : Eff} (h : ∀ x ∈ o.op.operands, opnd C e x = opnd C e' x) : footOf C e id o s s' eff = footOf C e' id o s s' eff := by
  obtain ⟨dst, op, type, pos, after, guard⟩ := o
  cases op
  case call c =>
    obtain ⟨callee, args, ats⟩ := c
    cases callee with
    | builtin b =>
      have ha : opnds C e args.toList = opnds C e' args.toList := opnds_congr fun x hx => h x (by simp [Op.operands, Call.operands]; simpa using hx)
      cases b <;> simp only [footOf, ha]
    | _ => rfl
  case load t x => have h1 := h x (by simp [Op.operands]); simp only [footOf, h1]
  case store t x y => have h1 := h x (by simp [Op.operands]); simp only [footOf, h1]
  all_goals rfl

theorem act_plain {fi : FnI} {id : Nat} {o : Oper} {e : Env} {s : St} (h : goCall o = false) : act C cal fi id o e s = match prim C (frzOf fi o) e s id o.op with
    | some (v, eff) => some (v, eff.on s, (match eff with
      | .set i _ => i == id
      | .none => false), footOf C e id o s s eff)
    | none => none := by
  unfold act
  split
  · rename_i hop; simp [goCall, hop] at h
  · rfl
theorem act_go {fi : FnI} {id : Nat} {o : Oper} {e : Env} {s : St} {f : Operand} {args : Array Operand} {ats : Array TypeId} (h : o.op = .call ⟨.value f, args, ats⟩) : act C cal fi id o e s = match opnd C e f, opnds C e args.toList with
    | some (.fn g cap), some as => match C.fn g with
      | some gi => match callV cal gi.pure g (as ++ cap) s with
        | some (r, s') => some (r, s', false, if gi.pure then (if (as ++ cap).all V.flat then .cells [] [] else .top) else .call s s')
        | none => none
      | none => none
    | _, _ => none := by
  unfold act
  rw [h]
  rfl
theorem goCall_op {o : Oper} (h : goCall o = true) : ∃ f args ats, o.op = .call ⟨.value f, args, ats⟩ := by
  unfold goCall at h
  split at h
  · rename_i f args ats hop; exact ⟨f, args, ats, hop⟩
  · cases h

theorem act_congr {e e' : Env} {fi : FnI} {id : Nat} {o : Oper} {s : St} (h : ∀ x ∈ o.op.operands, opnd C e x = opnd C e' x) : act C cal fi id o e s = act C cal fi id o e' s := by
  cases hg : goCall o with
  | false => simp only [act_plain hg, prim_congr h, footOf_congr h]
  | true =>
    obtain ⟨f, args, ats, hop⟩ := goCall_op hg
    have ha : opnds C e args.toList = opnds C e' args.toList := opnds_congr fun x hx => h x (by simp [hop, Op.operands, Call.operands]; exact .inr (by simpa using hx))
    have hf := h f (by simp [hop, Op.operands, Call.operands])
    simp only [act_go hop, ha, hf]

theorem looks_op {ops : Array Oper} {o : Oper} {e e' : Env} (h : ∀ t ∈ o.looksAt ops, aget e t = aget e' t) : ∀ x ∈ o.op.operands, opnd C e x = opnd C e' x := by
  intro x hx
  refine opnd_congr fun t ht => h t ?_
  subst ht
  simp only [Oper.looksAt, List.mem_append, List.mem_filterMap]
  exact .inl ⟨.tmp t, by simpa using hx, rfl⟩
theorem looks_wanted {ops : Array Oper} {o : Oper} {e e' : Env} (h : ∀ t ∈ o.looksAt ops, aget e t = aget e' t) : wantedE ops o e = wantedE ops o e' := by
  unfold wantedE
  split
  · rfl
  · rename_i g want hg
    split
    · rfl
    · rename_i d hd
      rw [h d (by simp [Oper.looksAt, hg, hd])]

/-! ### what an operation does to the store -/
theorem sliceOfRows_frz {id sz : Nat} {xs : List V} {v : V} {eff : Eff} (h : sliceOfRows true id sz xs = some (v, eff)) : eff = .none := by
  unfold sliceOfRows at h
  split at h
  · simp only [if_true] at h
    split at h
    · simp at h; exact h.2.symm
    · cases h
  · cases h

/-- No object of the evaluator's is read or made by what does not touch memory, and the store counts for nothing there. -/
theorem prim_quiet {e : Env} {s s2 : St} {frz : Bool} {id : Nat} {o : Oper} (h : touches o = false) : prim C frz e s id o.op = prim C frz e s2 id o.op := by
  obtain ⟨dst, op, type, pos, after, guard⟩ := o
  cases op
  case call c =>
    obtain ⟨callee, args, ats⟩ := c
    cases callee with
    | builtin b => cases b <;> first | rfl | simp [touches] at h
    | _ => first | rfl | simp [touches] at h
  case load => simp [touches] at h
  case store => simp [touches] at h
  case buildSlice => simp [touches] at h
  case makeSlice => simp [touches] at h
  case box => simp [touches] at h
  case alloc => simp [touches] at h
  case makeFunc f first cap => cases f <;> rfl
  all_goals rfl

theorem q_none {x : Option V} {v : V} {eff : Eff} (h : x.map (fun v => (v, Eff.none)) = some (v, eff)) : eff = .none := by
  cases x with
  | none => simp at h
  | some x => simp at h; exact h.2.symm

/-- What does not write leaves the store. -/
theorem prim_nowrite {e : Env} {s : St} {fi : FnI} {id : Nat} {o : Oper} {v : V} {eff : Eff} (h : writes C fi o = false) (hp : prim C (frzOf fi o) e s id o.op = some (v, eff)) : eff = .none := by
  obtain ⟨dst, op, type, pos, after, guard⟩ := o
  cases op
  case call c =>
    obtain ⟨callee, args, ats⟩ := c
    cases callee with
    | builtin b =>
      cases b
      case append =>
        have hf : frzOf fi ⟨dst, .call ⟨.builtin .append, args, ats⟩, type, pos, after, guard⟩ = true := by simpa [writes] using h
        rw [hf] at hp
        simp only [prim] at hp
        split at hp
        · split at hp
          · split at hp
            · unfold appendOp at hp
              split at hp
              · split at hp
                · cases hp
                · split at hp
                  · split at hp
                    · simp at hp; exact hp.2.symm
                    · split at hp
                      · exact sliceOfRows_frz hp
                      · cases hp
                  · simp at hp
                  · cases hp
              · cases hp
            · cases hp
          · cases hp
        · cases hp
      all_goals
        simp only [prim] at hp
        first
          | (cases hp; done)
          | (split at hp <;> first | exact q_none hp | cases hp)
    | value f => simp [prim] at hp
    | invoke r m => simp [prim] at hp
  case store => simp [writes] at h
  case box => simp [writes] at h
  case alloc => simp [writes] at h
  case buildSlice t n ps =>
    have hf : frzOf fi ⟨dst, .buildSlice t n ps, type, pos, after, guard⟩ = true := by simpa [writes] using h
    rw [hf] at hp
    simp only [prim] at hp
    split at hp
    · split at hp
      · split at hp
        · split at hp
          · simp at hp; exact hp.2.symm
          · cases hp
        · split at hp
          · cases hp
          · split at hp
            · exact sliceOfRows_frz hp
            · cases hp
      · cases hp
    · cases hp
  case makeSlice t l c =>
    have hf : frzOf fi ⟨dst, .makeSlice t l c, type, pos, after, guard⟩ = true := by simpa [writes] using h
    rw [hf] at hp
    simp only [prim] at hp
    split at hp
    · split at hp
      · split at hp
        · split at hp
          · exact sliceOfRows_frz hp
          · cases hp
        · cases hp
      · cases hp
    · cases hp
  case makeFunc f first cap =>
    cases f
    case func f =>
      simp only [prim] at hp
      split at hp
      · split at hp
        · simp at hp; exact hp.2.symm
        · cases hp
      · cases hp
    all_goals (simp only [prim] at hp; cases hp)
  all_goals
    simp only [prim] at hp
    first
      | (cases hp; done)
      | exact q_none hp
      | (split at hp <;> first | exact q_none hp | (simp at hp; exact hp.2.symm) | (cases hp; done) | (split at hp <;> first | exact q_none hp | (simp at hp; exact hp.2.symm) | (cases hp; done)))
end
end Go.Ilv

/- Two operations of no fixed order that touch nothing in common: either order comes to the same. -/
set_option linter.unusedVariables false
set_option linter.unusedSimpArgs false
namespace Go.Ilv
open Go

section
variable {C : Cfg} {cal : Callee}

def effIds : Eff → List Nat
  | .none => []
  | .set i _ => [i]

theorem callV_pure {f : FuncId} {args : List V} {s : St} {r : V} {s' : St} (h : callV cal true f args s = some (r, s')) : s' = s := by
  unfold callV at h
  simp only [if_true] at h
  split at h
  · split at h
    · split at h
      · split at h
        · simp at h; exact h.2.symm
        · cases h
      · cases h
    · cases h
  · cases h
theorem flat_leaf {c : V} (h : (match c with
    | .ref .. | .ptr .. | .fn .. | .agg _ | .tup _ | .undef => false
    | _ => true) = true) (s s2 : St) (n : Nat) : reify s (n + 1) c = reify s2 (n + 1) c := by
  cases c <;> first | rfl | (simp at h)
theorem allSome_congr {α β : Type} {f g : α → Option β} : ∀ {l : List α}, (∀ x ∈ l, f x = g x) → allSome f l = allSome g l
  | [], _ => rfl
  | x :: r, h => by
    have ih := allSome_congr (l := r) fun y hy => h y (by simp [hy])
    simp only [allSome, h x (by simp), ih]
theorem reify_flat {x : V} (h : x.flat = true) (s s2 : St) (n : Nat) : reify s (n + 2) x = reify s2 (n + 2) x := by
  by_cases ha : ∃ cs, x = .agg cs
  · obtain ⟨cs, rfl⟩ := ha
    simp only [V.flat, List.all_eq_true] at h
    have : allSome (reify s (n + 1)) cs = allSome (reify s2 (n + 1)) cs := allSome_congr fun c hc => flat_leaf (h c hc) s s2 n
    rw [reify, reify]
    simp only [this]
  · cases x <;> first | rfl | exact absurd ⟨_, rfl⟩ ha | (simp [V.flat] at h)
theorem callV_flat {f : FuncId} {args : List V} (hf : args.all V.flat = true) (s s2 : St) : callV cal true f args s = (callV cal true f args s2).map fun x => (x.1, s) := by
  have h1 : allSome (reify s 40) args = allSome (reify s2 40) args := allSome_congr fun x hx => reify_flat (List.all_eq_true.1 hf x hx) s s2 38
  simp only [callV, if_true, h1, hf, Bool.true_or]
  split
  · split
    · split <;> rfl
    · rfl
  · rfl

theorem writes_touches {fi : FnI} {o : Oper} (h : touches o = false) : writes C fi o = false := by
  obtain ⟨dst, op, type, pos, after, guard⟩ := o
  cases op
  case call c =>
    obtain ⟨callee, args, ats⟩ := c
    cases callee with
    | builtin b => cases b <;> first | rfl | simp [touches] at h
    | _ => first | rfl | simp [touches] at h
  all_goals first | rfl | simp [touches] at h

theorem act_nowrite {fi : FnI} {id : Nat} {o : Oper} {e : Env} {s : St} {v : V} {s' : St} {b : Bool} {ft : Foot} (h : writes C fi o = false) (ha : act C cal fi id o e s = some (v, s', b, ft)) : s' = s := by
  cases hg : goCall o with
  | false =>
    rw [act_plain hg] at ha
    split at ha
    · rename_i v1 eff hp
      have := prim_nowrite h hp
      subst this
      simp at ha
      exact ha.2.1.symm
    · cases ha
  | true =>
    obtain ⟨f, args, ats, hop⟩ := goCall_op hg
    rw [act_go hop] at ha
    simp only [writes, hop] at h
    cases f with
    | func g =>
      simp only [opnd] at ha
      cases hgi : C.fn g with
      | none => simp [hgi] at h
      | some gi =>
        simp only [hgi, Bool.not_eq_false'] at h
        split at ha
        · rename_i g' cap as he1 he2
          simp only [Option.some.injEq, V.fn.injEq] at he1
          obtain ⟨rfl, rfl⟩ := he1
          rw [hgi] at ha
          simp only [h] at ha
          split at ha
          · rename_i r s1 hc
            simp at ha
            rw [← ha.2.1]
            exact callV_pure hc
          · cases ha
        · cases ha
    | _ => simp at h

theorem act_quiet {fi : FnI} {id : Nat} {o : Oper} {e : Env} {s : St} {v : V} {s' : St} {b : Bool} {ft : Foot} (h : touches o = false) (ha : act C cal fi id o e s = some (v, s', b, ft)) (s2 : St) :
    act C cal fi id o e s2 = some (v, s2, b, ft) := by
  have hg : goCall o = false := by
    cases hg : goCall o with
    | false => rfl
    | true =>
      obtain ⟨f, args, ats, hop⟩ := goCall_op hg
      simp [touches, hop] at h
  rw [act_plain hg] at ha ⊢
  rw [prim_quiet (s2 := s2) h] at ha
  split at ha
  · rename_i v1 eff hp
    have := prim_nowrite (writes_touches (fi := fi) (C := C) h) hp
    subst this
    simp at ha ⊢
    obtain ⟨h1, h2, h3, h4⟩ := ha
    refine ⟨h1, rfl, h3, ?_⟩
    rw [← h4]
    obtain ⟨dst, op, type, pos, after, guard⟩ := o
    cases op
    case call c =>
      obtain ⟨callee, args, ats⟩ := c
      cases callee with
      | builtin b => cases b <;> first | rfl | simp [touches] at h
      | value f => simp [touches] at h
      | invoke r m => rfl
    all_goals first | rfl | (simp [touches] at h)
  · cases ha

theorem rd_local {s s2 : St} {p : V} (h : ∀ i ∈ idOf p, s2.get i = s.get i) (n : Nat) : rd s2 p n = rd s p n := by
  cases p <;> first | rfl | (rename_i id ver idx off; simp only [rd, h id (by simp [idOf])])
theorem elems_local {s s2 : St} {p : V} (h : ∀ i ∈ idOf p, s2.get i = s.get i) : elems s2 p = elems s p := by
  cases p <;> first | rfl | (rename_i id ver sz off len; simp only [elems, h id (by simp [idOf])])

/-- What an operation says hangs on the objects of its foot alone. -/
theorem act_local {fi : FnI} {id : Nat} {o : Oper} {e : Env} {s : St} {v : V} {s' : St} {b : Bool} {r w : List Nat} (ha : act C cal fi id o e s = some (v, s', b, .cells r w)) :
    ∃ eff, s' = eff.on s ∧ w = effIds eff ∧ ∀ s2 : St, (∀ i ∈ r, s2.get i = s.get i) → act C cal fi id o e s2 = some (v, eff.on s2, b, .cells r w) := by
  cases hg : goCall o with
  | false =>
    rw [act_plain hg] at ha
    split at ha
    · rename_i v1 eff hp
      simp only [Option.some.injEq, Prod.mk.injEq] at ha
      obtain ⟨rfl, rfl, hb, hft⟩ := ha
      have hwf : ∀ s : St, footOf C e id o s s eff = .cells r w := fun s2 => by
        rw [← hft]
        obtain ⟨dst, op, type, pos, after, guard⟩ := o
        cases op
        case call c =>
          obtain ⟨callee, args, ats⟩ := c
          cases callee with
          | builtin b => cases b <;> rfl
          | value f => simp [goCall] at hg
          | invoke r m => rfl
        all_goals rfl
      refine ⟨eff, rfl, ?_, fun s2 hs2 => ?_⟩
      · obtain ⟨dst, op, type, pos, after, guard⟩ := o
        have : ∀ x y, (Foot.cells x y = .cells r w) → y = w := fun x y h => by simp at h; exact h.2
        cases op
        case call c =>
          obtain ⟨callee, args, ats⟩ := c
          cases callee with
          | builtin b => cases b <;> (exact (this _ _ hft).symm.trans (by cases eff <;> rfl))
          | value f => simp [goCall] at hg
          | invoke r m => exact (this _ _ hft).symm.trans (by cases eff <;> rfl)
        all_goals exact (this _ _ hft).symm.trans (by cases eff <;> rfl)
      · rw [act_plain hg]
        have hpe : prim C (frzOf fi o) e s2 id o.op = prim C (frzOf fi o) e s id o.op := by
          obtain ⟨dst, op, type, pos, after, guard⟩ := o
          cases op
          case call c =>
            obtain ⟨callee, args, ats⟩ := c
            cases callee with
            | builtin b =>
              cases b
              case append =>
                simp only [footOf, Foot.cells.injEq] at hft
                simp only [prim]
                split
                · rename_i t u x y hx hy
                  split
                  · split
                    · have h1 : elems s2 y = elems s y := elems_local fun i hi => hs2 i (by rw [← hft.1, hy]; simp [hi])
                      simp only [appendOp, h1]
                      split
                      · split
                        · rfl
                        · split
                          · rfl
                          · rename_i rid ver sz off len
                            split
                            · rfl
                            · rw [hs2 rid (by rw [← hft.1, hy]; simp [idOf])]
                          · rfl
                      · rfl
                    · rfl
                  · rfl
                · rfl
              all_goals rfl
            | value f => simp [goCall] at hg
            | invoke r m => rfl
          case load t x =>
            simp only [footOf, Foot.cells.injEq] at hft
            simp only [prim]
            split
            · rename_i y p hy hx
              rw [rd_local (s := s) (s2 := s2) (p := p) fun i hi => hs2 i (by rw [← hft.1, hx]; exact hi)]
            · rfl
          case store t p x =>
            simp only [footOf, Foot.cells.injEq] at hft
            simp only [prim]
            split
            · rename_i y i ver idx off vx hy hp' hx
              rw [hs2 i (by rw [← hft.1, hp']; simp [idOf])]
            · rfl
          case makeFunc f first cap => cases f <;> rfl
          all_goals rfl
        rw [hpe, hp]
        simp only [Option.some.injEq, Prod.mk.injEq, true_and]
        exact ⟨hb, hwf s2⟩
    · cases ha
  | true =>
    obtain ⟨f, args, ats, hop⟩ := goCall_op hg
    rw [act_go hop] at ha
    split at ha
    · rename_i g cap as he1 he2
      split at ha
      · rename_i gi hgi
        split at ha
        · rename_i r1 s1 hc
          simp only [Option.some.injEq, Prod.mk.injEq] at ha
          obtain ⟨rfl, rfl, hb, hft⟩ := ha
          split at hft
          · rename_i hpure
            split at hft
            · rename_i hfl
              simp at hft
              obtain ⟨rfl, rfl⟩ := hft
              rw [hpure] at hc
              have hss := callV_pure hc
              subst hss
              refine ⟨.none, rfl, rfl, fun s2 _ => ?_⟩
              rw [act_go hop, he1, he2]
              simp only [hgi, hpure, callV_flat hfl s2 s1, hc, Option.map_some, if_true, hfl]
              simp [Eff.on, ← hb]
            · cases hft
          · cases hft
        · cases ha
      · cases ha
    · cases ha

mutual
theorem beq_eq : ∀ (a b : V), V.beq a b = true → a = b
  | .bool _, b, h => by cases b <;> simp [V.beq] at h; rw [h]
  | .int _ _, b, h => by cases b <;> simp [V.beq] at h; rw [h.1, h.2]
  | .str _, b, h => by cases b <;> simp [V.beq] at h; rw [h]
  | .agg a, b, h => by cases b <;> simp only [V.beq, Bool.false_eq_true] at h; rw [beqL_eq a _ h]
  | .lit a, b, h => by cases b <;> simp only [V.beq, Bool.false_eq_true] at h; rw [beqL_eq a _ h]
  | .nils, b, h => by cases b <;> simp [V.beq] at h; rfl
  | .ref _ _ _ _ _, b, h => by cases b <;> simp [V.beq] at h; obtain ⟨⟨⟨⟨rfl, rfl⟩, rfl⟩, rfl⟩, rfl⟩ := h; rfl
  | .ptr _ _ _ _, b, h => by cases b <;> simp [V.beq] at h; obtain ⟨⟨⟨rfl, rfl⟩, rfl⟩, rfl⟩ := h; rfl
  | .cptr a, b, h => by cases b <;> simp only [V.beq, Bool.false_eq_true] at h; rw [beqL_eq a _ h]
  | .pnil, b, h => by cases b <;> simp [V.beq] at h; rfl
  | .fn f a, b, h => by
    cases b <;> simp only [V.beq, Bool.false_eq_true, Bool.and_eq_true, decide_eq_true_eq] at h
    rw [h.1, beqL_eq a _ h.2]
  | .tup a, b, h => by cases b <;> simp only [V.beq, Bool.false_eq_true] at h; rw [beqL_eq a _ h]
  | .undef, b, h => by cases b <;> simp [V.beq] at h; rfl
theorem beqL_eq : ∀ (a b : List V), V.beqL a b = true → a = b
  | [], b, h => by cases b <;> simp [V.beqL] at h; rfl
  | x :: r, b, h => by
    cases b <;> simp only [V.beqL, Bool.false_eq_true, Bool.and_eq_true] at h
    rw [beq_eq x _ h.1, beqL_eq r _ h.2]
end

theorem sameObj_eq {a b : Option Obj} (h : sameObj a b = true) : a = b := by
  cases a with
  | none => cases b with
    | none => rfl
    | some b => simp [sameObj] at h
  | some a => cases b with
    | none => simp [sameObj] at h
    | some b =>
      obtain ⟨a1, a2, a3, a4⟩ := a
      obtain ⟨b1, b2, b3, b4⟩ := b
      simp only [sameObj, Bool.and_eq_true, decide_eq_true_eq, beq_iff_eq] at h
      obtain ⟨⟨⟨h1, h2⟩, h3⟩, h4⟩ := h
      subst h1; subst h2; subst h3
      have := beqL_eq _ _ h4
      have e : a4 = b4 := by
        apply List.ext_getElem?
        intro i
        have h5 := congrArg (·[i]?) this
        simp only [List.getElem?_map] at h5
        cases ha : a4[i]? <;> cases hb : b4[i]? <;> simp [ha, hb] at h5 ⊢
        exact h5
      rw [e]

theorem eff_get_ne {eff : Eff} {s : St} {i : Nat} (h : i ∉ effIds eff) : (eff.on s).get i = s.get i := by
  cases eff with
  | none => rfl
  | set j o => exact St.get_set_ne _ _ (by simpa [effIds] using h)
theorem eff_comm {a b : Eff} {s : St} (h : ∀ i ∈ effIds a, i ∉ effIds b) : a.on (b.on s) = b.on (a.on s) := by
  cases a with
  | none => rfl
  | set i o =>
    cases b with
    | none => rfl
    | set j q =>
      have hne : i ≠ j := by simpa [effIds] using h i (by simp [effIds])
      simp only [Eff.on, St.set]
      congr 1
      exact aset_comm _ _ _ (Ne.symm hne)
theorem apartL_spec {a b : List Nat} (h : apartL a b = true) : ∀ i ∈ a, i ∉ b := by
  intro i hi hb
  have := List.all_eq_true.1 h i hi
  simp [hb] at this

theorem act_callFoot {fi : FnI} {id : Nat} {o : Oper} {e : Env} {s s' : St} {v : V} {b : Bool} {sa sb : St} (h : act C cal fi id o e s = some (v, s', b, .call sa sb)) : s = sa ∧ s' = sb := by
  cases hg : goCall o with
  | false =>
    rw [act_plain hg] at h
    split at h
    · rename_i hp
      clear hp
      simp only [Option.some.injEq, Prod.mk.injEq] at h
      obtain ⟨_, _, _, hft⟩ := h
      obtain ⟨dst, op, type, pos, after, guard⟩ := o
      cases op
      case call c =>
        obtain ⟨callee, args, ats⟩ := c
        cases callee with
        | builtin b => cases b <;> (simp only [footOf] at hft; cases hft)
        | value f => simp [goCall] at hg
        | invoke r m => simp only [footOf] at hft; cases hft
      all_goals (simp only [footOf] at hft; cases hft)
    · cases h
  | true =>
    obtain ⟨f, args, ats, hop⟩ := goCall_op hg
    rw [act_go hop] at h
    split at h
    · split at h
      · split at h
        · simp only [Option.some.injEq, Prod.mk.injEq] at h
          obtain ⟨_, rfl, _, hft⟩ := h
          split at hft
          · split at hft <;> cases hft
          · simp at hft; exact hft
        · cases h
      · cases h
    · cases h

/-- The two acts, one behind the other: exchanged. -/
theorem act_swap {fi : FnI} {i j : Nat} {x y : Oper} {e : Env} {s s1 s2 : St} {v u : V} {b c : Bool} {f g : Foot} (h1 : act C cal fi i x e s = some (v, s1, b, f)) (h2 : act C cal fi j y e s1 = some (u, s2, c, g))
    (hi : (touches x && touches y && (writes C fi x || writes C fi y)) = true → f.indep g = true) :
    ∃ s1', act C cal fi j y e s = some (u, s1', c, g) ∧ act C cal fi i x e s1' = some (v, s2, b, f) := by
  cases hx : touches x with
  | false =>
    have e1 := act_nowrite (writes_touches hx) h1
    subst e1
    exact ⟨s2, h2, act_quiet hx h1 s2⟩
  | true =>
    cases hy : touches y with
    | false =>
      have e2 := act_nowrite (writes_touches hy) h2
      subst e2
      exact ⟨s, act_quiet hy h2 s, h1⟩
    | true =>
      by_cases hw : (writes C fi x || writes C fi y) = true
      · have hind := hi (by simp [hx, hy]; simpa using hw)
        match f, g, hind, h1, h2 with
        | .cells r w, .cells r' w', hind, h1, h2 =>
          simp only [Foot.indep, Bool.and_eq_true] at hind
          obtain ⟨⟨p1, p2⟩, p3⟩ := hind
          obtain ⟨ef, q1, q2, q3⟩ := act_local h1
          obtain ⟨eg, r1, r2, r3⟩ := act_local h2
          refine ⟨eg.on s, r3 s fun i hi => ?_, ?_⟩
          · rw [q1]
            exact (eff_get_ne (by rw [← q2]; exact fun h => apartL_spec p1 i h hi)).symm
          · have := q3 (eg.on s) fun i hi => eff_get_ne (by rw [← r2]; exact fun h => apartL_spec p3 i h hi)
            rw [eff_comm (fun i h1 h2 => apartL_spec p2 i (by rw [q2]; exact h1) (by rw [r2]; exact h2)), ← q1, ← r1] at this
            exact this
        | .cells r [], .call sa sb, hind, h1, h2 =>
          simp only [Foot.indep, List.all_eq_true] at hind
          obtain ⟨ef, q1, q2, q3⟩ := act_local h1
          have hef : ef = .none := by cases ef <;> simp [effIds] at q2 ⊢
          subst hef
          obtain ⟨e1, e2⟩ := act_callFoot h2
          have q1' : s1 = s := q1
          rw [q1'] at h2
          refine ⟨s2, h2, q3 s2 fun i hi => ?_⟩
          have := sameObj_eq (hind i hi)
          rw [← e1, ← e2, q1'] at this
          exact this.symm
        | .call sa sb, .cells r [], hind, h1, h2 =>
          simp only [Foot.indep, List.all_eq_true] at hind
          obtain ⟨eg, r1, r2, r3⟩ := act_local h2
          have heg : eg = .none := by cases eg <;> simp [effIds] at r2 ⊢
          subst heg
          obtain ⟨e1, e2⟩ := act_callFoot h1
          have r1' : s2 = s1 := r1
          rw [r1']
          refine ⟨s, r3 s fun i hi => ?_, h1⟩
          have := sameObj_eq (hind i hi)
          rw [← e1, ← e2] at this
          exact this
        | .cells r (_ :: _), .call sa sb, hind, _, _ => simp [Foot.indep] at hind
        | .call sa sb, .cells r (_ :: _), hind, _, _ => simp [Foot.indep] at hind
        | .call _ _, .call _ _, hind, _, _ => simp [Foot.indep] at hind
        | .top, .top, hind, _, _ => simp [Foot.indep] at hind
        | .top, .call _ _, hind, _, _ => simp [Foot.indep] at hind
        | .top, .cells _ _, hind, _, _ => simp [Foot.indep] at hind
        | .cells _ _, .top, hind, _, _ => simp [Foot.indep] at hind
        | .call _ _, .top, hind, _, _ => simp [Foot.indep] at hind
      · have hw' : writes C fi x = false ∧ writes C fi y = false := by simpa using hw
        have e1 := act_nowrite hw'.1 h1
        subst e1
        have e2 := act_nowrite hw'.2 h2
        subst e2
        exact ⟨_, h2, h1⟩
end
end Go.Ilv

/- A region of open order: whatever order its edges allow comes to what the order of the text comes to. -/
set_option linter.unusedVariables false
set_option linter.unusedSimpArgs false
namespace Go.Ilv
open Go

section
variable {C : Cfg} {P : Program} {gl : Nat → Option (List V)} {K : Ctx} {s : St} {w w' : World} {e : Env} {a : Act} {cal : Callee}

theorem aset_comm' {e : Env} {x y : Option Nat} {v u : V} (h : ∀ d, x = some d → y ≠ some d) : putE (putE e x v) y u = putE (putE e y u) x v := by
  cases x with
  | none => rfl
  | some d =>
    cases y with
    | none => rfl
    | some d' => exact aset_comm e v u (fun e => h d rfl (by rw [e]))

theorem putE_get {e : Env} {dst : Option Nat} {v : V} {t : Nat} (h : ∀ d, dst = some d → t ≠ d) : aget (putE e dst v) t = aget e t := by
  cases dst with
  | none => rfl
  | some d => exact aget_aset_ne _ _ (h d rfl)

theorem step_swap {fi : FnI} {ops : Array Oper} {n0 i j : Nat} {oi oj : Oper} (hoi : ops[i]? = some oi) (hoj : ops[j]? = some oj) (hap : Oper.apart ops oi oj = true) {e e1 e2 : Env} {s s1 s2 : St} {b c : Bool} {f g : Foot}
    (h1 : stepOp C cal fi ops (n0 + i) i e s = some (e1, s1, b, f)) (h2 : stepOp C cal fi ops (n0 + j) j e1 s1 = some (e2, s2, c, g)) (hi : (touches oi && touches oj && (writes C fi oi || writes C fi oj)) = true → f.indep g = true) :
    ∃ e1' s1', stepOp C cal fi ops (n0 + j) j e s = some (e1', s1', c, g) ∧ stepOp C cal fi ops (n0 + i) i e1' s1' = some (e2, s2, b, f) := by
  obtain ⟨ap1, ap2, ap3⟩ := Oper.apart_spec hap
  have hlj : ∀ v, ∀ t ∈ oj.looksAt ops, aget (putE e oi.dst v) t = aget e t := fun v t ht => putE_get fun d hd hn => ap1 d hd (by rw [← hn]; exact ht)
  have hli : ∀ v, ∀ t ∈ oi.looksAt ops, aget (putE e oj.dst v) t = aget e t := fun v t ht => putE_get fun d hd hn => ap3 d hd (by rw [← hn]; exact ht)
  simp only [stepOp, hoi, hoj] at h1 h2 ⊢
  split at h1
  · rename_i hwi
    split at h1
    · rename_i v si bi fti hai
      simp only [Option.some.injEq, Prod.mk.injEq] at h1
      obtain ⟨rfl, rfl, rfl, rfl⟩ := h1
      rw [looks_wanted (hlj v)] at h2
      split at h2
      · rename_i hwj
        rw [act_congr (looks_op (hlj v))] at h2
        split at h2
        · rename_i u sj bj ftj haj
          simp only [Option.some.injEq, Prod.mk.injEq] at h2
          obtain ⟨rfl, rfl, rfl, rfl⟩ := h2
          obtain ⟨s1', q1, q2⟩ := act_swap hai haj hi
          refine ⟨putE e oj.dst u, s1', by rw [q1], ?_⟩
          rw [looks_wanted (hli u), hwi, act_congr (looks_op (hli u)), q2]
          simp only [Option.some.injEq, Prod.mk.injEq, and_true]
          exact (aset_comm' fun d hd => ap2 d hd).symm
        · cases h2
      · rename_i hwj
        simp only [Option.some.injEq, Prod.mk.injEq] at h2
        obtain ⟨rfl, rfl, rfl, rfl⟩ := h2
        refine ⟨putE e oj.dst .undef, s, rfl, ?_⟩
        rw [looks_wanted (hli _), hwi, act_congr (looks_op (hli _)), hai]
        simp only [Option.some.injEq, Prod.mk.injEq, and_true]
        exact (aset_comm' fun d hd => ap2 d hd).symm
      · cases h2
    · cases h1
  · rename_i hwi
    simp only [Option.some.injEq, Prod.mk.injEq] at h1
    obtain ⟨rfl, rfl, rfl, rfl⟩ := h1
    rw [looks_wanted (hlj _)] at h2
    split at h2
    · rename_i hwj
      rw [act_congr (looks_op (hlj _))] at h2
      split at h2
      · rename_i u sj bj ftj haj
        simp only [Option.some.injEq, Prod.mk.injEq] at h2
        obtain ⟨rfl, rfl, rfl, rfl⟩ := h2
        refine ⟨putE e oj.dst u, _, rfl, ?_⟩
        rw [looks_wanted (hli u), hwi]
        simp only [Option.some.injEq, Prod.mk.injEq, and_true]
        exact (aset_comm' fun d hd => ap2 d hd).symm
      · cases h2
    · rename_i hwj
      simp only [Option.some.injEq, Prod.mk.injEq] at h2
      obtain ⟨rfl, rfl, rfl, rfl⟩ := h2
      refine ⟨putE e oj.dst .undef, _, rfl, ?_⟩
      rw [looks_wanted (hli _), hwi]
      simp only [Option.some.injEq, Prod.mk.injEq, and_true]
      exact (aset_comm' fun d hd => ap2 d hd).symm
    · cases h2
  · cases h1

/-- The run of a list, each operation's foot being told. -/
def RunF (C : Cfg) (cal : Callee) (fi : FnI) (ops : Array Oper) (n0 : Nat) (F : Nat → Foot) (B : Nat → Bool) : List Nat → Env → St → Env → St → Prop
  | [], e, s, e', s' => e' = e ∧ s' = s
  | i :: r, e, s, e', s' => ∃ e1 s1, stepOp C cal fi ops (n0 + i) i e s = some (e1, s1, B i, F i) ∧ RunF C cal fi ops n0 F B r e1 s1 e' s'

/-- i comes ahead of j, and may as well come behind it. -/
def Free (C : Cfg) (fi : FnI) (ops : Array Oper) (F : Nat → Foot) (i j : Nat) : Prop :=
  ∃ oi oj, ops[i]? = some oi ∧ ops[j]? = some oj ∧ Oper.apart ops oi oj = true ∧ ((touches oi && touches oj && (writes C fi oi || writes C fi oj)) = true → (F i).indep (F j) = true)

theorem move_front {fi : FnI} {ops : Array Oper} {n0 : Nat} {F : Nat → Foot} {B : Nat → Bool} {x : Nat} {q : List Nat} : ∀ (p : List Nat) {e e' : Env} {s s' : St}, RunF C cal fi ops n0 F B (p ++ x :: q) e s e' s' → (∀ i ∈ p, Free C fi ops F i x) →
    ∃ e1 s1, stepOp C cal fi ops (n0 + x) x e s = some (e1, s1, B x, F x) ∧ RunF C cal fi ops n0 F B (p ++ q) e1 s1 e' s'
  | [], e, e', s, s', h, _ => h
  | i :: p, e, e', s, s', h, hf => by
    obtain ⟨e1, s1, h1, h2⟩ := h
    obtain ⟨e2, s2, h3, h4⟩ := move_front p h2 fun j hj => hf j (by simp [hj])
    obtain ⟨oi, oj, hoi, hoj, hap, hin⟩ := hf i (by simp)
    obtain ⟨e3, s3, q1, q2⟩ := step_swap hoi hoj hap h1 h3 hin
    exact ⟨e3, s3, q1, e2, s2, q2, h4⟩

theorem feet_get {fi : FnI} {ops : Array Oper} {n0 : Nat} : ∀ (l : List Nat) {e e' : Env} {s s' : St}, l.Nodup → runDraw C cal fi ops n0 l e s = some (e', s') →
    ∃ B, RunF C cal fi ops n0 (footAt (feet C cal fi ops n0 l e s)) B l e s e' s'
  | [], e, e', s, s', _, h => by
    simp [runDraw] at h
    exact ⟨fun _ => false, h.1.symm, h.2.symm⟩
  | i :: r, e, e', s, s', hnd, h => by
    simp only [runDraw] at h
    split at h
    · rename_i e1 s1 b ft hst
      obtain ⟨hni, hnd'⟩ := List.nodup_cons.1 hnd
      obtain ⟨B, hB⟩ := feet_get r hnd' h
      have hF : feet C cal fi ops n0 (i :: r) e s = (i, ft) :: feet C cal fi ops n0 r e1 s1 := by simp only [feet, hst]
      have hcong : ∀ (l : List Nat) (F G : Nat → Foot) (B G' : Nat → Bool) {e e' : Env} {s s' : St}, (∀ j ∈ l, F j = G j ∧ B j = G' j) → RunF C cal fi ops n0 F B l e s e' s' → RunF C cal fi ops n0 G G' l e s e' s' := by
        intro l
        induction l with
        | nil => intro F G B G' e e' s s' _ h; exact h
        | cons j l ih =>
          intro F G B G' e e' s s' hFG h
          obtain ⟨e1, s1, q1, q2⟩ := h
          obtain ⟨g1, g2⟩ := hFG j (by simp)
          exact ⟨e1, s1, by rw [← g1, ← g2]; exact q1, ih F G B G' (fun k hk => hFG k (by simp [hk])) q2⟩
      refine ⟨fun j => if j = i then b else B j, e1, s1, ?_, ?_⟩
      · rw [hF]
        simp only [footAt, aget, if_true, Option.getD_some]
        exact hst
      · refine hcong r _ _ _ _ (fun j hj => ?_) hB
        have hne : j ≠ i := fun h => hni (h ▸ hj)
        rw [hF]
        simp [footAt, aget, hne]
    · cases h

/-! ### what an operation waits for -/
theorem testBit_fold {S : Nat → Prop} {acc : Array Nat} : ∀ (l : List Edge) (m i : Nat), (∀ k, m.testBit k = true → S k) → (∀ x ∈ l, Region.binds .any x = true → S x.on ∧ ∀ k, (acc.getD x.on 0).testBit k = true → S k) →
    (l.foldl (fun s e => if Region.binds .any e then s ||| 2 ^ e.on ||| acc.getD e.on 0 else s) m).testBit i = true → S i
  | [], m, i, hm, _, h => hm i h
  | x :: l, m, i, hm, hl, h => by
    simp only [List.foldl_cons] at h
    refine testBit_fold l _ i (fun k hk => ?_) (fun y hy => hl y (by simp [hy])) h
    by_cases hb : Region.binds .any x = true
    · rw [if_pos hb, Nat.testBit_or, Nat.testBit_or, Bool.or_eq_true, Bool.or_eq_true, Nat.testBit_two_pow] at hk
      rcases hk with (hk | hk) | hk
      · exact hm k hk
      · simp at hk; rw [← hk]; exact (hl x (by simp) hb).1
      · exact (hl x (by simp) hb).2 k hk
    · rw [if_neg hb] at hk; exact hm k hk

/-- Whatever is closed under what an operation waits for, and holds what one waits for, holds all that stands ahead of it. -/
theorem before_closed {ops : Array Oper} {S : Nat → Prop} (hback : ∀ (j : Nat) (o : Oper), ops[j]? = some o → ∀ x ∈ o.after.toList, Region.binds .any x = true → x.on < j)
    (hcl : ∀ (j : Nat) (o : Oper), ops[j]? = some o → S j → ∀ x ∈ o.after.toList, Region.binds .any x = true → S x.on) :
    ∀ (j : Nat) (o : Oper), ops[j]? = some o → (∀ x ∈ o.after.toList, Region.binds .any x = true → S x.on) → ∀ i, ((Region.before ops).getD j 0).testBit i = true → S i := by
  have key : ∀ (l : List Oper) (acc : Array Nat) (pre : List Oper), ops.toList = pre ++ l → acc.size = pre.length →
      (∀ j, j < pre.length → ∀ (S : Nat → Prop), (∀ (j : Nat) (o : Oper), ops[j]? = some o → S j → ∀ x ∈ o.after.toList, Region.binds .any x = true → S x.on) → ∀ o, ops[j]? = some o → (∀ x ∈ o.after.toList, Region.binds .any x = true → S x.on) → ∀ i, (acc.getD j 0).testBit i = true → S i) →
      ∀ j, j < ops.size → ∀ (S : Nat → Prop), (∀ (j : Nat) (o : Oper), ops[j]? = some o → S j → ∀ x ∈ o.after.toList, Region.binds .any x = true → S x.on) → ∀ o, ops[j]? = some o → (∀ x ∈ o.after.toList, Region.binds .any x = true → S x.on) → ∀ i,
        ((l.foldl (fun acc o => acc.push (o.after.foldl (fun s e => if Region.binds .any e then s ||| 2 ^ e.on ||| acc.getD e.on 0 else s) 0)) acc).getD j 0).testBit i = true → S i := by
    intro l
    induction l with
    | nil =>
      intro acc pre hpre hsz hacc j hj
      have : pre.length = ops.size := by rw [← Array.length_toList, hpre]; simp
      exact hacc j (by omega)
    | cons o l ih =>
      intro acc pre hpre hsz hacc
      simp only [List.foldl_cons]
      have ho : ops[pre.length]? = some o := by
        rw [← Array.getElem?_toList, hpre, List.getElem?_append_right (Nat.le_refl _)]; simp
      refine ih _ (pre ++ [o]) (by rw [hpre]; simp) (by simp [hsz]) fun j hj S hS o' ho' hx i hi => ?_
      by_cases hjp : j < pre.length
      · have e : (acc.push (o.after.foldl (fun s e => if Region.binds .any e then s ||| 2 ^ e.on ||| acc.getD e.on 0 else s) 0)).getD j 0 = acc.getD j 0 := by
          simp only [Array.getD_eq_getD_getElem?, Array.getElem?_push]
          rw [if_neg (by omega)]
        rw [e] at hi
        exact hacc j hjp S hS o' ho' hx i hi
      · have hjl : j = pre.length := by simp at hj; omega
        subst hjl
        rw [ho] at ho'
        obtain rfl := Option.some.inj ho'
        have e : (acc.push (o.after.foldl (fun s e => if Region.binds .any e then s ||| 2 ^ e.on ||| acc.getD e.on 0 else s) 0)).getD pre.length 0 = o.after.toList.foldl (fun s e => if Region.binds .any e then s ||| 2 ^ e.on ||| acc.getD e.on 0 else s) 0 := by
          simp only [Array.getD_eq_getD_getElem?, Array.getElem?_push]
          rw [if_pos hsz.symm, Option.getD_some, Array.foldl_toList]
        rw [e] at hi
        refine testBit_fold (S := S) o.after.toList 0 i (fun k hk => by simp at hk) (fun x hx' hb => ⟨hx x hx' hb, fun k hk => ?_⟩) hi
        have hlt := hback _ o ho x hx' hb
        have hon : x.on < ops.size := by have := (Array.getElem?_eq_some_iff.1 ho).1; omega
        have hoo : ops[x.on]? = some ops[x.on] := Array.getElem?_eq_getElem hon
        exact hacc x.on hlt S hS _ hoo (hS _ _ hoo (hx x hx' hb)) k hk
  intro j o ho hx i hi
  have hj : j < ops.size := (Array.getElem?_eq_some_iff.1 ho).1
  refine key ops.toList #[] [] rfl rfl (fun j hj => absurd hj (by simp)) j hj S hcl o ho hx i ?_
  rw [Array.foldl_toList]
  exact hi

theorem step_nobump {fi : FnI} {ops : Array Oper} {id i : Nat} {e1 : Env} {s1 : St} {b : Bool} {ft : Foot} (h : stepOp C cal fi ops id i e s = some (e1, s1, b, ft)) (hb : ∀ o, ops[i]? = some o → bumps C fi o = false) : s1.nxt = s.nxt := by
  unfold stepOp at h
  split at h
  · simp at h; rw [h.2.1]
  · rename_i o ho
    have hbo := hb o ho
    simp only [bumps, Bool.or_eq_false_iff, Bool.and_eq_false_iff] at hbo
    split at h
    · split at h
      · rename_i v s2 b2 ft2 hact
        simp at h
        obtain ⟨_, rfl, _⟩ := h
        cases hg : goCall o with
        | true =>
          have hw : writes C fi o = false := by
            rcases hbo.2 with h1 | h1
            · rw [hg] at h1; cases h1
            · exact h1
          rw [act_nowrite hw hact]
        | false =>
          rw [act_plain hg] at hact
          split at hact
          · rename_i v1 eff hp
            simp at hact
            rw [← hact.2.1]
            cases eff <;> rfl
          · cases hact
      · cases h
    · simp at h; rw [h.2.1]
    · cases h

theorem range_filter_pairwise (n : Nat) (p : Nat → Bool) : ((List.range n).filter p).Pairwise (· < ·) := List.Pairwise.filter _ List.pairwise_lt_range

theorem wpAny_draw (hC : CfgOk C P) (hcal : Sound C P cal) {N : Nat} {fi : FnI} {ops : Array Oper} {n0 : Nat} {F : Nat → Foot} {B : Nat → Bool} {Q : Exit → Act → World → Prop} {e' : Env} {s' : St}
    (hdst : ∀ (i : Nat) (o : Oper) (d : Nat), ops[i]? = some o → o.dst = some d → d < N)
    (hback : ∀ (j : Nat) (o : Oper), ops[j]? = some o → ∀ x ∈ o.after.toList, Region.binds .any x = true → x.on < j)
    (hfree : ∀ (i j : Nat), i < j → j < ops.size → ((Region.before ops).getD j 0).testBit i = false → Free C fi ops F i j)
    {K0 : Ctx} {w0 : World} (hfin : ∀ K w a, Stp K0 w0 K w → SRel C N K s' w e' a → (∀ j, K.al j → K0.al j ∨ n0 ≤ j) → n0 ≤ s'.nxt → Q .normal a w) :
    ∀ (fuel : Nat) (listed : Array Bool) (r : List Nat) (K : Ctx) (s : St) (w : World) (e : Env) (a : Act), listed.size = ops.size →
      r = ((List.range ops.size).filter fun i => !listed.getD i true) → r.length = fuel →
      (∀ (j : Nat) (o : Oper), ops[j]? = some o → listed.getD j false = true → ∀ x ∈ o.after.toList, Region.binds .any x = true → listed.getD x.on false = true) →
      SRel C N K s w e a → RunF C cal fi ops n0 F B r e s e' s' →
      (∀ j, K.al j → j < n0 ∨ (∃ k, listed.getD k false = true ∧ j = n0 + k) ∨ n0 + ops.size ≤ j) → Stp K0 w0 K w → (∀ j, K.al j → K0.al j ∨ n0 ≤ j) → n0 ≤ s.nxt →
      (n0 + ops.size ≤ s.nxt ∨ ∀ (i : Nat) (o : Oper), ops[i]? = some o → bumps C fi o = false) → wpAny P .any ops Q fuel listed a w := by
  intro fuel
  induction fuel with
  | zero =>
    intro listed r K s w e a hls hr hlen hcl hs hrun hinv hst hal hn hbump
    have hr0 : r = [] := List.eq_nil_of_length_eq_zero hlen
    subst hr0
    refine ⟨?_, ?_⟩
    · simp only [Region.ready]
      rw [List.filter_eq_nil_iff]
      intro i hi
      have := (List.filter_eq_nil_iff.1 hr.symm) i hi
      simp only [Bool.not_eq_true, Bool.not_eq_false'] at this
      simp [this]
    · obtain ⟨rfl, rfl⟩ := hrun
      exact hfin K w a hst hs hal hn
  | succ fuel ih =>
    intro listed r K s w e a hls hr hlen hcl hs hrun hinv hst hal hn hbump
    have hpw : r.Pairwise (· < ·) := by rw [hr]; exact range_filter_pairwise _ _
    have hmem : ∀ i, i ∈ r ↔ i < ops.size ∧ listed.getD i true = false := by
      intro i
      rw [hr]
      simp
    have hgd : ∀ i, i < ops.size → listed.getD i true = listed.getD i false := by
      intro i hi
      simp [Array.getD_eq_getD_getElem?, Array.getElem?_eq_getElem (show i < listed.size by omega)]
    refine ⟨fun hready => ?_, fun i hi => ?_⟩
    · -- something is ready
      exfalso
      match r, hlen, hpw, hmem with
      | x :: t, _, hpw, hmem =>
        obtain ⟨hx1, hx2⟩ := (hmem x).1 (by simp)
        have hox : ops[x]? = some ops[x] := Array.getElem?_eq_getElem hx1
        have hin : x ∈ Region.ready .any ops listed := by
          simp only [Region.ready, List.mem_filter, List.mem_range, hx1, true_and, hox, Option.map_some, Option.getD_some, Bool.and_eq_true, Bool.not_eq_true', hx2]
          rw [← Array.all_toList, List.all_eq_true]
          intro ed hed
          cases hb : Region.binds .any ed with
          | false => rfl
          | true =>
            simp only [Bool.not_true, Bool.false_or]
            have hlt := hback x _ hox ed hed hb
            have hon : ed.on < ops.size := by omega
            have hnr : ed.on ∉ x :: t := by
              intro hm
              rcases List.mem_cons.1 hm with h | h
              · omega
              · have := (List.pairwise_cons.1 hpw).1 _ h; omega
            cases hq : listed.getD ed.on true with
            | false => exact absurd ((hmem ed.on).2 ⟨hon, hq⟩) hnr
            | true => rw [← hgd _ hon]; exact hq
        rw [hready] at hin
        cases hin
    · simp only [Region.ready, List.mem_filter, List.mem_range, Bool.and_eq_true, Bool.not_eq_true'] at hi
      obtain ⟨hi1, hi2, hi3⟩ := hi
      have hoi : ops[i]? = some ops[i] := Array.getElem?_eq_getElem hi1
      rw [hoi] at hi3
      simp only [Option.map_some, Option.getD_some, ← Array.all_toList, List.all_eq_true, Bool.or_eq_true, Bool.not_eq_true'] at hi3
      have hpre : ∀ x ∈ ops[i].after.toList, Region.binds .any x = true → listed.getD x.on false = true := by
        intro x hx hb
        rcases hi3 x hx with h | h
        · rw [hb] at h; cases h
        · exact h
      have hir : i ∈ r := (hmem i).2 ⟨hi1, hi2⟩
      obtain ⟨p, q, hpq⟩ := List.append_of_mem hir
      subst hpq
      have hpw' := List.pairwise_append.1 hpw
      have hfr : ∀ k ∈ p, Free C fi ops F k i := by
        intro k hk
        have hki : k < i := hpw'.2.2 k hk i (by simp)
        refine hfree k i hki hi1 ?_
        cases hb : ((Region.before ops).getD i 0).testBit k with
        | false => rfl
        | true =>
          have h1 := before_closed (S := fun j => listed.getD j false = true) hback hcl i _ hoi hpre k hb
          have h2 := (hmem k).1 (by simp [hk])
          rw [hgd _ h2.1, h1] at h2
          exact absurd h2.2 (by simp)
      obtain ⟨e1, s1, hstep, hrun'⟩ := move_front p hrun hfr
      have hid : ¬ K.al (n0 + i) := by
        intro h
        rcases hinv _ h with h | ⟨k, h1, h2⟩ | h
        · omega
        · have : k = i := by omega
          subst this
          rw [hgd _ hi1, h1] at hi2
          cases hi2
        · omega
      refine stepOp_rel hC hcal hs hid (fun o d => hdst i o d) hstep fun K' w' a' g1 g2 g3 g4 g5 g6 g7 => ?_
      have hls' : (listed.setIfInBounds i true).size = ops.size := by simpa using hls
      have hget : ∀ k d, (listed.setIfInBounds i true).getD k d = if k = i then true else listed.getD k d := by
        intro k d
        simp only [Array.getD_eq_getD_getElem?, Array.getElem?_setIfInBounds]
        by_cases hki : i = k
        · subst hki
          simp [show i < listed.size by omega]
        · simp [hki, Ne.symm hki]
      have hrnew : p ++ q = (List.range ops.size).filter fun k => !(listed.setIfInBounds i true).getD k true := by
        have e1 : (fun k => !(listed.setIfInBounds i true).getD k true) = fun k => (!decide (k = i)) && !listed.getD k true := by
          funext k
          rw [hget]
          by_cases hk : k = i <;> simp [hk]
        rw [e1, ← List.filter_filter, ← hr]
        have hni : ∀ k ∈ p, k ≠ i := fun k hk h => by have := hpw'.2.2 k hk i (by simp); omega
        have hnq : ∀ k ∈ q, k ≠ i := fun k hk h => by have := (List.pairwise_cons.1 hpw'.2.1).1 k hk; omega
        rw [List.filter_append, List.filter_cons]
        simp only [decide_true, Bool.not_true, Bool.false_eq_true, if_false]
        rw [List.filter_eq_self.2 fun k hk => by simp [hni k hk], List.filter_eq_self.2 fun k hk => by simp [hnq k hk]]
      have hnx : ¬ (n0 + ops.size ≤ s.nxt) → s1.nxt = s.nxt := by
        intro h
        rcases hbump with h1 | h1
        · exact absurd h1 h
        · exact step_nobump hstep fun o ho => h1 i o ho
      have hmk : (∃ o, ops[i]? = some o ∧ makes fi o = true) → n0 + ops.size ≤ s.nxt := by
        rintro ⟨o, ho, hm⟩
        rcases hbump with h1 | h1
        · exact h1
        · have := h1 i o ho
          simp [bumps, hm] at this
      refine ih (listed.setIfInBounds i true) (p ++ q) K' s1 w' e1 a' hls' hrnew (by simp at hlen ⊢; omega) (fun j o ho hj x hx hb => ?_) ⟨g2, fun j hj => ?_, g3, g4, g5⟩ hrun' (fun j hj => ?_) (hst.trans g1) (fun j hj => ?_) (Nat.le_trans hn g7) ?_
      · rw [hget] at hj ⊢
        split
        · rfl
        · split at hj
          · rename_i hji
            subst hji
            rw [hoi] at ho
            obtain rfl := Option.some.inj ho
            exact hpre x hx hb
          · exact hcl j o ho hj x hx hb
      · rcases g6 j hj with h | ⟨h, _, rfl⟩ | ⟨h1, h2⟩
        · have := hs.al j h; omega
        · have := hmk h; omega
        · exact h2
      · rcases g6 j hj with h | ⟨h, _, rfl⟩ | ⟨h1, h2⟩
        · rcases hinv j h with h | ⟨k, h1, h2⟩ | h
          · exact .inl h
          · exact .inr (.inl ⟨k, by rw [hget]; split; rfl; exact h1, h2⟩)
          · exact .inr (.inr h)
        · exact .inr (.inl ⟨i, by rw [hget, if_pos rfl], rfl⟩)
        · by_cases hb : n0 + ops.size ≤ s.nxt
          · exact .inr (.inr (by omega))
          · have := hnx hb; omega
      · rcases g6 j hj with h | ⟨h, _, rfl⟩ | ⟨h1, h2⟩
        · exact hal j h
        · exact .inr (by omega)
        · exact .inr (by omega)
      · rcases hbump with h | h
        · exact .inl (by omega)
        · exact .inr h
end
end Go.Ilv

/- Code and calls: what the evaluator says of a call, the machine does. -/
set_option linter.unusedVariables false
set_option linter.unusedSimpArgs false
namespace Go.Ilv
open Go

section
variable {C : Cfg} {P : Program} {gl : Nat → Option (List V)} {K : Ctx} {s : St} {w w' : World} {e : Env} {a : Act} {cal : Callee}

theorem regOk_dst {fi : FnI} {id : Nat} {ops : Array Oper} {draw : Bool} (h : regOk C fi id ops draw = true) : ∀ (i : Nat) (o : Oper) (d : Nat), ops[i]? = some o → o.dst = some d → d < fi.fn.ntmps := by
  intro i o d ho hd
  simp only [regOk, Bool.and_eq_true] at h
  have h1 := h.1
  rw [← Array.all_toList, List.all_eq_true] at h1
  have := h1 o (by rw [Array.mem_toList_iff]; exact Array.mem_of_getElem? ho)
  rw [hd] at this
  simpa using this

theorem zipIdx_mem {ops : Array Oper} {i : Nat} {o : Oper} (h : ops[i]? = some o) : (o, i) ∈ ops.toList.zipIdx := by
  rw [List.mk_mem_zipIdx_iff_getElem?]
  simpa using h

theorem region_rel (hC : CfgOk C P) (hcal : Sound C P cal) {fi : FnI} {id : Nat} {ops : Array Oper} {draw : Bool} (hok : regOk C fi id ops draw = true) (hs : SRel C fi.fn.ntmps K s w e a) {e' : Env} {s' : St}
    (h : runReg C cal fi id ops draw e s = some (e', s')) {Q : Exit → Act → World → Prop} (hQ : After C fi.fn.ntmps K s w e' s' (Q .normal)) : (Code.region id ops draw).wp P Q a w := by
  have hdst := regOk_dst hok
  cases draw with
  | false =>
    simp only [runReg, Bool.false_eq_true, if_false] at h
    exact wp_region (runSeq_rel hC hcal hdst _ hs h hQ)
  | true =>
    refine wp_region_any hC.mixed ?_
    simp only [runReg, if_true] at h
    generalize hs0 : (if ops.any (bumps C fi) then ({ s with nxt := s.nxt + ops.size } : St) else s) = s0 at h
    obtain ⟨hconf, h⟩ : (∀ l, aget fi.conf id = some l → (l.all fun p => (footAt (feet C cal fi ops s.nxt (List.range ops.size) e s0) p.1).indep (footAt (feet C cal fi ops s.nxt (List.range ops.size) e s0) p.2)) = true) ∧
        runDraw C cal fi ops s.nxt (List.range ops.size) e s0 = some (e', s') := by
      cases hc : aget fi.conf id with
      | none => rw [hc] at h; exact ⟨by simp, by simpa using h⟩
      | some l =>
        rw [hc] at h
        simp only at h
        split at h
        · rename_i hall
          exact ⟨fun l' hl' => by simp at hl'; subst hl'; exact hall, h⟩
        · cases h
    · simp only [regOk, Bool.not_true, Bool.false_or, Bool.and_eq_true] at hok
      obtain ⟨_, hb, hu⟩ := hok
      obtain ⟨B, hB⟩ := feet_get (List.range ops.size) List.nodup_range h
      have hst : Stp K w K { w with drawn := w.drawn + 1 } := ⟨rfl, fun _ h => h, fun _ _ T' h => ⟨T', h, .inl rfl⟩, Nat.le_refl _, rfl, rfl, rfl, fun b hb hn => ⟨rfl, hn⟩⟩
      have hrel0 : RelW C.glob K s0 { w with drawn := w.drawn + 1 } := by
        have h1 := hs.rel.same hst (fun _ _ _ => rfl)
        rw [← hs0]
        split
        · exact { obj := h1.obj, dom := h1.dom, al := h1.al, inj := h1.inj, X := h1.X, Xlt := h1.Xlt, glob := h1.glob }
        · exact h1
      have hn0 : s.nxt ≤ s0.nxt := by rw [← hs0]; split <;> simp
      refine wpAny_draw hC hcal (N := fi.fn.ntmps) (K0 := K) (w0 := { w with drawn := w.drawn + 1 }) (n0 := s.nxt) hdst (fun j o ho x hx hbi => ?_) (fun i j hij hj hbit => ?_) (fun K' w' a' g1 g2 g3 g4 => ?_) ops.size (Array.replicate ops.size false) (List.range ops.size) K s0 _ e a (by simp) ?_ (by simp) (fun j o _ hl => ?_) ⟨hrel0, fun j hj => ?_, hs.env.mono hst, hs.size, hs.defers⟩ hB (fun j hj => .inl (hs.al j hj)) (Stp.refl _ _) (fun j hj => .inl hj) hn0 ?_
      · have := List.all_eq_true.1 hb _ (zipIdx_mem ho)
        simp only at this
        rw [← Array.all_toList, List.all_eq_true] at this
        have := this x hx
        rw [hbi] at this
        simpa using this
      · have hoj : ops[j]? = some ops[j] := Array.getElem?_eq_getElem hj
        have hi : i < ops.size := by omega
        have hoi : ops[i]? = some ops[i] := Array.getElem?_eq_getElem hi
        have h1 := List.all_eq_true.1 hu _ (zipIdx_mem hoj)
        have h2 := List.all_eq_true.1 h1 _ (zipIdx_mem hoi)
        simp only [waits, hij, decide_true, Bool.not_true, Bool.false_or, hbit, Bool.and_eq_true, Bool.or_eq_true, Bool.not_eq_true'] at h2
        obtain ⟨h3, h4⟩ := h2
        refine ⟨_, _, hoi, hoj, h3, fun ht => ?_⟩
        rcases h4 with h4 | h4
        · simp only [Bool.and_eq_true, Bool.or_eq_true] at ht
          simp [ht.1.1, ht.1.2] at h4
          rcases ht.2 with h5 | h5
          · rw [h5] at h4; simp at h4
          · rw [h5] at h4; simp at h4
        · cases hc : aget fi.conf id with
          | none => rw [hc] at h4; simp at h4
          | some l =>
            rw [hc] at h4
            simp only [Option.getD_some] at h4
            exact List.all_eq_true.1 (hconf l hc) (i, j) (by simpa using h4)
      · refine hQ K' w' a' (hst.trans g1) g2 (fun j hj => ?_) g4
        rcases g3 j hj with h | h
        · exact .inl h
        · exact .inr ⟨h, g2.al j hj⟩
      · rw [List.filter_eq_self.2]
        intro i hi
        have : i < ops.size := by simpa using hi
        simp [Array.getD_eq_getD_getElem?, this]
      · exfalso
        simp only [Array.getD_eq_getD_getElem?, Array.getElem?_replicate] at hl
        split at hl <;> simp at hl
      · exact Nat.lt_of_lt_of_le (hs.al j hj) hn0
      · cases hany : ops.any (bumps C fi) with
        | true => left; rw [← hs0, hany]; simp
        | false =>
          right
          intro i o ho
          rw [← Array.any_toList] at hany
          have := List.any_eq_false.1 hany o (by rw [Array.mem_toList_iff]; exact Array.mem_of_getElem? ho)
          simpa using this

def toExit : Ex → Exit
  | .normal => .normal
  | .exit id => .exit id
  | .ret => .ret

theorem keepE_get {l : List Nat} {t : Nat} {x : V} (h : aget (keepE l e) t = some x) : aget e t = some x := by
  induction l with
  | nil => simp [keepE, aget] at h
  | cons k r ih =>
    simp only [keepE, List.filterMap_cons] at h ih
    cases hk : aget e k with
    | none => simp [hk] at h; exact ih h
    | some v =>
      simp only [hk, Option.map_some, aget] at h
      split at h
      · rename_i htk
        rw [htk, hk]; exact h
      · exact ih h
theorem SRel.live {N : Nat} {fi : FnI} {id : Nat} (hs : SRel C N K s w e a) : SRel C N K s w (liveE fi id e) a := by
  refine ⟨hs.rel, hs.al, fun t x hx => ?_, hs.size, hs.defers⟩
  unfold liveE at hx
  split at hx
  · exact hs.env t x (keepE_get hx)
  · exact hs.env t x hx

theorem exec_rel (hC : CfgOk C P) (hcal : Sound C P cal) {fi : FnI} : ∀ (n : Nat) (c : Code) {K : Ctx} {s : St} {w : World} {e : Env} {a : Act} {ex : Ex} {e' : Env} {s' : St}, codeOk C fi c = true → SRel C fi.fn.ntmps K s w e a →
    exec C cal fi n c e s = some (ex, e', s') → ∀ {Q : Exit → Act → World → Prop}, After C fi.fn.ntmps K s w e' s' (Q (toExit ex)) → c.wp P Q a w := by
  intro n
  induction n using Nat.strongRecOn with
  | _ n ih =>
    intro c K s w e a ex e' s' hok hs h Q hQ
    cases n with
    | zero => simp [exec] at h
    | succ n =>
      have ihn := ih n (Nat.lt_succ_self n)
      have after_refl : ∀ {R : Act → World → Prop}, After C fi.fn.ntmps K s w e s R → R a w := fun h => h K w a (Stp.refl _ _) hs (fun j h => .inl h) (Nat.le_refl _)
      have after_trans : ∀ {e1 e2 : Env} {s1 s2 : St} {K1 : Ctx} {w1 : World} {R : Act → World → Prop}, After C fi.fn.ntmps K s w e2 s2 R → Stp K w K1 w1 → (∀ j, K1.al j → K.al j ∨ (s.nxt ≤ j ∧ j < s1.nxt)) → s.nxt ≤ s1.nxt → After C fi.fn.ntmps K1 s1 w1 e2 s2 R := by
        intro e1 e2 s1 s2 K1 w1 R hA h1 h2 h3 K2 w2 a2 g1 g2 g3 g4
        refine hA K2 w2 a2 (h1.trans g1) g2 (fun j hj => ?_) (Nat.le_trans h3 g4)
        rcases g3 j hj with h | h
        · rcases h2 j h with h | h
          · exact .inl h
          · exact .inr ⟨h.1, by omega⟩
        · exact .inr ⟨by omega, h.2⟩
      cases c <;> simp only [exec, reduceCtorEq] at h
      case skip =>
        simp at h; obtain ⟨rfl, rfl, rfl⟩ := h
        exact wp_skip (after_refl hQ)
      case region id ops draw =>
        split at h
        · rename_i e1 s1 hr
          simp at h; obtain ⟨rfl, rfl, rfl⟩ := h
          exact region_rel hC hcal (by simpa [codeOk] using hok) hs hr fun K1 w1 a1 g1 g2 g3 g4 => hQ K1 w1 a1 g1 g2.live g3 g4
        · cases h
      case seq c1 c2 =>
        simp only [codeOk, Bool.and_eq_true] at hok
        refine wp_seq ?_
        split at h
        · rename_i e1 s1 h1
          refine ihn c1 hok.1 hs h1 fun K1 w1 a1 g1 g2 g3 g4 => ?_
          exact ihn c2 hok.2 g2 h (after_trans (e1 := e1) hQ g1 g3 g4)
        · rename_i r hr
          cases hq : exec C cal fi n c1 e s with
          | none => rw [hq] at h; cases h
          | some x =>
            obtain ⟨ex1, e1, s1⟩ := x
            rw [hq] at h
            simp at h
            obtain ⟨rfl, rfl, rfl⟩ := h
            refine ihn c1 hok.1 hs hq fun K1 w1 a1 g1 g2 g3 g4 => ?_
            have := hQ K1 w1 a1 g1 g2 g3 g4
            cases ex1 with
            | normal => exact absurd hq (hr _ _)
            | exit id => exact this
            | ret => exact this
      case cond x c1 c2 =>
        simp only [codeOk, Bool.and_eq_true] at hok
        split at h
        · rename_i t ht
          have hr := opnd_rel hs.rel hs.env ht
          generalize hg : a.eval x = u at hr
          cases hr
          refine wp_cond hg ?_
          cases t
          · exact ihn c2 hok.2 hs h hQ
          · exact ihn c1 hok.1 hs h hQ
        · cases h
      case block id c1 =>
        simp only [codeOk] at hok
        refine wp_block ?_
        split at h
        · rename_i j e1 s1 h1
          split at h
          · rename_i hj
            simp at h; obtain ⟨rfl, rfl, rfl⟩ := h
            refine ihn c1 hok hs h1 fun K1 w1 a1 g1 g2 g3 g4 => ?_
            simp only [toExit, Exit.inBlock, hj, if_true]
            exact hQ K1 w1 a1 g1 g2 g3 g4
          · rename_i hj
            simp at h; obtain ⟨rfl, rfl, rfl⟩ := h
            refine ihn c1 hok hs h1 fun K1 w1 a1 g1 g2 g3 g4 => ?_
            simp only [toExit, Exit.inBlock, hj, if_false]
            exact hQ K1 w1 a1 g1 g2 g3 g4
        · rename_i r hr
          cases hq : exec C cal fi n c1 e s with
          | none => rw [hq] at h; cases h
          | some x =>
            obtain ⟨ex1, e1, s1⟩ := x
            rw [hq] at h
            simp at h
            obtain ⟨rfl, rfl, rfl⟩ := h
            refine ihn c1 hok hs hq fun K1 w1 a1 g1 g2 g3 g4 => ?_
            have := hQ K1 w1 a1 g1 g2 g3 g4
            cases ex1 with
            | normal => exact this
            | exit id => exact absurd hq (hr _ _ _)
            | ret => exact this
      case loop c1 =>
        have hok1 : codeOk C fi c1 = true := by simpa only [codeOk] using hok
        refine wp_loop_rounds (n + 1) ?_
        have hrounds : ∀ m, m ≤ n + 1 → ∀ {K : Ctx} {s : St} {w : World} {e : Env} {a : Act}, SRel C fi.fn.ntmps K s w e a → exec C cal fi m (.loop c1) e s = some (ex, e', s') → After C fi.fn.ntmps K s w e' s' (Q (toExit ex)) → Code.rounds P c1 Q m a w := by
          intro m
          induction m with
          | zero => intro _ K s w e a _ h; simp [exec] at h
          | succ m ihm =>
            intro hm K s w e a hs h hQ
            rw [rounds_succ]
            simp only [exec] at h
            split at h
            · rename_i e1 s1 h1
              refine ih m (by omega) c1 hok1 hs h1 fun K1 w1 a1 g1 g2 g3 g4 => ?_
              refine ihm (by omega) g2 h fun K2 w2 a2 q1 q2 q3 q4 => hQ K2 w2 a2 (g1.trans q1) q2 (fun j hj => ?_) (Nat.le_trans g4 q4)
              rcases q3 j hj with h | h
              · rcases g3 j h with h | h
                · exact .inl h
                · exact .inr ⟨h.1, by omega⟩
              · exact .inr ⟨by omega, h.2⟩
            · rename_i r hr
              cases hq : exec C cal fi m c1 e s with
              | none => rw [hq] at h; cases h
              | some x =>
                obtain ⟨ex1, e1, s1⟩ := x
                rw [hq] at h
                simp at h
                obtain ⟨rfl, rfl, rfl⟩ := h
                refine ih m (by omega) c1 hok1 hs hq fun K1 w1 a1 g1 g2 g3 g4 => ?_
                have := hQ K1 w1 a1 g1 g2 g3 g4
                cases ex1 with
                | normal => exact absurd hq (hr _ _)
                | exit id => exact this
                | ret => exact this
        refine hrounds (n + 1) (Nat.le_refl _) hs ?_ hQ
        simp only [exec]
        exact h
      case exit id =>
        simp at h; obtain ⟨rfl, rfl, rfl⟩ := h
        exact wp_exit (after_refl hQ)
      case ret =>
        simp at h; obtain ⟨rfl, rfl, rfl⟩ := h
        exact wp_ret (after_refl hQ)

/-! ### results -/
/-- A result as the machine reads it. -/
def resSem (tmps : Array Value) : ResultVar → Sem Value
  | .tmp t => pure (tmps.getD t Go.undef)
  | .cell p t => do loadVar t (← asAddr (tmps.getD p Go.undef))
theorem resV_rel (hC : CfgOk C P) {N : Nat} (hs : SRel C N K s w e a) {r : ResultVar} {x : V} (h : resV C e s r = some x) : ∃ u, (resSem a.tmps r).run P w = .ok u w ∧ VRel K w x u := by
  cases r with
  | tmp t =>
    obtain ⟨u, h1, h2⟩ := hs.env t x h
    exact ⟨u, by simp [resSem, h1], h2⟩
  | cell p t =>
    simp only [resV] at h
    split at h
    · rename_i pv y hp hy
      split at h
      · rename_i cs hcs
        obtain ⟨u, h1, h2⟩ := hs.env p pv hp
        obtain ⟨b, o, us, g1, g2, g3, g4⟩ := rd_rel hs.rel h2 hcs
        obtain ⟨u', e1, e2, e3⟩ := VRel.ofCells g3 h
        obtain ⟨f1, f2⟩ := r_loadVar (P := P) (hC.ty t y hy) g4 g2
        refine ⟨u', ?_, e1⟩
        have hu : a.tmps.getD p Go.undef = .pointer (some ⟨b, o, none⟩) := by
          rw [← g1]; simp [h1]
        simp only [resSem, hu, asAddr, Sem.run_bind, Sem.run_pure, Result.andThen_ok]
        cases hag : y.kind.agg with
        | true => rw [f1 hag, e2 hag]
        | false => exact f2 hag u' (e3 hag)
      · cases h
    · cases h

theorem results_rel (hC : CfgOk C P) {N : Nat} (hs : SRel C N K s w e a) {fi : FnI} {r : V} (h : results C fi e s = some r) : ∃ u, (_root_.Go.results fi.fn a.tmps).run P w = .ok u w ∧ VRel K w r u := by
  have key : ∀ (l : List ResultVar) (xs : List V), allSome (resV C e s) l = some xs → ∃ us : List Value, (l.mapM (resSem a.tmps)).run P w = .ok us w ∧ LRel K w xs us := by
    intro l
    induction l with
    | nil => intro xs h; simp [allSome] at h; subst h; exact ⟨[], rfl, .nil⟩
    | cons r l ih =>
      intro xs h
      simp only [allSome] at h
      split at h
      · rename_i y l' h1 h2
        simp at h; subst h
        obtain ⟨us, g1, g2⟩ := ih l' h2
        obtain ⟨u, q1, q2⟩ := resV_rel hC hs h1
        refine ⟨u :: us, ?_, .cons q2 g2⟩
        rw [List.mapM_cons]
        simp only [Sem.run_bind, q1, Result.andThen_ok, g1, Sem.run_pure]
      · cases h
  unfold results at h
  have hmap : ∀ us : List Value, (fi.fn.results.toList.mapM (resSem a.tmps)).run P w = .ok us w → (_root_.Go.results fi.fn a.tmps).run P w = .ok (if h : us.toArray.size = 1 then us.toArray[0] else .tuple us.toArray) w := by
    intro us hus
    have e : _root_.Go.results fi.fn a.tmps = (do
        let vs ← fi.fn.results.mapM (resSem a.tmps)
        pure (if h : vs.size = 1 then vs[0] else .tuple vs)) := by
      unfold _root_.Go.results
      congr 1
    rw [e, Sem.run_bind, Array.mapM_eq_mapM_toList, Sem.run_map, hus]
    rfl
  split at h
  · rename_i v hv
    simp at h; subst h
    obtain ⟨us, g1, g2⟩ := key _ _ hv
    match us, g2 with
    | [u], g2 => exact ⟨u, by rw [hmap _ g1]; rfl, g2.head⟩
    | [], g2 => exact absurd g2.1 (by simp)
    | _ :: _ :: _, g2 => exact absurd g2.1 (by simp)
  · rename_i l hne hl
    simp at h; subst h
    obtain ⟨us, g1, g2⟩ := key _ _ hl
    have hlen : us.length ≠ 1 := by
      intro h1
      have h2 : l.length = 1 := by rw [g2.1, h1]
      match l, h2 with
      | [x], _ => exact hne x rfl
    refine ⟨.tuple us.toArray, ?_, .tup l us g2.1 g2.2⟩
    rw [hmap _ g1, dif_neg (by simpa using hlen)]
  · cases h

/-! ### calls -/
theorem aget_filter_key {α : Type} (p : Nat → Bool) : ∀ (l : List (Nat × α)) (i : Nat), aget (l.filter fun x => p x.1) i = if p i then aget l i else none
  | [], i => by simp [aget]
  | (k, v) :: r, i => by
    have ih := aget_filter_key p r i
    simp only [List.filter_cons]
    by_cases hk : p k = true
    · rw [if_pos hk]
      simp only [aget]
      by_cases hik : i = k
      · subst hik; simp [hk]
      · simp only [hik, if_false]; exact ih
    · rw [if_neg hk, ih]
      simp only [aget]
      by_cases hik : i = k
      · subst hik; simp [hk]
      · simp [hik]
theorem killVars_get (s : St) (base i : Nat) : (s.killVars base).get i = if s.kills base i then none else s.get i := by
  have := aget_filter_key (fun k => !(s.kills base k)) s.objs i
  simp only [St.killVars, St.get]
  rw [this]
  cases s.kills base i <;> simp

theorem kill_rel (hk : RelW gl K s w) (base : Nat) : ∃ K', Stp K w K' w ∧ RelW gl K' (s.killVars base) w ∧ K'.al = K.al := by
  let K' : Ctx := { φ := fun i => if s.kills base i then none else K.φ i, al := K.al, X := K.X }
  have hφ : ∀ i T, K'.φ i = some T → s.kills base i = false ∧ K.φ i = some T := by
    intro i T h
    simp only [K'] at h
    split at h
    · cases h
    · rename_i hn; exact ⟨by simpa using hn, h⟩
  have hst : Stp K w K' w := ⟨rfl, fun _ h => h, fun i _ T' h => ⟨T', (hφ i T' h).2, .inl rfl⟩, Nat.le_refl _, rfl, rfl, rfl, fun b hb hn => ⟨rfl, fun i T h => hn i T (hφ i T h).2⟩⟩
  refine ⟨K', hst, ?_, rfl⟩
  exact {
    obj := fun i o ho => by
      rw [killVars_get] at ho
      split at ho
      · cases ho
      · rename_i hn
        obtain ⟨T, hT, hr⟩ := hk.obj i o ho
        obtain ⟨c, et, h1, h2, h3⟩ := hr.row
        exact ⟨T, by simp only [K']; rw [if_neg hn]; exact hT, hr.sz, hr.ver, hr.pos, hr.cap, c, et, h1, h2, fun i r hir => ⟨(h3 i r hir).1, fun j x hx => let ⟨g1, u, g2, g3⟩ := (h3 i r hir).2 j x hx; ⟨g1, u, g2, g3.mono hst⟩⟩⟩
    dom := fun i T h => by
      obtain ⟨h1, h2⟩ := hφ i T h
      obtain ⟨o, ho⟩ := hk.dom i T h2
      exact ⟨o, by rw [killVars_get, h1]; exact ho⟩
    al := fun i T h => hk.al i T (hφ i T h).2
    inj := fun i j T T' h1 h2 h3 => hk.inj i j T T' (hφ i T h1).2 (hφ j T' h2).2 h3
    X := fun i T h => hk.X i T (hφ i T h).2
    Xlt := hk.Xlt
    glob := fun g cs h => (hk.glob g cs h).mono hst }

theorem enumE_get : ∀ (l : List V) (k t : Nat) (x : V), aget (enumE k l) t = some x → k ≤ t ∧ l[t - k]? = some x
  | [], k, t, x, h => by simp [enumE, aget] at h
  | v :: r, k, t, x, h => by
    simp only [enumE, aget] at h
    split at h
    · rename_i ht
      subst ht
      simp at h
      exact ⟨Nat.le_refl _, by simp [h]⟩
    · rename_i ht
      obtain ⟨h1, h2⟩ := enumE_get r (k + 1) t x h
      refine ⟨by omega, ?_⟩
      rw [show t - k = (t - (k + 1)) + 1 by omega]
      simpa using h2

/-- The functions that are told by what they come to. -/
def IntrOk (C : Cfg) (P : Program) : Prop := ∀ f g, C.intr f = some g → Sound C P fun f' args s => if f' = f then g args s else none

theorem call_sound (hC : CfgOk C P) (hI : IntrOk C P) : ∀ n, Sound C P (call C n)
  | 0 => fun f args s r s' h => by simp [call] at h
  | n + 1 => by
    intro f args s r s' h K w us hk hal ha
    have ih := call_sound hC hI n
    simp only [call] at h
    split at h
    · rename_i g hg
      exact hI f g hg f args s r s' (by simpa using h) K w us hk hal ha
    rename_i hg
    split at h
    · rename_i fi hfi
      obtain ⟨h1, h2, b, h3, h4⟩ := hC.fn f fi hfi
      simp only [body, h3] at h
      split at h
      · cases h
      · cases h
      · rename_i ex e1 s1 hne hex
        split at h
        · rename_i rv hres
          simp at h
          obtain ⟨rfl, rfl⟩ := h
          refine calls_of_wp h1 h3 ?_
          have hs : SRel C fi.fn.ntmps K s w (enumE 0 args) { tmps := us.toArray ++ Array.replicate (fi.fn.ntmps - us.toArray.size) Go.undef, defers := [] } := by
            refine ⟨hk, hal, fun t x hx => ?_, by simp; omega, rfl⟩
            obtain ⟨_, hx2⟩ := enumE_get args 0 t x hx
            simp at hx2
            obtain ⟨u, hu, hr⟩ := ha.get hx2
            refine ⟨u, ?_, hr⟩
            have ht : t < us.length := (List.getElem?_eq_some_iff.1 hu).1
            rw [Array.getElem?_append_left (by simpa using ht)]
            simpa using hu
          refine exec_rel hC ih n b h4 hs hex fun K1 w1 a1 g1 g2 g3 g4 => ?_
          have hfin : a1.defers = [] ∧ ∃ v, (_root_.Go.results fi.fn a1.tmps).run P w1 = .ok v w1 ∧ ∃ K' u, Ending.returned v = .returned u ∧ Stp K w K' w1 ∧ RelW C.glob K' (if fi.keep then s1 else s1.killVars s.nxt) w1 ∧ VRel K' w1 rv u ∧
              (∀ j, K'.al j → K.al j ∨ (s.nxt ≤ j ∧ j < (if fi.keep then s1 else s1.killVars s.nxt).nxt)) ∧ s.nxt ≤ (if fi.keep then s1 else s1.killVars s.nxt).nxt := by
            obtain ⟨u, q1, q2⟩ := results_rel hC g2 hres
            refine ⟨g2.defers, u, q1, ?_⟩
            have hnx : (if fi.keep then s1 else s1.killVars s.nxt).nxt = s1.nxt := by split <;> rfl
            rw [hnx]
            cases hkeep : fi.keep with
            | true => exact ⟨K1, u, rfl, g1, by simpa using g2.rel, q2, g3, g4⟩
            | false =>
              obtain ⟨K2, k1, k2, k3⟩ := kill_rel g2.rel s.nxt
              exact ⟨K2, u, rfl, g1.trans k1, by simpa using k2, q2.mono k1, fun j hj => g3 j (by rw [← k3]; exact hj), g4⟩
          cases ex with
          | normal => exact hfin
          | ret => exact hfin
          | exit id => exact absurd rfl (hne id)
        · cases h
    · cases h
end
end Go.Ilv
#print axioms Go.Ilv.call_sound
