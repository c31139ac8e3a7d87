/- The operations that leave the store as it is: parts, slices, structs, lengths. -/
import Derived.Test.YtdofkchhdckomaaIlvOps3
import Derived.Laws.Tables
set_option linter.unusedVariables false
set_option linter.unusedSimpArgs false
namespace Go.Ilv
open Go

section
variable {C : Cfg} {P : Program} {gl : Nat → Option (List V)} {K : Ctx} {s : St} {w : World} {e : Env} {a : Act}

theorem part_rel (hC : CfgOk C P) {t : TypeId} {cs : List V} {us : List Value} {off : Nat} {v : V} (hc : CRel K w cs us) (h : part C t cs off = some v) :
    ∃ r, (Go.part t us.toArray off).run P w = .ok r w ∧ VRel K w v r := by
  unfold part at h
  split at h
  · rename_i y hy
    have hyo := hC.ty t y hy
    obtain ⟨d, h1, h2⟩ := hyo.under
    split at h
    · rename_i hle
      have hsub : CRel K w ((cs.drop off).take y.size) ((us.drop off).take y.size) := by
        refine ⟨by simp [hc.1], fun c hcm => hc.2.1 c (List.mem_of_mem_drop (List.mem_of_mem_take hcm)), fun i c u e1 e2 => ?_⟩
        rw [List.getElem?_take] at e1 e2
        split at e1
        · rename_i hi
          rw [if_pos hi] at e2
          rw [List.getElem?_drop] at e1 e2
          exact hc.2.2 _ c u e1 e2
        · cases e1
      obtain ⟨r, g1, g2, g3⟩ := VRel.ofCells hsub h
      refine ⟨r, ?_, g1⟩
      have hlen : off + y.size ≤ us.length := by rw [← hc.1]; exact hle
      cases hag : y.kind.agg with
      | true =>
        rw [g2 hag]
        simp only [Go.part, Sem.run_bind, r_isAgg h1 h2, hag, Result.andThen_ok, if_true, hyo.run_size, Sem.run_pure]
        congr 2
        apply Array.ext'
        simp [List.drop_take]
      | false =>
        have g4 := g3 hag
        have h5 : us[off]? = some r := by
          have h6 : ((us.drop off).take y.size)[0]? = some r := by rw [g4]; rfl
          rw [List.getElem?_take] at h6
          split at h6
          · rw [List.getElem?_drop] at h6; simpa using h6
          · cases h6
        simp only [Go.part, Sem.run_bind, r_isAgg h1 h2, hag, Result.andThen_ok, Bool.false_eq_true, if_false]
        simp [h5]
    · cases h
  · cases h

theorem field_rel (hC : CfgOk C P) {t : TypeId} {x v : V} {u : Value} {f : Nat} (hx : VRel K w x u) (h : field C t x f = some v) :
    ∃ r, (Instr.field t u f).run P w = .ok r w ∧ VRel K w v r := by
  unfold field at h
  split at h
  · rename_i fs sz by_ zr cs hty
    obtain ⟨fields, hu, hfs, _⟩ := (hC.ty t _ hty).struct rfl
    split at h
    · rename_i off ft hf
      have hfield : ∃ fd, fields[f]? = some fd ∧ fd.offset = off ∧ fd.type = ft := by
        rw [hfs, List.getElem?_map] at hf
        cases hq : fields.toList[f]? with
        | none => simp [hq] at hf
        | some fd => simp [hq] at hf; exact ⟨fd, by simpa using hq, hf.1, hf.2⟩
      obtain ⟨fd, hfd, rfl, rfl⟩ := hfield
      cases hx with
      | agg _ us hl hfl hh =>
        obtain ⟨r, g1, g2⟩ := part_rel hC ⟨hl, hfl, hh⟩ h
        exact ⟨r, by simp [Instr.field, r_under hu, hfd, asAgg, g1], g2⟩
    · cases h
  · cases h

theorem index_rel (hC : CfgOk C P) {t : TypeId} {x i v : V} {u ui : Value} (hx : VRel K w x u) (hi : VRel K w i ui) (h : index C t x i = some v) :
    ∃ r, (Instr.index t u ui).run P w = .ok r w ∧ VRel K w v r := by
  unfold index at h
  split at h
  · rename_i sz by_ zr str k n hty
    have hu := (hC.ty t _ hty).st rfl
    cases hx; cases hi
    split at h
    · rename_i hn
      split at h
      · rename_i b hb
        simp at h; subst h
        exact ⟨_, by simp [Instr.index, asIntOf, r_under hu, hn, hb], .int _ _⟩
      · cases h
    · cases h
  · rename_i m el sz by_ zr cs k n hty
    have hu := (hC.ty t _ hty).ar rfl
    cases hi
    split at h
    · rename_i hn
      split at h
      · rename_i y hy
        cases hx with
        | agg _ us hl hfl hh =>
          obtain ⟨r, g1, g2⟩ := part_rel hC ⟨hl, hfl, hh⟩ h
          exact ⟨r, by simp [Instr.index, asIntOf, r_under hu, hn, (hC.ty el y hy).run_size, g1], g2⟩
      · cases h
    · cases h
  · cases h

theorem bound_rel {x : Option V} {u : Option Value} (hx : ∀ v, x = some v → ∃ u', u = some u' ∧ VRel K w v u') (hn : x = none → u = none) {d m r : Nat} (h : bound x d m = some r) (hd : x = none → d ≤ m) :
    (x = none ∧ u = none ∧ r = d) ∨ (∃ v k n, x = some v ∧ u = some (.int k n) ∧ 0 ≤ n ∧ n ≤ m ∧ r = n.toNat) := by
  unfold bound at h
  split at h
  · simp at h; exact .inl ⟨rfl, hn rfl, h.symm⟩
  · rename_i k n
    split at h
    · rename_i hh
      simp at h
      obtain ⟨u', rfl, h2⟩ := hx _ rfl
      cases h2
      exact .inr ⟨_, k, n, rfl, rfl, hh.1, hh.2, h.symm⟩
    · cases h
  · cases h

/-- How the machine's bounds stand to the evaluator's, the capacity at least what the evaluator takes it for. -/
theorem sliceBounds_rel {isSlice : Bool} {len cap c0 : Nat} {lo hi mx : Option V} {ulo uhi umx : Option Value}
    (hlo : ∀ v, lo = some v → ∃ u', ulo = some u' ∧ VRel K w v u') (nlo : lo = none → ulo = none)
    (hhi : ∀ v, hi = some v → ∃ u', uhi = some u' ∧ VRel K w v u') (nhi : hi = none → uhi = none)
    (hmx : ∀ v, mx = some v → ∃ u', umx = some u' ∧ VRel K w v u') (nmx : mx = none → umx = none)
    {m h l : Nat} (hc : len ≤ cap) (h1 : bound mx len len = some m) (h2 : bound hi len m = some h) (h3 : bound lo 0 h = some l) (hmh : mx ≠ none → hi ≠ none) :
    ∃ M, (Instr.sliceBounds isSlice len cap ulo uhi umx).run P w = .ok (l, h, M) w ∧ m ≤ M ∧ M ≤ cap ∧ l ≤ h ∧ h ≤ m ∧ m ≤ len := by
  have b1 := bound_rel hmx nmx h1 (fun _ => Nat.le_refl _)
  rcases b1 with ⟨rfl, rfl, rfl⟩ | ⟨vm, km, nm, rfl, rfl, m0, m1, rfl⟩
  · have b2 := bound_rel hhi nhi h2 (fun _ => Nat.le_refl _)
    rcases b2 with ⟨rfl, rfl, rfl⟩ | ⟨vh, kh, nh, rfl, rfl, e0, e1, rfl⟩
    · have b3 := bound_rel hlo nlo h3 (fun _ => Nat.zero_le _)
      rcases b3 with ⟨rfl, rfl, rfl⟩ | ⟨vl, kl, nl, rfl, rfl, l0, l1, rfl⟩
      · exact ⟨cap, by simp [Instr.sliceBounds], hc, Nat.le_refl _, Nat.zero_le _, Nat.le_refl _, Nat.le_refl _⟩
      · exact ⟨cap, by simp [Instr.sliceBounds, Instr.sliceBound, asIntOf, l0, l1], hc, Nat.le_refl _, by omega, Nat.le_refl _, Nat.le_refl _⟩
    · have e2 : nh ≤ (cap : Int) := by omega
      have b3 := bound_rel hlo nlo h3 (fun _ => Nat.zero_le _)
      rcases b3 with ⟨rfl, rfl, rfl⟩ | ⟨vl, kl, nl, rfl, rfl, l0, l1, rfl⟩
      · exact ⟨cap, by simp [Instr.sliceBounds, Instr.sliceBound, asIntOf, e0, e2], hc, Nat.le_refl _, Nat.zero_le _, by omega, Nat.le_refl _⟩
      · have l2 : nl ≤ max nh 0 := by omega
        exact ⟨cap, by simp [Instr.sliceBounds, Instr.sliceBound, asIntOf, e0, e2, l0, l2], hc, Nat.le_refl _, by omega, by omega, Nat.le_refl _⟩
  · have m2 : nm ≤ (cap : Int) := by omega
    have b2 := bound_rel hhi nhi h2 (fun q => absurd q (hmh (by simp)))
    rcases b2 with ⟨rfl, rfl, rfl⟩ | ⟨vh, kh, nh, rfl, rfl, e0, e1, rfl⟩
    · exact absurd rfl (hmh (by simp))
    · have e2 : nh ≤ max nm 0 := by omega
      have b3 := bound_rel hlo nlo h3 (fun _ => Nat.zero_le _)
      rcases b3 with ⟨rfl, rfl, rfl⟩ | ⟨vl, kl, nl, rfl, rfl, l0, l1, rfl⟩
      · exact ⟨nm.toNat, by simp [Instr.sliceBounds, Instr.sliceBound, asIntOf, e0, e2, m0, m2], Nat.le_refl _, by omega, Nat.zero_le _, by omega, by omega⟩
      · have l2 : nl ≤ max nh 0 := by omega
        exact ⟨nm.toNat, by simp [Instr.sliceBounds, Instr.sliceBound, asIntOf, e0, e2, m0, m2, l0, l2], Nat.le_refl _, by omega, by omega, by omega, by omega⟩

theorem lit_cut {xs : List V} {b o cap : Nat} (h : VRel K w (.lit xs) (.slice (some ⟨b, o, none⟩) xs.length cap)) {l h' M sz : Nat} (hsz : ∀ x ∈ xs, x.cells.length = sz) (hlh : l ≤ h') (hl : h' ≤ xs.length) (hM : h' ≤ M) :
    VRel K w (.lit ((xs.take h').drop l)) (.slice (if M = l then some ⟨b, o, none⟩ else some ⟨b, o + l * sz, none⟩) (h' - l) (M - l)) := by
  have hlen : ((xs.take h').drop l).length = h' - l := by simp; omega
  by_cases hz : h' = l
  · have : (xs.take h').drop l = [] := List.eq_nil_of_length_eq_zero (by omega)
    rw [this, hz, Nat.sub_self]
    exact .lit0 _ _
  · have hMl : ¬ M = l := by omega
    rw [if_neg hMl]
    cases h with
    | lit0 => simp at hl; omega
    | lit _ _ _ sz' _ vals hb hc hxs hcell hrel =>
      have hpos : 0 < xs.length := by omega
      have e : sz' = sz := by
        rw [← (hxs _ (List.getElem_mem hpos)).1]; exact hsz _ (List.getElem_mem hpos)
      subst e
      have hg : ∀ i x, ((xs.take h').drop l)[i]? = some x → xs[l + i]? = some x := by
        intro i x hx
        rw [List.getElem?_drop, List.getElem?_take] at hx
        split at hx
        · exact hx
        · cases hx
      have := VRel.lit (K := K) (w := w) ((xs.take h').drop l) b (o + l * sz') sz' (M - l) (fun i j => vals (l + i) j) hb (by omega)
        (fun x hx => hxs x (List.mem_of_mem_take (List.mem_of_mem_drop hx)))
        (fun i x j c h1 h2 => by
          have := hcell (l + i) x j c (hg i x h1) h2
          rw [Nat.add_mul, ← Nat.add_assoc] at this
          exact this)
        (fun i x j c h1 h2 => hrel (l + i) x j c (hg i x h1) h2)
      rw [hlen] at this
      exact this

theorem sliceOp_rel (hC : CfgOk C P) {t : TypeId} {x v : V} {u : Value} {lo hi mx : Option V} {ulo uhi umx : Option Value} (hx : VRel K w x u)
    (hlo : ∀ v, lo = some v → ∃ u', ulo = some u' ∧ VRel K w v u') (nlo : lo = none → ulo = none)
    (hhi : ∀ v, hi = some v → ∃ u', uhi = some u' ∧ VRel K w v u') (nhi : hi = none → uhi = none)
    (hmx : ∀ v, mx = some v → ∃ u', umx = some u' ∧ VRel K w v u') (nmx : mx = none → umx = none)
    (h : sliceOp C t x lo hi mx = some v) :
    ∃ r, (Instr.sliceAt t u ulo uhi umx).run P w = .ok r w ∧ VRel K w v r := by
  unfold sliceOp at h
  split at h
  · cases h
  · rename_i hmh
    have hmh' : mx ≠ none → hi ≠ none := by
      intro h1 h2
      apply hmh
      cases mx <;> simp_all
    split at h
    · rename_i y hy
      have hyo := hC.ty t y hy
      split at h
      · rename_i k x' str hk
        have hu := hyo.st hk
        cases hx
        split at h
        · rename_i q h' hh
          split at h
          · rename_i l hl
            simp at h; subst h
            obtain rfl := nmx rfl
            obtain ⟨M, hr, _⟩ := sliceBounds_rel (P := P) (w := w) (isSlice := false) (c0 := 0) hlo nlo hhi nhi hmx nmx (Nat.le_refl str.size) rfl hh hl (by simp)
            exact ⟨_, by simp [Instr.sliceAt, Instr.slice, r_under hu, hr], .str _⟩
          · cases h
        · cases h
      · rename_i k x' el xs hk
        have hu := hyo.sl hk
        split at h
        · rename_i y2 hy2
          have hyo2 := hC.ty el y2 hy2
          split at h
          · rename_i m hm
            split at h
            · rename_i h' hh
              split at h
              · rename_i l hl
                split at h
                · rename_i hall
                  simp at h; subst h
                  have hsz : ∀ x ∈ xs, x.cells.length = y2.size := by
                    intro x hxm
                    have := List.all_eq_true.1 hall x hxm
                    simpa using this
                  have hgen : ∀ (ad : Option Addr) (cap : Nat), xs.length ≤ cap → u = .slice ad xs.length cap → (ad = none → xs = []) → (∀ A, ad = some A → xs ≠ [] → A.spot = none) → ∃ r, (Instr.sliceAt t u ulo uhi umx).run P w = .ok r w ∧ VRel K w (.lit ((xs.take h').drop l)) r := by
                    intro ad cap hcap he hn0 hsp
                    obtain ⟨M, hr, hM1, hM2, hM3, hM4, hM5⟩ := sliceBounds_rel (P := P) (w := w) (isSlice := true) (c0 := 0) hlo nlo hhi nhi hmx nmx hcap hm hh hl hmh'
                    refine ⟨.slice (if M = l then ad else ad.map (·.add (l * y2.size))) (h' - l) (M - l), by subst he; simp [Instr.sliceAt, Instr.slice, r_under hu, hr, hyo2.run_size], ?_⟩
                    by_cases hxe : xs = []
                    · subst hxe
                      simp only [List.take_nil, List.drop_nil]
                      simp at hM5
                      subst hM5
                      obtain rfl : h' = 0 := by omega
                      obtain rfl : l = 0 := by omega
                      exact .lit0 _ _
                    · cases ad with
                      | none => exact absurd (hn0 rfl) hxe
                      | some A =>
                        obtain ⟨b, o, sp⟩ := A
                        have := hsp _ rfl hxe
                        simp only at this
                        subst this
                        subst he
                        have := lit_cut hx (l := l) (h' := h') (M := M) hsz hM3 (by omega) (by omega)
                        simpa [addr_add] using this
                  cases hx with
                  | lit0 ad cap => exact hgen ad cap (by simp) rfl (fun _ => rfl) (fun _ _ h => absurd rfl h)
                  | lit _ b o sz cap vals hb hc hxs hcell hrel => exact hgen _ cap hc rfl (by simp) (fun A hA _ => by simp at hA; subst hA; rfl)
                · cases h
              · cases h
            · cases h
          · cases h
        · cases h
      · rename_i k x' el id ver sz off len hk
        have hu := hyo.sl hk
        split at h
        · rename_i y2 hy2
          have hyo2 := hC.ty el y2 hy2
          split at h
          · rename_i m hm
            split at h
            · rename_i h' hh
              split at h
              · rename_i l hl
                split at h
                · rename_i hsz
                  simp at h; subst h
                  cases hx with
                  | ref _ _ _ _ _ T ad cap hT hal hv hz hle hc ha =>
                    obtain ⟨M, hr, hM1, hM2, hM3, hM4, hM5⟩ := sliceBounds_rel (P := P) (w := w) (isSlice := true) (c0 := 0) hlo nlo hhi nhi hmx nmx hle hm hh hl hmh'
                    refine ⟨.slice (if M = l then ad else ad.map (·.add (l * y2.size))) (h' - l) (M - l), by simp [Instr.sliceAt, Instr.slice, r_under hu, hr, hyo2.run_size], ?_⟩
                    refine .ref id ver sz _ _ T _ _ hT hal hv hz (by omega) (by omega) ?_
                    rcases ha with rfl | rfl
                    · by_cases hml : M = l
                      · exact .inr (by omega)
                      · refine .inl ?_
                        rw [if_neg hml]
                        simp only [Option.map_some, addr_add]
                        rw [Nat.add_mul, ← Nat.add_assoc, hz, hsz]
                    · exact .inr (by omega)
                  | refd _ _ _ _ _ ad cap hal hd hle ha =>
                    obtain ⟨M, hr, hM1, hM2, hM3, hM4, hM5⟩ := sliceBounds_rel (P := P) (w := w) (isSlice := true) (c0 := 0) hlo nlo hhi nhi hmx nmx hle hm hh hl hmh'
                    refine ⟨.slice (if M = l then ad else ad.map (·.add (l * y2.size))) (h' - l) (M - l), by simp [Instr.sliceAt, Instr.slice, r_under hu, hr, hyo2.run_size], ?_⟩
                    refine .refd id ver sz _ _ _ _ hal hd (by omega) fun h0 => ?_
                    obtain ⟨A, rfl⟩ := ha (by omega)
                    split
                    · exact ⟨_, rfl⟩
                    · exact ⟨_, rfl⟩
                · cases h
              · cases h
            · cases h
          · cases h
        · cases h
      · rename_i k x' el hk
        have hu := hyo.sl hk
        split at h
        · rename_i y2 hy2
          have hyo2 := hC.ty el y2 hy2
          split at h
          · rename_i m hm
            split at h
            · rename_i h' hh
              split at h
              · rename_i l hl
                simp at h; subst h
                cases hx with
                | nils ad =>
                  obtain ⟨M, hr, hM1, hM2, hM3, hM4, hM5⟩ := sliceBounds_rel (P := P) (w := w) (isSlice := true) (c0 := 0) hlo nlo hhi nhi hmx nmx (Nat.le_refl 0) hm hh hl hmh'
                  obtain rfl : M = 0 := by omega
                  obtain rfl : l = 0 := by omega
                  obtain rfl : h' = 0 := by omega
                  exact ⟨.slice ad 0 0, by simp [Instr.sliceAt, Instr.slice, r_under hu, hr, hyo2.run_size], .nils _⟩
              · cases h
            · cases h
          · cases h
        · cases h
      · cases h
    · cases h

theorem lenOp_rel (hC : CfgOk C P) {t ty : TypeId} {x v : V} {u : Value} (hx : VRel K w x u) (h : lenOp C t x = some v) :
    ∃ r, (Builtin.len_ #[t] ty #[u]).run P w = .ok r w ∧ VRel K w v r := by
  unfold lenOp at h
  split at h
  · rename_i y hy
    have hyo := hC.ty t y hy
    split at h
    · rename_i k x' str hk
      simp at h; subst h; cases hx
      exact ⟨_, by simp [Builtin.len_, r_under (hyo.st hk)]; rfl, .int _ _⟩
    · rename_i k x' el xs hk
      simp at h; subst h
      cases hx with
      | lit0 => exact ⟨_, by simp [Builtin.len_, r_under (hyo.sl hk)]; rfl, .int _ _⟩
      | lit => exact ⟨_, by simp [Builtin.len_, r_under (hyo.sl hk)]; rfl, .int _ _⟩
    · rename_i k x' el hk
      simp at h; subst h; cases hx
      exact ⟨_, by simp [Builtin.len_, r_under (hyo.sl hk)]; rfl, .int _ _⟩
    · rename_i k x' el id ver sz off len hk
      simp at h; subst h
      cases hx <;> exact ⟨_, by simp [Builtin.len_, r_under (hyo.sl hk)]; rfl, .int _ _⟩
    · rename_i k x' n el hk
      simp at h; subst h
      exact ⟨_, by simp [Builtin.len_, r_under (hyo.ar hk)]; rfl, .int _ _⟩
    · cases h
  · cases h

theorem capOp_rel (hC : CfgOk C P) {t ty : TypeId} {x v : V} {u : Value} (hx : VRel K w x u) (h : capOp C t x = some v) :
    ∃ r, (Builtin.cap_ #[t] ty #[u]).run P w = .ok r w ∧ VRel K w v r := by
  unfold capOp at h
  split at h
  · rename_i y hy
    have hyo := hC.ty t y hy
    split at h
    · rename_i k x' el hk
      simp at h; subst h; cases hx
      exact ⟨_, by simp [Builtin.cap_, r_under (hyo.sl hk)]; rfl, .int _ _⟩
    · cases h
  · cases h

theorem foldInt_rel (isMax : Bool) {k : IntKind} : ∀ (l : List V) (us : List Value) (n : Int) (v : V), LRel K w l us → foldInt (fun a b => if isMax then (if b > a then b else a) else (if b < a then b else a)) k n l = some v →
    ∃ r, (us.foldlM (if isMax then Builtin.max2 else Builtin.min2) (.int k n)).run P w = .ok r w ∧ VRel K w v r
  | [], [], n, v, _, h => by simp [foldInt] at h; subst h; exact ⟨_, rfl, .int _ _⟩
  | [], _ :: _, n, v, hl, h => absurd hl.1 (by simp)
  | _ :: _, [], n, v, hl, h => absurd hl.1 (by simp)
  | x :: l, u :: us, n, v, hl, h => by
    have hx := hl.head
    cases x <;> simp only [foldInt, reduceCtorEq] at h
    rename_i k' m
    split at h
    · rename_i hk
      subst hk
      cases hx
      obtain ⟨r, g1, g2⟩ := foldInt_rel isMax l us _ v hl.tail h
      refine ⟨r, ?_, g2⟩
      cases isMax <;> simp only [List.foldlM_cons, Sem.run_bind, if_true, if_false, Bool.false_eq_true, Builtin.max2, Builtin.min2, Sem.run_pure, Result.andThen_ok] at g1 ⊢ <;> exact g1
    · cases h

theorem splice_rel {cs xs : List V} {us vs : List Value} {off : Nat} (hc : CRel K w cs us) (hx : CRel K w xs vs) (hl : off + xs.length ≤ cs.length) :
    CRel K w (splice cs off xs) (us.take off ++ vs ++ us.drop (off + vs.length)) := by
  unfold splice
  have h1 : (cs.take off).length = off := by simp; omega
  have h2 : (us.take off).length = off := by simp; rw [← hc.1]; omega
  refine ⟨by simp [hc.1, hx.1], fun c hcm => ?_, fun i c u e1 e2 => ?_⟩
  · rcases List.mem_append.1 hcm with hcm | hcm
    · rcases List.mem_append.1 hcm with hcm | hcm
      · exact hc.2.1 c (List.mem_of_mem_take hcm)
      · exact hx.2.1 c hcm
    · exact hc.2.1 c (List.mem_of_mem_drop hcm)
  · rw [List.append_assoc] at e1 e2
    by_cases hi : i < off
    · rw [List.getElem?_append_left (by omega), List.getElem?_take, if_pos hi] at e1
      rw [List.getElem?_append_left (by omega), List.getElem?_take, if_pos hi] at e2
      exact hc.2.2 i c u e1 e2
    · rw [List.getElem?_append_right (by omega), h1] at e1
      rw [List.getElem?_append_right (by omega), h2] at e2
      by_cases hi2 : i - off < xs.length
      · rw [List.getElem?_append_left hi2] at e1
        rw [List.getElem?_append_left (by rw [← hx.1]; exact hi2)] at e2
        exact hx.2.2 _ c u e1 e2
      · rw [List.getElem?_append_right (by omega), List.getElem?_drop] at e1
        rw [List.getElem?_append_right (by rw [← hx.1]; omega), List.getElem?_drop, ← hx.1] at e2
        exact hc.2.2 _ c u e1 e2

/-- The machine's putting of cells. -/
theorem fold_splice : ∀ (vs : List Value) (cs : Array Value) (off k : Nat), off + k + vs.length ≤ cs.size →
    ((vs.zipIdx k).foldl (fun cs (x : Value × Nat) => cs.setIfInBounds (off + x.2) x.1) cs).toList = cs.toList.take (off + k) ++ vs ++ cs.toList.drop (off + k + vs.length)
  | [], cs, off, k, h => by simp
  | v :: r, cs, off, k, h => by
    simp only [List.length_cons] at h
    simp only [List.zipIdx_cons, List.foldl_cons]
    rw [fold_splice r _ off (k + 1) (by simp; omega)]
    have := list_seg_step cs.toList (off + k) v r (by simp; omega)
    simp only [Array.toList_setIfInBounds, List.length_cons]
    simpa [Nat.add_assoc] using this

theorem fill_rel (hC : CfgOk C P) {fs : List (Nat × TypeId)} {place : Nat → Option (Nat × Nat)}
    (hpl : ∀ i off ft y, fs[i]? = some (off, ft) → C.ty ft = some y → place i = some (off, y.size)) :
    ∀ (parts : List (Nat × V)) (us : List (Nat × Value)) (cs : List V) (zs : Array Value) (r : List V), parts.map (·.1) = us.map (·.1) → LRel K w (parts.map (·.2)) (us.map (·.2)) → CRel K w cs zs.toList →
      buildFill C fs cs parts = some r → ∃ q, Instr.fill place zs us = some q ∧ CRel K w r q.toList
  | [], [], cs, zs, r, _, _, hc, h => by simp [buildFill] at h; subst h; exact ⟨zs, rfl, hc⟩
  | [], _ :: _, _, _, _, h, _, _, _ => by simp at h
  | _ :: _, [], _, _, _, h, _, _, _ => by simp at h
  | (i, v) :: parts, (i', u) :: us, cs, zs, r, hi, hl, hc, h => by
    simp only [List.map_cons, List.cons.injEq] at hi
    obtain ⟨rfl, hi⟩ := hi
    simp only [buildFill] at h
    split at h
    · rename_i off ft hf
      split at h
      · rename_i y hy
        split at h
        · rename_i hb
          simp only [Bool.and_eq_true, decide_eq_true_eq] at hb
          obtain ⟨⟨hst, hsz⟩, hle⟩ := hb
          have hv := hl.head.cells hst
          have hlen : v.cells.length = u.cells.size := by simpa using hv.1
          have hzl : cs.length = zs.size := by simpa using hc.1
          have hfs := fold_splice u.cells.toList zs off 0 (by simp; omega)
          have hcr : CRel K w (splice cs off v.cells) ((u.cells.zipIdx.foldl (fun cs (x : Value × Nat) => cs.setIfInBounds (off + x.2) x.1) zs).toList) := by
            have e : u.cells.zipIdx.foldl (fun cs (x : Value × Nat) => cs.setIfInBounds (off + x.2) x.1) zs = (u.cells.toList.zipIdx 0).foldl (fun cs (x : Value × Nat) => cs.setIfInBounds (off + x.2) x.1) zs := by
              rw [← Array.foldl_toList, Array.toList_zipIdx]
            rw [e, hfs]
            simpa using splice_rel hc hv hle
          obtain ⟨q, g1, g2⟩ := fill_rel hC hpl parts us _ _ r hi hl.tail hcr h
          refine ⟨q, ?_, g2⟩
          simp only [Instr.fill, hpl i off ft y hf hy]
          rw [if_neg (by simp; omega)]
          exact g1
        · cases h
      · cases h
    · cases h

theorem build_rel (hC : CfgOk C P) {t : TypeId} {parts : List (Nat × V)} {us : List (Nat × Value)} {v : V} (hi : parts.map (·.1) = us.map (·.1)) (hl : LRel K w (parts.map (·.2)) (us.map (·.2)))
    (h : build C t parts = some v) : ∃ r, (Instr.build t us.toArray).run P w = .ok r w ∧ VRel K w v r := by
  unfold build at h
  split at h
  · rename_i y hy
    have hyo := hC.ty t y hy
    split at h
    · rename_i fs hk
      simp only [Option.map_eq_some_iff] at h
      obtain ⟨cs, hcs, rfl⟩ := h
      obtain ⟨fields, hu, hfs, hinf⟩ := hyo.struct hk
      obtain ⟨inf, d, z, h1, h2, h3, h4, h5, h6, h7, h8, h9⟩ := hyo.ex
      have hpm : ∀ (l : List Field), (∀ f ∈ l, ((P.info? f.type).isSome) = true) → l.mapM (fun f => (P.info? f.type).map fun i => (f.offset, i.size)) = some (l.map fun f => (f.offset, P.cellsOf f.type)) := by
        intro l
        induction l with
        | nil => intro _; rfl
        | cons f r ih =>
          intro hl'
          obtain ⟨j, hj⟩ := Option.isSome_iff_exists.1 (hl' f (by simp))
          simp [List.mapM_cons, hj, ih fun x hx => hl' x (by simp [hx]), Program.cellsOf]
      obtain ⟨q, g1, g2⟩ := fill_rel hC (fs := fs) (place := fun i => (fields.toList.map fun f => (f.offset, P.cellsOf f.type))[i]?) (fun i off ft y2 e1 e2 => by
        rw [hfs, List.getElem?_map] at e1
        rw [List.getElem?_map]
        cases hq : fields.toList[i]? with
        | none => simp [hq] at e1
        | some fd =>
          simp [hq] at e1
          obtain ⟨rfl, rfl⟩ := e1
          simp [(hC.ty _ y2 e2).cells]) parts us y.zero z.cells cs hi hl (h8 K w) hcs
      refine ⟨.agg q, ?_, ?_⟩
      · refine run_build w t us.toArray q ?_
        simp only [Program.built, h1, hu, h6, hpm _ hinf]
        have e : (fun (x : Nat) => (fields.toList.map fun f => (f.offset, P.cellsOf f.type)).toArray[x]?) = (fun (i : Nat) => (fields.toList.map fun f => (f.offset, P.cellsOf f.type))[i]?) := by funext x; simp
        rw [e]
        exact g1
      · have := VRel.agg (K := K) (w := w) cs q.toList g2.1 g2.2.1 g2.2.2
        simpa using this
    · cases h
  · cases h
end
end Go.Ilv
