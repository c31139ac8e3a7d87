/- The operations that leave the store as it is: addresses, parts, slices. -/
import Derived.Test.YtdofkchhdckomaaIlvOps2
set_option linter.unusedVariables false
set_option linter.unusedSimpArgs false
namespace Go.Ilv
open Go

section
variable {C : Cfg} {P : Program} {gl : Nat → Option (List V)} {K : Ctx} {s : St} {w : World} {e : Env} {a : Act}

theorem TyOk.cells {t : TypeId} {y : Ty} (h : TyOk P t y) : P.cellsOf t = y.size := by
  obtain ⟨i, d, z, h1, h2, _⟩ := h.ex
  simp [Program.cellsOf, h1, h2]
theorem TyOk.run_size {t : TypeId} {y : Ty} (h : TyOk P t y) : (sizeOf t).run P w = .ok y.size w := by
  obtain ⟨i, d, z, h1, h2, _⟩ := h.ex
  rw [r_size h1, h2]
theorem TyOk.under {t : TypeId} {y : Ty} (h : TyOk P t y) : ∃ d, P.underlying t = some d ∧ KOk P d y.kind := by
  obtain ⟨i, d, z, h1, h2, h3, h4, h5, _⟩ := h.ex
  exact ⟨d, h4, h5⟩
theorem TyOk.struct {t : TypeId} {y : Ty} (h : TyOk P t y) {fs} (hk : y.kind = .struct fs) : ∃ fields : Array Field, P.underlying t = some (.struct fields) ∧ fs = (fields.toList.map fun f => (f.offset, f.type)) ∧ ∀ f ∈ fields.toList, ((P.info? f.type).isSome) = true := by
  obtain ⟨d, h1, h2⟩ := h.under
  rw [hk] at h2
  obtain ⟨f, rfl, g⟩ := h2
  exact ⟨f, h1, g⟩
theorem TyOk.sl {t : TypeId} {y : Ty} (h : TyOk P t y) {el} (hk : y.kind = .slice el) : P.underlying t = some (.slice el) := by
  obtain ⟨d, h1, h2⟩ := h.under
  rw [hk] at h2
  rw [h1, h2]
theorem TyOk.ar {t : TypeId} {y : Ty} (h : TyOk P t y) {n el} (hk : y.kind = .arr n el) : P.underlying t = some (.array n el) := by
  obtain ⟨d, h1, h2⟩ := h.under
  rw [hk] at h2
  rw [h1, h2]
theorem TyOk.st {t : TypeId} {y : Ty} (h : TyOk P t y) (hk : y.kind = .str) : P.underlying t = some .string := by
  obtain ⟨d, h1, h2⟩ := h.under
  rw [hk] at h2
  rw [h1, h2]

/-- Going on within cells that nobody writes. -/
theorem cptr_drop {cs : List V} {u : Value} (h : VRel K w (.cptr cs) u) (off : Nat) : ∃ b o, u = .pointer (some ⟨b, o, none⟩) ∧ VRel K w (.cptr (cs.drop off)) (.pointer (some ⟨b, o + off, none⟩)) := by
  cases h with
  | cptr _ b o vals hb hn hcell hrel =>
    refine ⟨b, o, rfl, .cptr _ b (o + off) (fun j => vals (off + j)) hb (fun c hc => hn c (List.mem_of_mem_drop hc)) (fun j c h => ?_) (fun j c h => ?_)⟩
    · rw [List.getElem?_drop] at h
      rw [Nat.add_assoc]
      exact hcell _ c h
    · rw [List.getElem?_drop] at h
      exact hrel _ c h
theorem ptr_off {id ver idx o : Nat} {u : Value} (h : VRel K w (.ptr id ver idx o) u) (off : Nat) :
    ∃ ad : Addr, u = .pointer (some ad) ∧ VRel K w (.ptr id ver idx (o + off)) (.pointer (some (ad.add off))) := by
  cases h with
  | ptr _ _ _ _ T hT hal hv =>
    refine ⟨_, rfl, ?_⟩
    rw [addr_add, Nat.add_assoc]
    exact .ptr id ver idx (o + off) T hT hal hv
  | ptrd _ _ _ _ ad hal hd => exact ⟨ad, rfl, .ptrd id ver idx _ _ hal hd⟩

theorem fieldAddr_rel (hC : CfgOk C P) {t : TypeId} {x v : V} {u : Value} {f : Nat} (hx : VRel K w x u) (h : fieldAddr C t x f = some v) :
    ∃ r, (Instr.fieldAt t u f).run P w = .ok r w ∧ VRel K w v r := by
  unfold fieldAddr at h
  split at h
  · rename_i fs sz by_ zr hty
    obtain ⟨fields, hu, hfs, _⟩ := (hC.ty t _ hty).struct rfl
    split at h
    · rename_i off ft hf
      split at h
      · rename_i y hy
        have hyo := hC.ty ft y hy
        split at h
        · cases h
        · rename_i hsz
          have hfield : ∃ fd, fields[f]? = some fd ∧ fd.offset = off ∧ fd.type = ft := by
            rw [hfs, List.getElem?_map] at hf
            cases hq : fields.toList[f]? with
            | none => simp [hq] at hf
            | some fd => simp [hq] at hf; exact ⟨fd, by simpa using hq, hf.1, hf.2⟩
          obtain ⟨fd, hfd, rfl, rfl⟩ := hfield
          have hrun : ∀ ad : Addr, (Instr.fieldAt t (.pointer (some ad)) f).run P w = .ok (.pointer (some (ad.add fd.offset))) w := by
            intro ad
            simp [Instr.fieldAt, r_under hu, hfd, Instr.sureAddr, fieldPlace, hyo.run_size, hsz]
          split at h
          · simp at h; subst h
            obtain ⟨b, o, rfl, h2⟩ := cptr_drop hx fd.offset
            exact ⟨_, hrun _, by rw [addr_add]; exact h2⟩
          · simp at h; subst h
            obtain ⟨ad, rfl, h2⟩ := ptr_off hx fd.offset
            exact ⟨_, hrun _, h2⟩
          · cases h
      · cases h
    · cases h
  · cases h

theorem lit_cptr {xs : List V} {u : Value} {n : Nat} {x : V} (h : VRel K w (.lit xs) u) (hx : xs[n]? = some x) :
    ∃ b o cap, u = .slice (some ⟨b, o, none⟩) xs.length cap ∧ VRel K w (.cptr x.cells) (.pointer (some ⟨b, o + n * x.cells.length, none⟩)) ∧ x.storable = true := by
  cases h with
  | lit0 => simp at hx
  | lit _ b o sz cap vals hb hc hxs hcell hrel =>
    have hx' := hxs x (List.mem_of_getElem? hx)
    refine ⟨b, o, cap, rfl, ?_, hx'.2.1⟩
    rw [hx'.1]
    refine .cptr _ b _ (vals n) hb (fun c hc => ⟨?_, V.noIds_cells hx'.2.2 c hc⟩) (fun j c h => (hcell n x j c hx h).2) (fun j c h => hrel n x j c hx h)
    obtain ⟨j, hj⟩ := List.getElem?_of_mem hc
    exact (hcell n x j c hx hj).1

theorem indexAddr_rel (hC : CfgOk C P) {t : TypeId} {x i v : V} {u ui : Value} (hx : VRel K w x u) (hi : VRel K w i ui) (h : indexAddr C t x i = some v) :
    ∃ r, (Instr.indexAt t u ui).run P w = .ok r w ∧ VRel K w v r := by
  unfold indexAddr at h
  split at h
  · rename_i el sz by_ zr k n hty
    have hu := (hC.ty t _ hty).sl rfl
    cases hi
    split at h
    · rename_i y hy
      have hyo := hC.ty el y hy
      split at h
      · rename_i xs
        split at h
        · rename_i hn
          split at h
          · rename_i x' hx'
            split at h
            · rename_i hlen
              simp at h; subst h
              obtain ⟨b, o, cap, rfl, h2, _⟩ := lit_cptr hx hx'
              have hlt : n.toNat < xs.length := (List.getElem?_eq_some_iff.1 hx').1
              refine ⟨_, ?_, h2⟩
              have h3 : n < xs.length := by omega
              simp [Instr.indexAt, asIntOf, r_under hu, hn, h3, hyo.run_size, addr_add, hlen]
            · cases h
          · cases h
        · cases h
      · rename_i id ver sz' off len
        split at h
        · rename_i hn
          simp at h; subst h
          obtain ⟨hn0, hn1, rfl⟩ := hn
          have hlt : n.toNat < len := by omega
          cases hx with
          | refd _ _ _ _ _ ad cap hal hd hl h0 =>
            obtain ⟨ad, rfl⟩ := h0 (by omega)
            exact ⟨_, by simp [Instr.indexAt, asIntOf, r_under hu, hn0, hn1, hyo.run_size]; rfl, .ptrd _ _ _ _ _ hal hd⟩
          | ref _ _ _ _ _ T ad cap hT hal hv hz hl hc ha =>
            rcases ha with rfl | rfl
            · refine ⟨_, by simp [Instr.indexAt, asIntOf, r_under hu, hn0, hn1, hyo.run_size, addr_add]; rfl, ?_⟩
              have := VRel.ptr (w := w) (K := K) id ver (off + n.toNat) 0 T hT hal hv
              rw [Nat.add_mul, ← Nat.add_assoc, Nat.add_zero] at this
              rw [hz] at this ⊢
              exact this
            · omega
        · cases h
      · cases h
    · cases h
  · rename_i m el sz by_ zr k n hty
    have hu := (hC.ty t _ hty).ar rfl
    cases hi
    split at h
    · rename_i y hy
      have hyo := hC.ty el y hy
      split at h
      · rename_i hn
        have hrun : ∀ ad : Addr, (Instr.indexAt t (.pointer (some ad)) (.int k n)).run P w = .ok (.pointer (some (ad.add (n.toNat * y.size)))) w := by
          intro ad
          simp [Instr.indexAt, asIntOf, r_under hu, Instr.sureAddr, hn, hyo.run_size]
        split at h
        · simp at h; subst h
          obtain ⟨b, o, rfl, h2⟩ := cptr_drop hx (n.toNat * y.size)
          exact ⟨_, hrun _, by rw [addr_add]; exact h2⟩
        · simp at h; subst h
          obtain ⟨ad, rfl, h2⟩ := ptr_off hx (n.toNat * y.size)
          exact ⟨_, hrun _, h2⟩
        · cases h
      · cases h
    · cases h
  · cases h
end
end Go.Ilv
