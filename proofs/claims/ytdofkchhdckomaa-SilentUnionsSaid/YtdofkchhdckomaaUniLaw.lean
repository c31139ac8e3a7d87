/- The plain law of the union of two lists of numbers: ascending, each once. -/
import Derived.Test.YtdofkchhdckomaaIlvSort
import Derived.Lib.SlicesCompact
set_option linter.unusedVariables false
namespace Go.Ilv
open Go Go.Lib

theorem compactUpTo_spec (d : Array Int) (hs : ∀ i j, i ≤ j → j < d.size → d[i]! ≤ d[j]!) : ∀ m, m ≤ d.size →
    (compactUpTo d m).Pairwise (· < ·) ∧ (∀ x ∈ compactUpTo d m, ∃ j, j < m ∧ d[j]! = x) ∧ (∀ j, j < m → d[j]! ∈ compactUpTo d m) := by
  intro m
  induction m with
  | zero => intro _; exact ⟨by simp [compactUpTo], by simp [compactUpTo], fun j h => by omega⟩
  | succ m ih =>
    intro hm
    obtain ⟨h1, h2, h3⟩ := ih (by omega)
    rw [compactUpTo_succ]
    cases hk : keeps d m with
    | true =>
      simp only [if_true]
      refine ⟨?_, ?_, ?_⟩
      · rw [List.pairwise_append]
        refine ⟨h1, by simp, ?_⟩
        intro x hx y hy
        obtain ⟨j, hj, rfl⟩ := h2 x hx
        obtain rfl := List.mem_singleton.1 hy
        have hle := hs j (m - 1) (by omega) (by omega)
        have hle2 := hs (m - 1) m (by omega) (by omega)
        have hne : d[m]! ≠ d[m - 1]! := by
          simp only [keeps, decide_eq_true_eq] at hk
          rcases hk with h | h
          · omega
          · exact h
        omega
      · intro x hx
        rcases List.mem_append.1 hx with hx | hx
        · obtain ⟨j, hj, e⟩ := h2 x hx; exact ⟨j, by omega, e⟩
        · obtain rfl := List.mem_singleton.1 hx; exact ⟨m, by omega, rfl⟩
      · intro j hj
        rcases Nat.lt_or_ge j m with h | h
        · exact List.mem_append_left _ (h3 j h)
        · obtain rfl : j = m := by omega
          exact List.mem_append_right _ (by simp)
    | false =>
      simp only [Bool.false_eq_true, if_false, List.append_nil]
      refine ⟨h1, fun x hx => ?_, ?_⟩
      · obtain ⟨j, hj, e⟩ := h2 x hx; exact ⟨j, by omega, e⟩
      · intro j hj
        rcases Nat.lt_or_ge j m with h | h
        · exact h3 j h
        · obtain rfl : j = m := by omega
          simp only [keeps, decide_eq_false_iff_not, not_or, Classical.not_not] at hk
          rw [hk.2]
          exact h3 (j - 1) (by omega)
def uni (xs ys : List Int) : List Int := compact (sortZ (xs ++ ys))
theorem sorted_get (zs : List Int) (i j : Nat) (hij : i ≤ j) (hj : j < (sortZ zs).toArray.size) : (sortZ zs).toArray[i]! ≤ (sortZ zs).toArray[j]! := by
  have hp : (sortZ zs).Pairwise fun a b => decide (a ≤ b) = true := List.pairwise_mergeSort (fun a b c h1 h2 => by simp at *; omega) (fun a b => by simp; omega) zs
  have hj' : j < (sortZ zs).length := by simpa using hj
  rw [getElem!_pos _ i (by simpa using Nat.lt_of_le_of_lt hij hj'), getElem!_pos _ j hj]
  rcases Nat.eq_or_lt_of_le hij with rfl | h
  · exact Int.le_refl _
  · have := List.pairwise_iff_getElem.1 hp i j (by omega) hj' h
    simpa using this
theorem uni_spec (xs ys : List Int) : (uni xs ys).Pairwise (· < ·) ∧ (∀ x, x ∈ uni xs ys ↔ x ∈ xs ∨ x ∈ ys) := by
  obtain ⟨h1, h2, h3⟩ := compactUpTo_spec (sortZ (xs ++ ys)).toArray (fun i j => sorted_get _ i j) (sortZ (xs ++ ys)).length (by simp)
  have hm : ∀ x, x ∈ sortZ (xs ++ ys) ↔ x ∈ xs ∨ x ∈ ys := fun x => by rw [sortZ, List.mem_mergeSort, List.mem_append]
  refine ⟨h1, fun x => ⟨fun hx => ?_, fun hx => ?_⟩⟩
  · obtain ⟨j, hj, e⟩ := h2 x hx
    rw [getElem!_pos _ j (by simpa using hj)] at e
    rw [← hm, ← e]
    simp
  · rw [← hm] at hx
    obtain ⟨j, hj, e⟩ := List.getElem_of_mem hx
    have := h3 j hj
    rw [getElem!_pos _ j (by simpa using hj)] at this
    simp only [List.getElem_toArray, e] at this
    exact this
end Go.Ilv
