/-
  Plain facts on rows' edges: sorted numbers, each once.
-/
import Derived.Lib.SlicesCompact
namespace Go.Proofs.YtbfefkhejknmoaaGreatDoor

/-- of numbers that rise, each once: they rise strictly, and are the same. -/
theorem compact_rises {zs : List Int} (h : zs.Pairwise (· ≤ ·)) : (Lib.compact zs).Pairwise (· < ·) ∧ ∀ y, y ∈ Lib.compact zs ↔ y ∈ zs := by
  have hg : ∀ i j (_ : i < zs.length) (_ : j < zs.length), i ≤ j → zs[i] ≤ zs[j] := fun i j hi hj hij => by
    rcases Nat.lt_or_ge i j with h1 | h1
    · exact List.pairwise_iff_getElem.1 h i j hi hj h1
    · obtain rfl : i = j := by omega
      exact Int.le_refl _
  unfold Lib.compact Lib.compactUpTo
  constructor
  · rw [List.pairwise_map]
    have hr : ((List.range zs.length).filter (Lib.keeps zs.toArray)).Pairwise (· < ·) := List.Pairwise.filter _ List.pairwise_lt_range
    refine List.Pairwise.imp_of_mem (fun {i j} hi hj hij => ?_) hr
    simp only [List.mem_filter, List.mem_range] at hi hj
    have hk := hj.2
    simp only [Lib.keeps, decide_eq_true_eq] at hk
    have e1 : zs.toArray[i]! = zs[i] := by rw [getElem!_pos _ i (by simpa using hi.1)]; simp
    have e2 : zs.toArray[j]! = zs[j] := by rw [getElem!_pos _ j (by simpa using hj.1)]; simp
    have e3 : zs.toArray[j - 1]! = zs[j - 1]'(by omega) := by rw [getElem!_pos _ (j - 1) (by simp; omega)]; simp
    rw [e1, e2]
    rw [e2, e3] at hk
    have h1 := hg i (j - 1) hi.1 (by omega) (by omega)
    have h2 := hg (j - 1) j (by omega) hj.1 (by omega)
    rcases hk with hk | hk
    · omega
    · have : zs[j] ≠ zs[j - 1]'(by omega) := hk
      omega
  · intro y
    simp only [List.mem_map, List.mem_filter, List.mem_range]
    constructor
    · rintro ⟨i, ⟨hi, _⟩, rfl⟩
      rw [getElem!_pos _ i (by simpa using hi)]
      simp
    · intro hy
      obtain ⟨i, hi, rfl⟩ := List.getElem_of_mem hy
      have key : ∀ k, ∀ hk : k < zs.length, ∃ q, (q < zs.length ∧ Lib.keeps zs.toArray q = true) ∧ zs.toArray[q]! = zs[k] := by
        intro k
        induction k with
        | zero =>
          intro hk
          exact ⟨0, ⟨hk, by simp [Lib.keeps]⟩, by rw [getElem!_pos _ 0 (by simpa using hk)]; simp⟩
        | succ k ih =>
          intro hk
          by_cases hne : zs[k + 1] = zs[k]
          · obtain ⟨q, h1, h2⟩ := ih (by omega)
            exact ⟨q, h1, h2.trans hne.symm⟩
          · refine ⟨k + 1, ⟨hk, ?_⟩, by rw [getElem!_pos _ (k + 1) (by simpa using hk)]; simp⟩
            simp only [Lib.keeps, decide_eq_true_eq]
            right
            rw [getElem!_pos _ (k + 1) (by simpa using hk), getElem!_pos _ (k + 1 - 1) (by simp; omega)]
            simpa using hne
      exact key i hi

end Go.Proofs.YtbfefkhejknmoaaGreatDoor
