/-
  Plain laws of Lost, twice.
-/
import Derived.Test.YtbkkecijcijhdaaGreatZFTFSetsW
section
namespace Go.Proofs.YtbkkecijcijhdaaGreat
open Go.RowKit Go.Maps Go.Shelf

theorem root_shows {l : List DW} (h : UpOk l) : shV37 (nodesW l) (bxS 8 8 l) 1 = true := by
  unfold shV37
  rw [hasN_root, vw_root (nodesW_ok h)]
  rfl
/-- a focus that was lost is lost no more. -/
theorem lost_twice {S : Int → Bool} (h1 : S 1 = true) (f : FC) (path p2 : List Int) {g : FC} {b : Bool} (h : lostF f S path = (g, b)) : lostF g S p2 = (g, false) := by
  have key : ∀ g : FC, g.W = 0 ∨ S g.W = true → lostF g S p2 = (g, false) := fun g hg => by unfold lostF; rw [if_pos hg]
  unfold lostF at h
  by_cases c0 : f.W = 0 ∨ S f.W = true
  · rw [if_pos c0] at h
    injection h with h2 _
    subst h2
    exact key _ c0
  · rw [if_neg c0] at h
    by_cases c1 : f.R = 1
    · rw [if_pos c1] at h
      injection h with h2 _
      subst h2
      exact key _ (.inr h1)
    · rw [if_neg c1] at h
      by_cases c2 : f.R = 2
      · rw [if_pos c2] at h
        injection h with h2 _
        subst h2
        refine key _ (.inr ?_)
        dsimp only
        cases hf : (path.drop 1).find? S with
        | none => exact h1
        | some x => exact List.find?_some hf
      · rw [if_neg c2] at h
        injection h with h2 _
        subst h2
        exact key _ (.inl rfl)
theorem lost_ok {S : Int → Bool} (f : FC) (hf : f.ok) (path : List Int) (hp : ∀ i ∈ path, 0 ≤ i ∧ i ≤ 4294967295) {g : FC} {b : Bool} (h : lostF f S path = (g, b)) : g.ok := by
  have e : (lostF f S path).1 = g := by rw [h]
  rw [← e]
  have h0 := hf
  unfold FC.ok at hf ⊢
  unfold lostF
  by_cases c0 : f.W = 0 ∨ S f.W = true
  · rw [if_pos c0]; exact hf
  · rw [if_neg c0]
    by_cases c1 : f.R = 1
    · rw [if_pos c1]; exact ⟨by dsimp only; decide, hf.2⟩
    · rw [if_neg c1]
      by_cases c2 : f.R = 2
      · rw [if_pos c2]
        refine ⟨?_, hf.2⟩
        dsimp only
        cases hq : (path.drop 1).find? S with
        | none => decide
        | some x => exact hp x (List.mem_of_mem_drop (List.mem_of_find?_eq_some hq))
      · rw [if_neg c2]; exact ⟨by dsimp only; decide, hf.2⟩
end Go.Proofs.YtbkkecijcijhdaaGreat
end
