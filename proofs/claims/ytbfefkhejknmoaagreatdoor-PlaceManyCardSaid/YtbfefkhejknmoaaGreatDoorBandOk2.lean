/-
  Plain facts on the rectangles that begin at an edge, one by one.
-/
import Derived.Test.YtbfefkhejknmoaaGreatDoorBandOk
namespace Go.Proofs.YtbfefkhejknmoaaGreatDoor

theorem newAt_pre (v : Int) (l : List RC) : ∃ post, newAt v l ++ post = l ∧ ∀ x, post[0]? = some x → x.Y ≠ v := by
  induction l with
  | nil => exact ⟨[], rfl, by simp⟩
  | cons r l ih =>
    by_cases h : r.Y = v
    · obtain ⟨post, h1, h2⟩ := ih
      have e : newAt v (r :: l) = r :: newAt v l := by simp [newAt, h]
      exact ⟨post, by rw [e, List.cons_append, h1], h2⟩
    · have e : newAt v (r :: l) = [] := by simp [newAt, h]
      refine ⟨r :: l, by rw [e]; rfl, fun x hx => ?_⟩
      simp at hx
      rw [← hx]
      exact h
theorem newAt_all (v : Int) (l : List RC) : ∀ r ∈ newAt v l, r.Y = v := fun r hr => by
  have := (List.all_eq_true.1 (List.all_takeWhile (p := fun r : RC => r.Y == v) (l := l))) r hr
  simpa using this
/-- the next one that begins here. -/
theorem newAt_at {al : List RC} {v : Int} {next j : Nat} (hj : j < (newAt v (al.drop next)).length) : ∃ x, al[next + j]? = some x ∧ x.Y = v ∧ (newAt v (al.drop next)).take (j + 1) = (newAt v (al.drop next)).take j ++ [x] := by
  obtain ⟨post, h1, _⟩ := newAt_pre v (al.drop next)
  have hall := newAt_all v (al.drop next)
  obtain ⟨nw, hnw⟩ : ∃ nw, newAt v (al.drop next) = nw := ⟨_, rfl⟩
  rw [hnw] at hj h1 hall ⊢
  have hx : nw[j]? = some nw[j] := List.getElem?_eq_getElem hj
  refine ⟨nw[j], ?_, hall _ (List.getElem_mem hj), by rw [List.take_add_one, hx]; rfl⟩
  rw [← List.getElem?_drop, ← h1, List.getElem?_append_left hj]
  exact hx
/-- the first one that does not. -/
theorem newAt_end {al : List RC} {v : Int} {next : Nat} {x : RC} (hx : al[next + (newAt v (al.drop next)).length]? = some x) : x.Y ≠ v := by
  obtain ⟨post, h1, h2⟩ := newAt_pre v (al.drop next)
  obtain ⟨nw, hnw⟩ : ∃ nw, newAt v (al.drop next) = nw := ⟨_, rfl⟩
  rw [hnw] at h1 hx
  refine h2 x ?_
  rw [← List.getElem?_drop, ← h1, List.getElem?_append_right (Nat.le_refl _), Nat.sub_self] at hx
  exact hx

end Go.Proofs.YtbfefkhejknmoaaGreatDoor
