/-
  Plain facts of the document's edges: numbers that rise, each once.
-/
import Derived.Test.YtcdecglbkcllaaaBandWalkC
namespace Go.Proofs.Ytcdecglbkcllaaa

/-- a number into a list that rises, once. -/
def putL : List Int → Int → List Int
  | [], n => [n]
  | a :: l, n => if n < a then n :: a :: l else if n = a then a :: l else a :: putL l n
theorem mem_putL (l : List Int) (n x : Int) : x ∈ putL l n ↔ x = n ∨ x ∈ l := by
  induction l with
  | nil => simp [putL]
  | cons a l ih =>
    unfold putL
    split
    · simp
    · split
      · rename_i h; subst h; simp
      · simp only [List.mem_cons, ih]
        constructor
        · rintro (h | h | h)
          · exact .inr (.inl h)
          · exact .inl h
          · exact .inr (.inr h)
        · rintro (h | h | h)
          · exact .inr (.inl h)
          · exact .inl h
          · exact .inr (.inr h)
theorem putL_rise {l : List Int} (n : Int) (h : l.Pairwise (· < ·)) : (putL l n).Pairwise (· < ·) := by
  induction l with
  | nil => simp [putL]
  | cons a l ih =>
    obtain ⟨h1, h2⟩ := List.pairwise_cons.1 h
    unfold putL
    split
    · rename_i hn
      refine List.pairwise_cons.2 ⟨fun x hx => ?_, h⟩
      rcases List.mem_cons.1 hx with rfl | hx
      · exact hn
      · have := h1 x hx; omega
    · split
      · exact h
      · refine List.pairwise_cons.2 ⟨fun x hx => ?_, ih h2⟩
        rcases (mem_putL l n x).1 hx with rfl | hx
        · omega
        · exact h1 x hx
theorem putL_len (l : List Int) (n : Int) : (putL l n).length ≤ l.length + 1 := by
  induction l with
  | nil => simp [putL]
  | cons a l ih =>
    unfold putL
    split
    · simp
    · split
      · simp
      · simp; omega
/-- how the document's put finds the place: from the end. -/
theorem putL_split {l1 l2 : List Int} {n : Int} (h1 : ∀ x ∈ l1, x < n) (h2 : ∀ x ∈ l2, n < x) : putL (l1 ++ l2) n = l1 ++ n :: l2 := by
  induction l1 with
  | nil =>
    cases l2 with
    | nil => rfl
    | cons a l =>
      have := h2 a (by simp)
      simp [putL, this]
  | cons a l1 ih =>
    have ha := h1 a (by simp)
    simp only [List.cons_append]
    unfold putL
    rw [if_neg (by omega), if_neg (by omega), ih (fun x hx => h1 x (by simp [hx]))]
theorem putL_there {l : List Int} {n : Int} (h : l.Pairwise (· < ·)) (hn : n ∈ l) : putL l n = l := by
  induction l with
  | nil => simp at hn
  | cons a l ih =>
    obtain ⟨h1, h2⟩ := List.pairwise_cons.1 h
    unfold putL
    rcases List.mem_cons.1 hn with rfl | hn
    · rw [if_neg (by omega), if_pos rfl]
    · have := h1 n hn
      rw [if_neg (by omega), if_neg (by omega), ih h2 hn]

/-- the edges of the rectangles that count, across; down. -/
def xsR (l : List RC) : List Int := l.foldl (fun s r => if r.cnt then putL (putL s r.X) (r.X + r.W) else s) []
def ysR (l : List RC) : List Int := l.foldl (fun s r => if r.cnt then putL (putL s r.Y) (r.Y + r.H) else s) []
theorem xsR_snoc (l : List RC) (r : RC) : xsR (l ++ [r]) = if r.cnt then putL (putL (xsR l) r.X) (r.X + r.W) else xsR l := by simp [xsR]
theorem ysR_snoc (l : List RC) (r : RC) : ysR (l ++ [r]) = if r.cnt then putL (putL (ysR l) r.Y) (r.Y + r.H) else ysR l := by simp [ysR]
theorem snocIndR {α : Type} {p : List α → Prop} (h0 : p []) (h1 : ∀ l a, p l → p (l ++ [a])) (l : List α) : p l := by
  have : ∀ r : List α, p r.reverse := fun r => by
    induction r with
    | nil => exact h0
    | cons a r ih => rw [List.reverse_cons]; exact h1 _ _ ih
  have h := this l.reverse
  rwa [List.reverse_reverse] at h
theorem xsR_ok (l : List RC) : (xsR l).Pairwise (· < ·) ∧ ∀ x, x ∈ xsR l ↔ ∃ r ∈ l, r.cnt = true ∧ (x = r.X ∨ x = r.X + r.W) := by
  refine snocIndR (p := fun l => (xsR l).Pairwise (· < ·) ∧ ∀ x, x ∈ xsR l ↔ ∃ r ∈ l, r.cnt = true ∧ (x = r.X ∨ x = r.X + r.W)) ⟨by simp [xsR], by simp [xsR]⟩ (fun l r ih => ?_) l
  obtain ⟨i1, i2⟩ := ih
  rw [xsR_snoc]
  cases hc : r.cnt
  · refine ⟨i1, fun x => ?_⟩
    rw [if_neg (by decide), i2]
    constructor
    · rintro ⟨q, hq, h⟩; exact ⟨q, by simp [hq], h⟩
    · rintro ⟨q, hq, h1, h2⟩
      rcases List.mem_append.1 hq with hq | hq
      · exact ⟨q, hq, h1, h2⟩
      · simp only [List.mem_singleton] at hq
        subst hq
        rw [hc] at h1
        cases h1
  · rw [if_pos rfl]
    refine ⟨putL_rise _ (putL_rise _ i1), fun x => ?_⟩
    rw [mem_putL, mem_putL, i2]
    constructor
    · rintro (h | h | ⟨q, hq, h⟩)
      · exact ⟨r, by simp, hc, .inr h⟩
      · exact ⟨r, by simp, hc, .inl h⟩
      · exact ⟨q, by simp [hq], h⟩
    · rintro ⟨q, hq, h1, h2⟩
      rcases List.mem_append.1 hq with hq | hq
      · exact .inr (.inr ⟨q, hq, h1, h2⟩)
      · simp only [List.mem_singleton] at hq
        subst hq
        rcases h2 with h2 | h2
        · exact .inr (.inl h2)
        · exact .inl h2
theorem ysR_ok (l : List RC) : (ysR l).Pairwise (· < ·) ∧ ∀ y, y ∈ ysR l ↔ ∃ r ∈ l, r.cnt = true ∧ (y = r.Y ∨ y = r.Y + r.H) := by
  have e : ysR l = xsR (l.map fun r => ⟨r.Y, r.X, r.H, r.W⟩) := by
    have hs : ∀ r : RC, (⟨r.Y, r.X, r.H, r.W⟩ : RC).cnt = r.cnt := fun r => by simp [RC.cnt, Bool.and_comm]
    simp only [ysR, xsR, List.foldl_map, hs]
  rw [e]
  obtain ⟨h1, h2⟩ := xsR_ok (l.map fun r => ⟨r.Y, r.X, r.H, r.W⟩)
  refine ⟨h1, fun y => ?_⟩
  rw [h2]
  have hs : ∀ r : RC, (⟨r.Y, r.X, r.H, r.W⟩ : RC).cnt = r.cnt := fun r => by simp [RC.cnt, Bool.and_comm]
  constructor
  · rintro ⟨q, hq, h3, h4⟩
    obtain ⟨r, hr, rfl⟩ := List.mem_map.1 hq
    rw [hs] at h3
    exact ⟨r, hr, h3, h4⟩
  · rintro ⟨r, hr, h3, h4⟩
    exact ⟨_, List.mem_map.2 ⟨r, hr, rfl⟩, by rw [hs]; exact h3, h4⟩

end Go.Proofs.Ytcdecglbkcllaaa
