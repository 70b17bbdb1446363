/-
  Plain facts on the rectangles that band.Of writes: they are of the places that count; how many there are.
-/
import Derived.Test.YtbfefkhejknmoaaGreatDoorBandWalkH
namespace Go.Proofs.YtbfefkhejknmoaaGreatDoor

theorem cnt_iff (r : RC) : r.cnt = true ↔ (-1048576 ≤ r.X ∧ 0 < r.W ∧ r.W ≤ 1048576 - r.X) ∧ (-1048576 ≤ r.Y ∧ 0 < r.H ∧ r.H ≤ 1048576 - r.Y) := by
  unfold RC.cnt
  rw [Bool.and_eq_true, fits_iff, fits_iff]
  omega
theorem cnt_ok {r : RC} (h : r.cnt = true) : r.ok := by
  have := (cnt_iff r).1 h
  unfold RC.ok
  omega
/-- a rectangle whose places count. -/
theorem ok_places {al : List RC} (hc : ∀ r ∈ al, r.cnt = true) {r : RC} (hw : 0 < r.W) (hh : 0 < r.H) (h1 : InR al r.X r.Y) (h2 : InR al (r.X + r.W - 1) (r.Y + r.H - 1)) : r.cnt = true := by
  obtain ⟨p, hp, a1, a2, a3, a4⟩ := h1
  obtain ⟨q, hq, b1, b2, b3, b4⟩ := h2
  have := (cnt_iff p).1 (hc p hp)
  have := (cnt_iff q).1 (hc q hq)
  exact (cnt_iff r).2 (by omega)
theorem canon_pos {l : List RC} (h : Canon l) : ∀ r ∈ l, 0 < r.W ∧ 0 < r.H := by
  obtain ⟨bs, rfl, g⟩ := h
  intro r hr
  obtain ⟨b, hb, hr⟩ := List.mem_flatMap.1 hr
  obtain ⟨s, hs, rfl⟩ := List.mem_map.1 hr
  have h1 := g.each b hb
  have h2 := h1.2.2.2 s hs
  exact ⟨by dsimp only; omega, h1.1⟩
theorem in_self {l : List RC} {r : RC} (hr : r ∈ l) (hw : 0 < r.W) (hh : 0 < r.H) : InR l r.X r.Y ∧ InR l (r.X + r.W - 1) (r.Y + r.H - 1) :=
  ⟨⟨r, hr, by omega, by omega, by omega, by omega⟩, ⟨r, hr, by omega, by omega, by omega, by omega⟩⟩
theorem canon_cnt {al l : List RC} (hc : ∀ r ∈ al, r.cnt = true) (h : Canon l) (hp : ∀ x y, InR l x y → InR al x y) : ∀ r ∈ l, r.cnt = true := fun r hr => by
  obtain ⟨h1, h2⟩ := canon_pos h r hr
  obtain ⟨h3, h4⟩ := in_self hr h1 h2
  exact ok_places hc h1 h2 (hp _ _ h3) (hp _ _ h4)

section
variable {al : List RC} {v u : Int} {out row row3 : List RC} {above next : Nat}
theorem OfInv.canon (I : OfInv al v out row above next) : Canon out := by
  obtain ⟨bs, h1, h2, _⟩ := I.bands
  exact ⟨bs, h1, h2⟩
/-- what is written so far counts. -/
theorem out_cnt (I : OfInv al v out row above next) (hc : ∀ r ∈ al, r.cnt = true) : ∀ r ∈ out, r.cnt = true :=
  canon_cnt hc I.canon (fun x y h => ((I.places x y).1 h).1)
/-- and so does a new band. -/
theorem band_cnt (I : OfInv al v out row above next) (hc : ∀ r ∈ al, r.cnt = true) (hsort : al.Pairwise (fun a b => a.Y ≤ b.Y)) (hvu : v < u) (hE : ∀ r ∈ al, (r.Y ≤ v ∨ u ≤ r.Y) ∧ (r.Y + r.H ≤ v ∨ u ≤ r.Y + r.H))
    (hp : ∀ r, r ∈ row3 ↔ r ∈ keepL v row ++ newAt v (al.drop next)) (hx : row3.Pairwise (fun a b => a.X ≤ b.X)) : ∀ r ∈ bandL v (u - v) (spansL row3), r.cnt = true := by
  have hcnt : ∀ r ∈ al, 0 < r.W ∧ 0 < r.H := fun r hr => by have := (cnt_iff r).1 (hc r hr); omega
  obtain ⟨s1, s2⟩ := round_places I hcnt hsort hE hp hx
  intro r hr
  have hr' := hr
  obtain ⟨s, hs, e⟩ := List.mem_map.1 hr'
  have h2 := s2.2 s hs
  have hw : 0 < r.W := by rw [← e]; dsimp only; omega
  have hh : 0 < r.H := by rw [← e]; dsimp only; omega
  obtain ⟨h3, h4⟩ := in_self hr hw hh
  have tow : ∀ x y, InR (bandL v (u - v) (spansL row3)) x y → InR al x y := fun x y h => by
    obtain ⟨a, b, c⟩ := (in_band _ _ _ _ _).1 h
    exact (s1 x y b (by omega)).1 a
  exact ok_places hc hw hh (tow _ _ h3) (tow _ _ h4)
end

theorem spansGo_len (l : List RC) : ∀ (f t : Int), (spansGo f t l).length ≤ l.length + 1 := by
  induction l with
  | nil => intro f t; simp [spansGo]
  | cons r l ih =>
    intro f t
    by_cases hle : r.X ≤ t
    · have e : spansGo f t (r :: l) = spansGo f (max t (r.X + r.W)) l := by simp [spansGo, hle]
      rw [e]
      have := ih f (max t (r.X + r.W))
      simp
      omega
    · have e : spansGo f t (r :: l) = (f, t) :: spansGo r.X (r.X + r.W) l := by simp [spansGo, hle]
      rw [e]
      have := ih r.X (r.X + r.W)
      simp
      omega
theorem spansL_len (l : List RC) : (spansL l).length ≤ l.length := by
  cases l with
  | nil => simp [spansL]
  | cons r l => exact spansGo_len l _ _
theorem keepL_len (y : Int) (l : List RC) : (keepL y l).length ≤ l.length := List.length_filter_le _ _
theorem newAt_len (v : Int) (l : List RC) : (newAt v l).length ≤ l.length := (List.takeWhile_prefix _).length_le

/-- the edges of a region that rise: between two neighbours there is none. -/
theorem edges_next {ys : List Int} (hs : ys.Pairwise (· < ·)) {k : Nat} {v u : Int} (hv : ys[k]? = some v) (hu : ys[k + 1]? = some u) : v < u ∧ ∀ y ∈ ys, y ≤ v ∨ u ≤ y := by
  have hk := (List.getElem?_eq_some_iff.1 hv).1
  have hk1 := (List.getElem?_eq_some_iff.1 hu).1
  have ev := (List.getElem?_eq_some_iff.1 hv).2
  have eu := (List.getElem?_eq_some_iff.1 hu).2
  have hp := List.pairwise_iff_getElem.1 hs
  refine ⟨?_, fun y hy => ?_⟩
  · have := hp k (k + 1) hk hk1 (by omega)
    omega
  · obtain ⟨j, hj, ej⟩ := List.getElem_of_mem hy
    by_cases h : j ≤ k
    · by_cases h' : j = k
      · subst h'
        omega
      · have := hp j k hj hk (by omega)
        omega
    · by_cases h' : j = k + 1
      · subst h'
        omega
      · have := hp (k + 1) j hk1 hj (by omega)
        omega
theorem edges_first {ys : List Int} (hs : ys.Pairwise (· < ·)) {v : Int} (hv : ys[0]? = some v) : ∀ y ∈ ys, v ≤ y := by
  intro y hy
  have hk := (List.getElem?_eq_some_iff.1 hv).1
  have ev := (List.getElem?_eq_some_iff.1 hv).2
  obtain ⟨j, hj, ej⟩ := List.getElem_of_mem hy
  by_cases h' : j = 0
  · subst h'
    omega
  · have := List.pairwise_iff_getElem.1 hs 0 j hk hj (by omega)
    omega
theorem edges_last {ys : List Int} (hs : ys.Pairwise (· < ·)) {k : Nat} {v : Int} (hv : ys[k]? = some v) (hl : ys.length = k + 1) : ∀ y ∈ ys, y ≤ v := by
  intro y hy
  have hk := (List.getElem?_eq_some_iff.1 hv).1
  have ev := (List.getElem?_eq_some_iff.1 hv).2
  obtain ⟨j, hj, ej⟩ := List.getElem_of_mem hy
  by_cases h' : j = k
  · subst h'
    omega
  · have := List.pairwise_iff_getElem.1 hs j k hj hk (by omega)
    omega

end Go.Proofs.YtbfefkhejknmoaaGreatDoor
