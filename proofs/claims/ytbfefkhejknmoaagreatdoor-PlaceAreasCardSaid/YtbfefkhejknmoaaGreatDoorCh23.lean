/-
  band.edges of no rectangle; the first part of band.Of: the rectangles that count.
  Plain facts on the rectangles that band.Of writes: they are of the places that count; how many there are.
  Plain facts on the rectangles that begin at an edge, one by one.
-/
import Derived.Test.YtbfefkhejknmoaaGreatDoorCh22
namespace Go.Proofs.YtbfefkhejknmoaaGreatDoor
open Go.RowKit Go.Shelf Go.Lib Go.Sort

set_option maxRecDepth 100000 in
set_option maxHeartbeats 2000000 in
theorem edges_zero (A : Option Addr) (c : Nat) (w : World) :
    Calls Tryz.prog 69 #[.slice A 0 c] w fun e w' => ∃ (A' : Option Addr) (c' : Nat), e = .returned (.slice A' 0 c') ∧ Below w.heap.size w w' := by
  obtain ⟨i0, hi0, hz0, hz1, hz2⟩ := info_parts Tryz.infoI
  go_enter Tryz.func69, Tryz.ntmps69
  go_wp2_with (at_make; refine wpList_make_own _ rfl _ _ 118 rfl w.heap.size 3 i0 _ 1 Tryz.underlying118 hi0 hz0 hz1 _ _ _ 0 rfl rfl (by simp) (by rw [hz2]; omega) (by simp only [maxLen]; omega) (Nat.le_refl _) ?_; intro w1 hown hg1; have HO := Lib.hid hown; have hB1 : Below w.heap.size w w1 := (Below.refl _ w).grown hg1 (Nat.le_refl _) (by simp))
  have HB := Lib.hid hB1
  have hst := HO.out
  clear hB1 HO
  obtain ⟨rest, hb⟩ : ∃ rest, Blk w1 w.heap.size 3 (I64 [] ++ rest).toArray := by
    rcases hst.2 with ⟨e1, _⟩ | ⟨g, cap, cur, e1, hb, hg, h1, h2, h3, h4⟩
    · cases e1
    · injection e1 with e1 _ e3
      injection e1 with e1
      injection e1 with e1
      subst e1
      exact ⟨cur.toList, by show w1.heap[w.heap.size]? = _; simpa [I64] using hg⟩
  have HBK := Lib.hid hb
  clear hst hb
  go_loopw [3, 12] (fun v i wr => v = .slice (some ⟨w.heap.size, 0, none⟩) 0 0 ∧ i = .int .i64 0 ∧ Below w.heap.size w wr ∧ Blk wr w.heap.size 3 (I64 [] ++ rest).toArray) (fun _ _ _ => 0)
  case atStart => exact ⟨rfl, rfl, HB.out, HBK.out⟩
  case round =>
    clear HB HBK
    obtain ⟨rfl, rfl, hB, hbk⟩ := hrel
    have HB := Lib.hid hB
    have HBK := Lib.hid hbk
    clear hB hbk
    go_wp2_with fail
    have hS := Tryz.slices_Sort_int w.heap.size 0 0 [] wr (holds_I64 HBK.out) HBK.out.lt (by simp)
    refine hS.mono ?_
    rintro e w5 ⟨rfl, m, os, hw5⟩
    obtain ⟨k5, k6⟩ := sort_worldI (n := m) HBK.out #[] rfl os
    have hw5' : w5 = grow (putRow (Value.int .i64) (Sort.ahead wr m) w.heap.size 0 #[]) os := by simpa using hw5
    rw [← hw5'] at k5 k6
    have B5 : Hid (Below w.heap.size w w5) := Lib.hid (HB.out.grown k6 HB.out.size (fun q e => by cases e; exact Nat.le_refl _))
    clear hS hw5 hw5' k5 k6
    go_wp2_with fail
    have hC := Tryz.slices_Compact_int_cells w.heap.size 0 0 0 [] w5 (by simp) (by omega) (by omega) (fun j hj => absurd hj (by simp)) (fun j hj => absurd hj (by simp))
    refine hC.mono ?_
    rintro e w6 ⟨he, q, hw6⟩
    simp at he hw6
    subst he
    have HW6 := Lib.hid hw6
    clear hC hw6
    go_wp2_with fail
    go_ret
    refine ⟨_, _, rfl, ?_⟩
    rw [HW6.out]
    exact bstep B5.out (undrewN w5 q)

end Go.Proofs.YtbfefkhejknmoaaGreatDoor

namespace Go.Proofs.YtbfefkhejknmoaaGreatDoor

theorem cnt_iff (r : RC) : r.cnt = true ↔ (-1048576 ≤ r.X ∧ 0 < r.W ∧ r.W ≤ 1048576 - r.X) ∧ (-1048576 ≤ r.Y ∧ 0 < r.H ∧ r.H ≤ 1048576 - r.Y) := by
  unfold RC.cnt
  rw [Bool.and_eq_true, fits_iff, fits_iff]
  omega
theorem cnt_ok {r : RC} (h : r.cnt = true) : r.ok := by
  have := (cnt_iff r).1 h
  unfold RC.ok
  omega
/-- a rectangle whose places count. -/
theorem ok_places {al : List RC} (hc : ∀ r ∈ al, r.cnt = true) {r : RC} (hw : 0 < r.W) (hh : 0 < r.H) (h1 : InR al r.X r.Y) (h2 : InR al (r.X + r.W - 1) (r.Y + r.H - 1)) : r.cnt = true := by
  obtain ⟨p, hp, a1, a2, a3, a4⟩ := h1
  obtain ⟨q, hq, b1, b2, b3, b4⟩ := h2
  have := (cnt_iff p).1 (hc p hp)
  have := (cnt_iff q).1 (hc q hq)
  exact (cnt_iff r).2 (by omega)
theorem canon_pos {l : List RC} (h : Canon l) : ∀ r ∈ l, 0 < r.W ∧ 0 < r.H := by
  obtain ⟨bs, rfl, g⟩ := h
  intro r hr
  obtain ⟨b, hb, hr⟩ := List.mem_flatMap.1 hr
  obtain ⟨s, hs, rfl⟩ := List.mem_map.1 hr
  have h1 := g.each b hb
  have h2 := h1.2.2.2 s hs
  exact ⟨by dsimp only; omega, h1.1⟩
theorem in_self {l : List RC} {r : RC} (hr : r ∈ l) (hw : 0 < r.W) (hh : 0 < r.H) : InR l r.X r.Y ∧ InR l (r.X + r.W - 1) (r.Y + r.H - 1) :=
  ⟨⟨r, hr, by omega, by omega, by omega, by omega⟩, ⟨r, hr, by omega, by omega, by omega, by omega⟩⟩
theorem canon_cnt {al l : List RC} (hc : ∀ r ∈ al, r.cnt = true) (h : Canon l) (hp : ∀ x y, InR l x y → InR al x y) : ∀ r ∈ l, r.cnt = true := fun r hr => by
  obtain ⟨h1, h2⟩ := canon_pos h r hr
  obtain ⟨h3, h4⟩ := in_self hr h1 h2
  exact ok_places hc h1 h2 (hp _ _ h3) (hp _ _ h4)

section
variable {al : List RC} {v u : Int} {out row row3 : List RC} {above next : Nat}
theorem OfInv.canon (I : OfInv al v out row above next) : Canon out := by
  obtain ⟨bs, h1, h2, _⟩ := I.bands
  exact ⟨bs, h1, h2⟩
/-- what is written so far counts. -/
theorem out_cnt (I : OfInv al v out row above next) (hc : ∀ r ∈ al, r.cnt = true) : ∀ r ∈ out, r.cnt = true :=
  canon_cnt hc I.canon (fun x y h => ((I.places x y).1 h).1)
/-- and so does a new band. -/
theorem band_cnt (I : OfInv al v out row above next) (hc : ∀ r ∈ al, r.cnt = true) (hsort : al.Pairwise (fun a b => a.Y ≤ b.Y)) (hvu : v < u) (hE : ∀ r ∈ al, (r.Y ≤ v ∨ u ≤ r.Y) ∧ (r.Y + r.H ≤ v ∨ u ≤ r.Y + r.H))
    (hp : ∀ r, r ∈ row3 ↔ r ∈ keepL v row ++ newAt v (al.drop next)) (hx : row3.Pairwise (fun a b => a.X ≤ b.X)) : ∀ r ∈ bandL v (u - v) (spansL row3), r.cnt = true := by
  have hcnt : ∀ r ∈ al, 0 < r.W ∧ 0 < r.H := fun r hr => by have := (cnt_iff r).1 (hc r hr); omega
  obtain ⟨s1, s2⟩ := round_places I hcnt hsort hE hp hx
  intro r hr
  have hr' := hr
  obtain ⟨s, hs, e⟩ := List.mem_map.1 hr'
  have h2 := s2.2 s hs
  have hw : 0 < r.W := by rw [← e]; dsimp only; omega
  have hh : 0 < r.H := by rw [← e]; dsimp only; omega
  obtain ⟨h3, h4⟩ := in_self hr hw hh
  have tow : ∀ x y, InR (bandL v (u - v) (spansL row3)) x y → InR al x y := fun x y h => by
    obtain ⟨a, b, c⟩ := (in_band _ _ _ _ _).1 h
    exact (s1 x y b (by omega)).1 a
  exact ok_places hc hw hh (tow _ _ h3) (tow _ _ h4)
end

theorem spansGo_len (l : List RC) : ∀ (f t : Int), (spansGo f t l).length ≤ l.length + 1 := by
  induction l with
  | nil => intro f t; simp [spansGo]
  | cons r l ih =>
    intro f t
    by_cases hle : r.X ≤ t
    · have e : spansGo f t (r :: l) = spansGo f (max t (r.X + r.W)) l := by simp [spansGo, hle]
      rw [e]
      have := ih f (max t (r.X + r.W))
      simp
      omega
    · have e : spansGo f t (r :: l) = (f, t) :: spansGo r.X (r.X + r.W) l := by simp [spansGo, hle]
      rw [e]
      have := ih r.X (r.X + r.W)
      simp
      omega
theorem spansL_len (l : List RC) : (spansL l).length ≤ l.length := by
  cases l with
  | nil => simp [spansL]
  | cons r l => exact spansGo_len l _ _
theorem keepL_len (y : Int) (l : List RC) : (keepL y l).length ≤ l.length := List.length_filter_le _ _
theorem newAt_len (v : Int) (l : List RC) : (newAt v l).length ≤ l.length := (List.takeWhile_prefix _).length_le

/-- the edges of a region that rise: between two neighbours there is none. -/
theorem edges_next {ys : List Int} (hs : ys.Pairwise (· < ·)) {k : Nat} {v u : Int} (hv : ys[k]? = some v) (hu : ys[k + 1]? = some u) : v < u ∧ ∀ y ∈ ys, y ≤ v ∨ u ≤ y := by
  have hk := (List.getElem?_eq_some_iff.1 hv).1
  have hk1 := (List.getElem?_eq_some_iff.1 hu).1
  have ev := (List.getElem?_eq_some_iff.1 hv).2
  have eu := (List.getElem?_eq_some_iff.1 hu).2
  have hp := List.pairwise_iff_getElem.1 hs
  refine ⟨?_, fun y hy => ?_⟩
  · have := hp k (k + 1) hk hk1 (by omega)
    omega
  · obtain ⟨j, hj, ej⟩ := List.getElem_of_mem hy
    by_cases h : j ≤ k
    · by_cases h' : j = k
      · subst h'
        omega
      · have := hp j k hj hk (by omega)
        omega
    · by_cases h' : j = k + 1
      · subst h'
        omega
      · have := hp (k + 1) j hk1 hj (by omega)
        omega
theorem edges_first {ys : List Int} (hs : ys.Pairwise (· < ·)) {v : Int} (hv : ys[0]? = some v) : ∀ y ∈ ys, v ≤ y := by
  intro y hy
  have hk := (List.getElem?_eq_some_iff.1 hv).1
  have ev := (List.getElem?_eq_some_iff.1 hv).2
  obtain ⟨j, hj, ej⟩ := List.getElem_of_mem hy
  by_cases h' : j = 0
  · subst h'
    omega
  · have := List.pairwise_iff_getElem.1 hs 0 j hk hj (by omega)
    omega
theorem edges_last {ys : List Int} (hs : ys.Pairwise (· < ·)) {k : Nat} {v : Int} (hv : ys[k]? = some v) (hl : ys.length = k + 1) : ∀ y ∈ ys, y ≤ v := by
  intro y hy
  have hk := (List.getElem?_eq_some_iff.1 hv).1
  have ev := (List.getElem?_eq_some_iff.1 hv).2
  obtain ⟨j, hj, ej⟩ := List.getElem_of_mem hy
  by_cases h' : j = k
  · subst h'
    omega
  · have := List.pairwise_iff_getElem.1 hs j k hj hk (by omega)
    omega

end Go.Proofs.YtbfefkhejknmoaaGreatDoor

namespace Go.Proofs.YtbfefkhejknmoaaGreatDoor

theorem newAt_pre (v : Int) (l : List RC) : ∃ post, newAt v l ++ post = l ∧ ∀ x, post[0]? = some x → x.Y ≠ v := by
  induction l with
  | nil => exact ⟨[], rfl, by simp⟩
  | cons r l ih =>
    by_cases h : r.Y = v
    · obtain ⟨post, h1, h2⟩ := ih
      have e : newAt v (r :: l) = r :: newAt v l := by simp [newAt, h]
      exact ⟨post, by rw [e, List.cons_append, h1], h2⟩
    · have e : newAt v (r :: l) = [] := by simp [newAt, h]
      refine ⟨r :: l, by rw [e]; rfl, fun x hx => ?_⟩
      simp at hx
      rw [← hx]
      exact h
theorem newAt_all (v : Int) (l : List RC) : ∀ r ∈ newAt v l, r.Y = v := fun r hr => by
  have := (List.all_eq_true.1 (List.all_takeWhile (p := fun r : RC => r.Y == v) (l := l))) r hr
  simpa using this
/-- the next one that begins here. -/
theorem newAt_at {al : List RC} {v : Int} {next j : Nat} (hj : j < (newAt v (al.drop next)).length) : ∃ x, al[next + j]? = some x ∧ x.Y = v ∧ (newAt v (al.drop next)).take (j + 1) = (newAt v (al.drop next)).take j ++ [x] := by
  obtain ⟨post, h1, _⟩ := newAt_pre v (al.drop next)
  have hall := newAt_all v (al.drop next)
  obtain ⟨nw, hnw⟩ : ∃ nw, newAt v (al.drop next) = nw := ⟨_, rfl⟩
  rw [hnw] at hj h1 hall ⊢
  have hx : nw[j]? = some nw[j] := List.getElem?_eq_getElem hj
  refine ⟨nw[j], ?_, hall _ (List.getElem_mem hj), by rw [List.take_add_one, hx]; rfl⟩
  rw [← List.getElem?_drop, ← h1, List.getElem?_append_left hj]
  exact hx
/-- the first one that does not. -/
theorem newAt_end {al : List RC} {v : Int} {next : Nat} {x : RC} (hx : al[next + (newAt v (al.drop next)).length]? = some x) : x.Y ≠ v := by
  obtain ⟨post, h1, h2⟩ := newAt_pre v (al.drop next)
  obtain ⟨nw, hnw⟩ : ∃ nw, newAt v (al.drop next) = nw := ⟨_, rfl⟩
  rw [hnw] at h1 hx
  refine h2 x ?_
  rw [← List.getElem?_drop, ← h1, List.getElem?_append_right (Nat.le_refl _), Nat.sub_self] at hx
  exact hx

end Go.Proofs.YtbfefkhejknmoaaGreatDoor
