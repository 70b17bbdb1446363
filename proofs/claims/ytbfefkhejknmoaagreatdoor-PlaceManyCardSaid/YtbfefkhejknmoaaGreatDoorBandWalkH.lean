/-
  band.edges of no rectangle; the first part of band.Of: the rectangles that count.
-/
import Derived.Test.YtbfefkhejknmoaaGreatDoorBandOf
namespace Go.Proofs.YtbfefkhejknmoaaGreatDoor
open Go.RowKit Go.Shelf Go.Lib Go.Sort

set_option maxRecDepth 100000 in
set_option maxHeartbeats 2000000 in
theorem edges_zero (A : Option Addr) (c : Nat) (w : World) :
    Calls Tryz.prog 69 #[.slice A 0 c] w fun e w' => ∃ (A' : Option Addr) (c' : Nat), e = .returned (.slice A' 0 c') ∧ Below w.heap.size w w' := by
  obtain ⟨i0, hi0, hz0, hz1, hz2⟩ := info_parts Tryz.infoI
  go_enter Tryz.func69, Tryz.ntmps69
  go_wp2_with (at_make; refine wpList_make_own _ rfl _ _ 118 rfl w.heap.size 3 i0 _ 1 Tryz.underlying118 hi0 hz0 hz1 _ _ _ 0 rfl rfl (by simp) (by rw [hz2]; omega) (by simp only [maxLen]; omega) (Nat.le_refl _) ?_; intro w1 hown hg1; have HO := Lib.hid hown; have hB1 : Below w.heap.size w w1 := (Below.refl _ w).grown hg1 (Nat.le_refl _) (by simp))
  have HB := Lib.hid hB1
  have hst := HO.out
  clear hB1 HO
  obtain ⟨rest, hb⟩ : ∃ rest, Blk w1 w.heap.size 3 (I64 [] ++ rest).toArray := by
    rcases hst.2 with ⟨e1, _⟩ | ⟨g, cap, cur, e1, hb, hg, h1, h2, h3, h4⟩
    · cases e1
    · injection e1 with e1 _ e3
      injection e1 with e1
      injection e1 with e1
      subst e1
      exact ⟨cur.toList, by show w1.heap[w.heap.size]? = _; simpa [I64] using hg⟩
  have HBK := Lib.hid hb
  clear hst hb
  go_loopw [3, 12] (fun v i wr => v = .slice (some ⟨w.heap.size, 0, none⟩) 0 0 ∧ i = .int .i64 0 ∧ Below w.heap.size w wr ∧ Blk wr w.heap.size 3 (I64 [] ++ rest).toArray) (fun _ _ _ => 0)
  case atStart => exact ⟨rfl, rfl, HB.out, HBK.out⟩
  case round =>
    clear HB HBK
    obtain ⟨rfl, rfl, hB, hbk⟩ := hrel
    have HB := Lib.hid hB
    have HBK := Lib.hid hbk
    clear hB hbk
    go_wp2_with fail
    have hS := Tryz.slices_Sort_int w.heap.size 0 0 [] wr (holds_I64 HBK.out) HBK.out.lt (by simp)
    refine hS.mono ?_
    rintro e w5 ⟨rfl, m, os, hw5⟩
    obtain ⟨k5, k6⟩ := sort_worldI (n := m) HBK.out #[] rfl os
    have hw5' : w5 = grow (putRow (Value.int .i64) (Sort.ahead wr m) w.heap.size 0 #[]) os := by simpa using hw5
    rw [← hw5'] at k5 k6
    have B5 : Hid (Below w.heap.size w w5) := Lib.hid (HB.out.grown k6 HB.out.size (fun q e => by cases e; exact Nat.le_refl _))
    clear hS hw5 hw5' k5 k6
    go_wp2_with fail
    have hC := Tryz.slices_Compact_int_cells w.heap.size 0 0 0 [] w5 (by simp) (by omega) (by omega) (fun j hj => absurd hj (by simp)) (fun j hj => absurd hj (by simp))
    refine hC.mono ?_
    rintro e w6 ⟨he, q, hw6⟩
    simp at he hw6
    subst he
    have HW6 := Lib.hid hw6
    clear hC hw6
    go_wp2_with fail
    go_ret
    refine ⟨_, _, rfl, ?_⟩
    rw [HW6.out]
    exact bstep B5.out (undrewN w5 q)

end Go.Proofs.YtbfefkhejknmoaaGreatDoor
