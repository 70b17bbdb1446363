/-
  The walks of a place's twin and Set.
-/
import Derived.Test.YtbfefkhejknmoaaGreatDoorPlaceB
import Derived.Test.YtbfefkhejknmoaaGreatDoorShelfM
namespace Go.Proofs.YtbfefkhejknmoaaGreatDoor
open Go.RowKit Go.Maps Go.Shelf

theorem clone_boxes (b n : Nat) (f : Int → Option Value) (w : World) (h : MapIs Tryz.prog 27 .u32 w b n f) :
    Calls Tryz.prog 60 #[.map (some b)] w fun e w' => e = .returned (.map (some w.heap.size)) ∧ MapIs Tryz.prog 27 .u32 w' w.heap.size n f ∧ Below w.heap.size w w' := by
  obtain ⟨D, hD, h2⟩ := h
  exact (AnyW.maps_Clone_owns Tryz.cloneBoxes 27 rawR b n D w hD).mono fun e w' ⟨he, h1, _, hB⟩ => ⟨he, ⟨D, h1, h2⟩, hB⟩

theorem blk_new3 (w : World) (o o' : Obj) (t : TypeId) (cs : Array Value) : Blk (((w.alloc o).alloc o').alloc (.cells cs t)) (w.heap.size + 1 + 1) t cs := by
  have := Blk.new ((w.alloc o).alloc o') t cs
  rwa [show ((w.alloc o).alloc o').heap.size = w.heap.size + 1 + 1 from by simp] at this
theorem blk_new2 (w : World) (o : Obj) (t : TypeId) (cs : Array Value) : Blk ((w.alloc o).alloc (.cells cs t)) (w.heap.size + 1) t cs := by
  have := Blk.new (w.alloc o) t cs
  rwa [show (w.alloc o).heap.size = w.heap.size + 1 from by simp] at this

set_option maxRecDepth 100000 in
set_option maxHeartbeats 1000000 in
theorem ptwin_any (b n : Nat) (bs : Bxs) (w : World) (h : MapIs Tryz.prog 27 .u32 w b n bs.f) :
    Calls Tryz.prog 40 #[.agg #[.map (some b)]] w fun e w' => ∃ b', e = .returned (.agg #[.map (some b')]) ∧ w.heap.size ≤ b' ∧ MapIs Tryz.prog 27 .u32 w' b' n bs.f ∧ Below w.heap.size w w' := by
  have HM := Lib.hid h
  clear h
  go_enter Tryz.func40, Tryz.ntmps40
  have bres := blk_new2 w (.cells #[.map (some b)] 38) 38 #[.map none]
  have HBR := Lib.hid bres
  clear bres
  go_wp2_with (go_at_call 60; refine (clone_boxes b n _ _ ((HM.out.alloc _).alloc _)).mono ?_; rintro e w1 ⟨rfl, hm1, hb1⟩; have bR := HBR.out.belowS hb1; have r0 := bR.cellV (i := 0) (v := .map none) rfl; have rf := bR.frozen 0; have rl := bR.lt; have HB1 := Lib.hid hb1; rw [World.size_alloc, World.size_alloc] at hm1; have HM1 := Lib.hid hm1; have HBR1 := Lib.hid bR; clear hb1 hm1 bR)
  have hr := (HBR1.out.set_ 0 (.map (some (w.heap.size + 1 + 1)))).cellV (i := 0) (v := .map (some (w.heap.size + 1 + 1))) rfl
  have hm2 := HM1.out.setCell (a := ⟨w.heap.size + 1, 0, none⟩) (by simp) (.map (some (w.heap.size + 1 + 1)))
  exact bodyPost_ret (v := .agg #[.map (some (w.heap.size + 1 + 1))]) (by simp [results, Tryz.results40, go_sem, hr]) rfl ⟨_, rfl, by omega, hm2, bset (bstep (bal (bal (bre w) _) _) HB1.out) (by simp) _⟩

end Go.Proofs.YtbfefkhejknmoaaGreatDoor
