/-
  The walk of the law GridNew.
-/
import Derived.Test.YtcdecglbkcllaabGridWalkG
namespace Go.Proofs.Ytcdecglbkcllaab
open Go.RowKit

set_option maxRecDepth 100000 in
set_option maxHeartbeats 1000000 in
theorem gridNew_no (a b p : Int) (w : World) (h : (sideB a && sideB b) = false) :
    Calls Try.prog 3 #[.int .i64 a, .int .i64 b, .int .u8 p] w fun e w' => e = .returned (.bool true) ∧ Below w.heap.size w w' := by
  have H := Lib.hid h
  go_enter Try.func3, Try.ntmps3
  go_wp2_with (first
    | (go_at_call 10; refine (new_no _ _ _ _ H.out).mono ?_; rintro e w1 ⟨rfl, hb1⟩)
    | (go_at_call 11; refine (rsize_any _ _ _).mono ?_; rintro e w' ⟨rfl, rfl⟩)
    | (go_at_call 12; refine (size_any _ _ _ _ _ _).mono ?_; rintro e w2 ⟨rfl, hb2⟩)
    | (go_at_call 13; refine (awake_any _).mono ?_; rintro e w3 ⟨rfl, hb3⟩))
  go_ret
  exact ⟨rfl, bstep (bstep (bal (bstep (bre w) hb1) _) hb2) hb3⟩

theorem gat_last (W H : Nat) (p : Int) (hW : 1 ≤ W) (hH : 1 ≤ H) : gat W H (List.replicate (W * H) p) ((W : Int) - 1) ((H : Int) - 1) = p := by
  have hh : hasB W H ((W : Int) - 1) ((H : Int) - 1) = true := (has_iff _ _ _ _).2 (by omega)
  have hi := has_idx hh
  unfold gat
  rw [if_pos hh, List.getD_eq_getElem?_getD, List.getElem?_replicate, if_pos hi]
  rfl

set_option maxRecDepth 100000 in
set_option maxHeartbeats 1000000 in
theorem gridNew_big (W H : Nat) (p : Int) (w : World) (hW : 1 ≤ W ∧ W ≤ 128) (hH : 1 ≤ H ∧ H ≤ 128) (hb : 40 < W ∨ 40 < H) :
    Calls Try.prog 3 #[.int .i64 W, .int .i64 H, .int .u8 p] w fun e w' => e = .returned (.bool true) ∧ Below w.heap.size w w' := by
  have s1 : sideB (W : Int) = true := by simp [sideB]; omega
  have s2 : sideB (H : Int) = true := by simp [sideB]; omega
  have hl := gat_last W H p hW.1 hH.1
  have HL := Lib.hid hl
  clear hl
  by_cases h40 : 40 < W
  · clear hb
    have d1 : decide ((40 : Int) < (W : Int)) = true := by simp; omega
    go_enter Try.func3, Try.ntmps3
    go_wp2_with (first
      | (go_at_call 10; refine (new_any _ _ _ _ hW hH).mono ?_; rintro e w1 ⟨A, cap, rfl, r1, _, _, hb1⟩; have R1 := Lib.hid r1; have HB1 := Lib.hid hb1; clear r1 hb1)
      | (go_at_call 11; refine (rsize_any _ _ _).mono ?_; rintro e w' ⟨rfl, rfl⟩)
      | (go_at_call 12; refine (size_any _ _ _ _ _ _).mono ?_; rintro e w2 ⟨rfl, hb2⟩; have bx := (Blk.new w1 25 #[.int .i64 W, .int .i64 H, .slice A (W * H) cap]).belowS hb2; have x0 := bx.cellV (i := 0) rfl; have x1 := bx.cellV (i := 1) rfl; have x2 := bx.cellV (i := 2) rfl; have HB2 := Lib.hid hb2; clear hb2 bx)
      | (go_at_call 14; refine (at_any _ _ _ _ _ _ _ _ _ rfl hW.2 hH.2 ((R1.out.below (bal (bre w1) _)).below HB2.out)).mono ?_; rintro e w4 ⟨rfl, hb4⟩; rw [HL.out])
      | (go_at_call 13; refine (awake_any _).mono ?_; rintro e w3 ⟨rfl, hb3⟩))
    go_ret
    exact ⟨rfl, bstep (bstep (bstep (bal (bstep (bre w) HB1.out) _) HB2.out) hb4) hb3⟩
  · have h41 : 40 < H := by omega
    clear hb
    have d1 : decide ((40 : Int) < (W : Int)) = false := by simp; omega
    have d2 : decide ((40 : Int) < (H : Int)) = true := by simp; omega
    go_enter Try.func3, Try.ntmps3
    go_wp2_with (first
      | (go_at_call 10; refine (new_any _ _ _ _ hW hH).mono ?_; rintro e w1 ⟨A, cap, rfl, r1, _, _, hb1⟩; have R1 := Lib.hid r1; have HB1 := Lib.hid hb1; clear r1 hb1)
      | (go_at_call 11; refine (rsize_any _ _ _).mono ?_; rintro e w' ⟨rfl, rfl⟩)
      | (go_at_call 12; refine (size_any _ _ _ _ _ _).mono ?_; rintro e w2 ⟨rfl, hb2⟩; have bx := (Blk.new w1 25 #[.int .i64 W, .int .i64 H, .slice A (W * H) cap]).belowS hb2; have x0 := bx.cellV (i := 0) rfl; have x1 := bx.cellV (i := 1) rfl; have x2 := bx.cellV (i := 2) rfl; have HB2 := Lib.hid hb2; clear hb2 bx)
      | (go_at_call 14; refine (at_any _ _ _ _ _ _ _ _ _ rfl hW.2 hH.2 ((R1.out.below (bal (bre w1) _)).below HB2.out)).mono ?_; rintro e w4 ⟨rfl, hb4⟩; rw [HL.out])
      | (go_at_call 13; refine (awake_any _).mono ?_; rintro e w3 ⟨rfl, hb3⟩))
    go_ret
    exact ⟨rfl, bstep (bstep (bstep (bal (bstep (bre w) HB1.out) _) HB2.out) hb4) hb3⟩

set_option maxRecDepth 100000 in
set_option maxHeartbeats 1000000 in
theorem gridNew_small (W H : Nat) (p : Int) (w : World) (hW : 1 ≤ W ∧ W ≤ 40) (hH : 1 ≤ H ∧ H ≤ 40) :
    Calls Try.prog 3 #[.int .i64 W, .int .i64 H, .int .u8 p] w fun e w' => e = .returned (.bool true) ∧ Below w.heap.size w w' := by
  have s1 : sideB (W : Int) = true := by simp [sideB]; omega
  have s2 : sideB (H : Int) = true := by simp [sideB]; omega
  have d1 : decide ((40 : Int) < (W : Int)) = false := by simp; omega
  have d2 : decide ((40 : Int) < (H : Int)) = false := by simp; omega
  go_enter Try.func3, Try.ntmps3
  go_wp2_with (first
    | (go_at_call 10; refine (new_any _ _ _ _ (by omega) (by omega)).mono ?_; rintro e w1 ⟨A, cap, rfl, r1, _, _, hb1⟩; have R1 := Lib.hid r1; have HB1 := Lib.hid hb1; clear r1 hb1)
    | (go_at_call 11; refine (rsize_any _ _ _).mono ?_; rintro e w' ⟨rfl, rfl⟩))
  have bx := Blk.new w1 25 #[.int .i64 W, .int .i64 H, .slice A (W * H) cap]
  have R2 := Lib.hid (R1.out.below (bal (bre w1) (.cells #[.int .i64 W, .int .i64 H, .slice A (W * H) cap] 25)))
  have B2 := Lib.hid (bal HB1.out (.cells #[.int .i64 W, .int .i64 H, .slice A (W * H) cap] 25))
  obtain ⟨X, hX⟩ : ∃ X, w1.alloc (.cells #[.int .i64 W, .int .i64 H, .slice A (W * H) cap] 25) = X := ⟨_, rfl⟩
  obtain ⟨g, hg⟩ : ∃ g, w1.heap.size = g := ⟨_, rfl⟩
  rw [hX] at bx R2 B2 ⊢
  rw [hg] at bx ⊢
  clear hX hg R1 HB1
  have x0 := bx.cellV (i := 0) rfl
  have x1 := bx.cellV (i := 1) rfl
  have x2 := bx.cellV (i := 2) rfl
  have zg := bx.lt
  clear bx
  go_region_held3 (fun w' => w'.cell? ⟨g, 0, none⟩ = some (.int .i64 W) ∧ w'.cell? ⟨g, 1, none⟩ = some (.int .i64 H) ∧ w'.cell? ⟨g, 2, none⟩ = some (.slice A (W * H) cap))
    (first | go_keep | exact ⟨(hb3.cell (p := ⟨g, 0, none⟩) zg).trans x0, (hb3.cell (p := ⟨g, 1, none⟩) zg).trans x1, (hb3.cell (p := ⟨g, 2, none⟩) zg).trans x2⟩ | exact ⟨(hb4.cell (p := ⟨g, 0, none⟩) (Nat.lt_of_lt_of_le zg hb3.size)).trans ((hb3.cell (p := ⟨g, 0, none⟩) zg).trans x0), (hb4.cell (p := ⟨g, 1, none⟩) (Nat.lt_of_lt_of_le zg hb3.size)).trans ((hb3.cell (p := ⟨g, 1, none⟩) zg).trans x1), (hb4.cell (p := ⟨g, 2, none⟩) (Nat.lt_of_lt_of_le zg hb3.size)).trans ((hb3.cell (p := ⟨g, 2, none⟩) zg).trans x2)⟩ | exact ⟨(hb5.cell (p := ⟨g, 0, none⟩) (Nat.lt_of_lt_of_le zg (Nat.le_trans hb3.size hb4.size))).trans ((hb4.cell (p := ⟨g, 0, none⟩) (Nat.lt_of_lt_of_le zg hb3.size)).trans ((hb3.cell (p := ⟨g, 0, none⟩) zg).trans x0)), (hb5.cell (p := ⟨g, 1, none⟩) (Nat.lt_of_lt_of_le zg (Nat.le_trans hb3.size hb4.size))).trans ((hb4.cell (p := ⟨g, 1, none⟩) (Nat.lt_of_lt_of_le zg hb3.size)).trans ((hb3.cell (p := ⟨g, 1, none⟩) zg).trans x1)), (hb5.cell (p := ⟨g, 2, none⟩) (Nat.lt_of_lt_of_le zg (Nat.le_trans hb3.size hb4.size))).trans ((hb4.cell (p := ⟨g, 2, none⟩) (Nat.lt_of_lt_of_le zg hb3.size)).trans ((hb3.cell (p := ⟨g, 2, none⟩) zg).trans x2))⟩)
    (first | (go_at_call 16; refine (rnew_any _ _ _ _ (by omega) (by omega)).mono ?_; rintro e w3 ⟨A3, c3, rfl, r3, hb3⟩; have R3 := Lib.hid (Rd.of_own r3); clear r3) | (go_at_call 15; refine (is_any W H (List.replicate (W * H) p) _ _ _ _ _ _ rfl (by omega) (by omega) (by exact R2.out.below (undrewX hb3 rfl rfl rfl rfl)) R3.out).mono ?_; rintro e w4 ⟨rfl, hb4⟩) | (go_at_call 13; refine (awake_any _).mono ?_; rintro e w5 ⟨rfl, hb5⟩))
  go_wp2_with fail
  go_ret
  exact ⟨rfl, bstep (bstep (bstep B2.out (undrewX hb3 rfl rfl rfl rfl)) hb4) hb5⟩

end Go.Proofs.Ytcdecglbkcllaab
