/-
  The walks of the document's small functions for rectangles, ids and places.
-/
import Derived.Test.YtbfefkhejknmoaaGreatDoorCh6
namespace Go.Proofs.YtbfefkhejknmoaaGreatDoor
open Go.RowKit Go.Maps Go.Shelf

/-- may a rectangle be so? -/
def rightD (r : RC) : Bool := decide (r = ⟨0, 0, 0, 0⟩) || r.cnt
theorem cnt_no' {X Y W H : Int} (h : ¬ ((-1048576 ≤ X ∧ 0 < W ∧ X + W ≤ 1048576) ∧ -1048576 ≤ Y ∧ 0 < H ∧ Y + H ≤ 1048576)) : (⟨X, Y, W, H⟩ : RC).cnt = false := by
  unfold RC.cnt fitsB
  dsimp only
  cases h1 : decide (-1048576 ≤ X ∧ 0 < W ∧ X + W ≤ 1048576)
  · rfl
  · cases h2 : decide (-1048576 ≤ Y ∧ 0 < H ∧ Y + H ≤ 1048576)
    · rfl
    · exact absurd ⟨of_decide_eq_true h1, of_decide_eq_true h2⟩ h
theorem cnt_yes' {X Y W H : Int} (h : (-1048576 ≤ X ∧ 0 < W ∧ X + W ≤ 1048576) ∧ -1048576 ≤ Y ∧ 0 < H ∧ Y + H ≤ 1048576) : (⟨X, Y, W, H⟩ : RC).cnt = true := by
  unfold RC.cnt fitsB
  dsimp only
  rw [decide_eq_true h.1, decide_eq_true h.2]
  rfl
theorem rc_zero (X Y W H : Int) : (X == 0 && Y == 0 && W == 0 && H == 0) = decide ((⟨X, Y, W, H⟩ : RC) = ⟨0, 0, 0, 0⟩) := by
  rw [Bool.eq_iff_iff]
  simp [and_assoc]

attribute [local go_sem ↓] run_eql_rc
set_option maxRecDepth 100000 in
set_option maxHeartbeats 2000000 in
theorem r12right_any (X Y W H : Int) (w : World) :
    Calls Tryz.prog 96 #[.agg #[.int .i64 X, .int .i64 Y, .int .i64 W, .int .i64 H]] w fun e w' => e = .returned (.bool (rightD ⟨X, Y, W, H⟩)) ∧ Below w.heap.size w w' := by
  by_cases hz : (⟨X, Y, W, H⟩ : RC) = ⟨0, 0, 0, 0⟩
  · have d0 : (X == 0 && Y == 0 && W == 0 && H == 0) = true := by rw [rc_zero]; exact decide_eq_true hz
    have HV := Lib.hid (show rightD ⟨X, Y, W, H⟩ = true by unfold rightD; rw [decide_eq_true hz]; rfl)
    clear hz
    go_enter Tryz.func96, Tryz.ntmps96
    go_wp2_with fail
    go_ret
    exact ⟨ret_bool HV.out.symm, bal (bre w) _⟩
  have d0 : (X == 0 && Y == 0 && W == 0 && H == 0) = false := by rw [rc_zero]; exact decide_eq_false hz
  have hr : rightD ⟨X, Y, W, H⟩ = (⟨X, Y, W, H⟩ : RC).cnt := by unfold rightD; rw [decide_eq_false hz]; rfl
  clear hz
  have t : decide (1 ≤ W) = false ∨ (decide (1 ≤ W) = true ∧ (decide (1 ≤ H) = false ∨ (decide (1 ≤ H) = true ∧ (decide (-1048576 ≤ X) = false ∨ (decide (-1048576 ≤ X) = true ∧ (decide (-1048576 ≤ Y) = false ∨ (decide (-1048576 ≤ Y) = true ∧ (decide (X ≤ 1048576) = false ∨ (decide (X ≤ 1048576) = true ∧ (decide (Y ≤ 1048576) = false ∨ decide (Y ≤ 1048576) = true))))))))))  := by
    simp only [decide_eq_true_eq, decide_eq_false_iff_not]; omega
  rcases t with d1 | ⟨d1, d2 | ⟨d2, d3 | ⟨d3, d4 | ⟨d4, d5 | ⟨d5, d6 | d6⟩⟩⟩⟩⟩
  case inr.inr.inr.inr.inr.inr =>
    have bd : 1 ≤ W ∧ 1 ≤ H ∧ -1048576 ≤ X ∧ -1048576 ≤ Y ∧ X ≤ 1048576 ∧ Y ≤ 1048576 := by
      simp only [decide_eq_true_eq] at d1 d2 d3 d4 d5 d6; omega
    obtain ⟨b1, b2, b3, b4, b5, b6⟩ := bd
    by_cases h1 : W ≤ 1048576 - X
    · have e1 : decide (W ≤ 1048576 - X) = true := decide_eq_true h1
      by_cases h2 : H ≤ 1048576 - Y
      · have HV := Lib.hid (show rightD ⟨X, Y, W, H⟩ = true by rw [hr]; exact cnt_yes' ⟨by omega, by omega⟩)
        have e2 : decide (H ≤ 1048576 - Y) = true := decide_eq_true h2
        clear h1 h2 hr
        go_enter Tryz.func96, Tryz.ntmps96
        go_wp2_with fail
        go_ret
        exact ⟨ret_bool HV.out.symm, bal (bre w) _⟩
      · have HV := Lib.hid (show rightD ⟨X, Y, W, H⟩ = false by rw [hr]; exact cnt_no' (by omega))
        have e2 : decide (H ≤ 1048576 - Y) = false := decide_eq_false h2
        clear h1 h2 hr
        go_enter Tryz.func96, Tryz.ntmps96
        go_wp2_with fail
        go_ret
        exact ⟨ret_bool HV.out.symm, bal (bre w) _⟩
    · have HV := Lib.hid (show rightD ⟨X, Y, W, H⟩ = false by rw [hr]; exact cnt_no' (by omega))
      have e1 : decide (W ≤ 1048576 - X) = false := decide_eq_false h1
      clear h1 hr
      go_enter Tryz.func96, Tryz.ntmps96
      go_wp2_with fail
      go_ret
      exact ⟨ret_bool HV.out.symm, bal (bre w) _⟩
  all_goals
    have HV := Lib.hid (show rightD ⟨X, Y, W, H⟩ = false by rw [hr]; exact cnt_no' (by simp only [decide_eq_false_iff_not, decide_eq_true_eq] at *; omega))
    clear hr
    go_enter Tryz.func96, Tryz.ntmps96
    go_wp2_with fail
    go_ret
    exact ⟨ret_bool HV.out.symm, bal (bre w) _⟩

/-- a rectangle as it counts. -/
def asR (r : RC) : RC := if r.cnt then r else ⟨0, 0, 0, 0⟩
theorem asR_right {r : RC} : (if rightD r = true then r else ⟨0, 0, 0, 0⟩) = asR r := by
  unfold asR rightD
  by_cases h : r = ⟨0, 0, 0, 0⟩
  · subst h; rfl
  · rw [decide_eq_false h]; rfl
set_option maxRecDepth 100000 in
set_option maxHeartbeats 2000000 in
theorem r12as_any (r : RC) (w : World) :
    Calls Tryz.prog 79 #[.agg #[.int .i64 r.X, .int .i64 r.Y, .int .i64 r.W, .int .i64 r.H]] w fun e w' => e = .returned (.agg #[.int .i64 (asR r).X, .int .i64 (asR r).Y, .int .i64 (asR r).W, .int .i64 (asR r).H]) ∧ Below w.heap.size w w' := by
  obtain ⟨X, Y, W, H⟩ := r
  dsimp only
  have H0 := Lib.hid ((Blk.new w 29 #[.int .i64 X, .int .i64 Y, .int .i64 W, .int .i64 H]).alloc (.cells #[.int .i64 0, .int .i64 0, .int .i64 0, .int .i64 0] 29))
  have H1 := Lib.hid (blk_new2 w (.cells #[.int .i64 X, .int .i64 Y, .int .i64 W, .int .i64 H] 29) 29 #[.int .i64 0, .int .i64 0, .int .i64 0, .int .i64 0])
  have HBE := Lib.hid (bal (bal (bre w) (.cells #[.int .i64 X, .int .i64 Y, .int .i64 W, .int .i64 H] 29)) (.cells #[.int .i64 0, .int .i64 0, .int .i64 0, .int .i64 0] 29))
  cases hr : rightD ⟨X, Y, W, H⟩
  · have e0 : asR ⟨X, Y, W, H⟩ = ⟨0, 0, 0, 0⟩ := by rw [← asR_right, hr]; rfl
    have HR := Lib.hid hr
    rw [e0]
    dsimp only
    clear hr e0
    go_enter Tryz.func79, Tryz.ntmps79
    go_wp2_with fail
    refine (r12right_any X Y W H _).mono ?_
    rintro e w1 ⟨rfl, hb1⟩
    rw [HR.out]
    have HB := Lib.hid (bstep HBE.out hb1)
    have b0 := H0.out.belowS hb1
    have b1 := H1.out.belowS hb1
    have K1 := Lib.hid b1
    have c0 := b0.cellV (i := 0) (v := .int .i64 X) rfl
    have c1 := b0.cellV (i := 1) (v := .int .i64 Y) rfl
    have c2 := b0.cellV (i := 2) (v := .int .i64 W) rfl
    have c3 := b0.cellV (i := 3) (v := .int .i64 H) rfl
    have q0 := b1.cellV (i := 0) (v := .int .i64 0) rfl
    have f0 := b1.frozen 0
    have q1 := b1.cellV (i := 1) (v := .int .i64 0) rfl
    have f1 := b1.frozen 1
    have q2 := b1.cellV (i := 2) (v := .int .i64 0) rfl
    have f2 := b1.frozen 2
    have q3 := b1.cellV (i := 3) (v := .int .i64 0) rfl
    have f3 := b1.frozen 3
    have l1 := b1.lt
    clear hb1 b0 b1
    go_wp2_with fail
    have hb9 := (((K1.out.set_ 0 (.int .i64 0)).set_ 1 (.int .i64 0)).set_ 2 (.int .i64 0)).set_ 3 (.int .i64 0)
    have r0 := hb9.cellV (i := 0) (v := .int .i64 0) rfl
    have r1 := hb9.cellV (i := 1) (v := .int .i64 0) rfl
    have r2 := hb9.cellV (i := 2) (v := .int .i64 0) rfl
    have r3 := hb9.cellV (i := 3) (v := .int .i64 0) rfl
    exact bodyPost_ret (v := .agg #[.int .i64 0, .int .i64 0, .int .i64 0, .int .i64 0]) (by simp [results, Tryz.results79, go_sem, r0, r1, r2, r3]) rfl ⟨rfl, bset (p := ⟨w.heap.size + 1, 3, none⟩) (bset (p := ⟨w.heap.size + 1, 2, none⟩) (bset (p := ⟨w.heap.size + 1, 1, none⟩) (bset (p := ⟨w.heap.size + 1, 0, none⟩) HB.out (by show w.heap.size ≤ w.heap.size + 1; omega) _) (by show w.heap.size ≤ w.heap.size + 1; omega) _) (by show w.heap.size ≤ w.heap.size + 1; omega) _) (by show w.heap.size ≤ w.heap.size + 1; omega) _⟩
  · have e0 : asR ⟨X, Y, W, H⟩ = ⟨X, Y, W, H⟩ := by rw [← asR_right, hr]; rfl
    have HR := Lib.hid hr
    rw [e0]
    dsimp only
    clear hr e0
    go_enter Tryz.func79, Tryz.ntmps79
    go_wp2_with fail
    refine (r12right_any X Y W H _).mono ?_
    rintro e w1 ⟨rfl, hb1⟩
    rw [HR.out]
    have HB := Lib.hid (bstep HBE.out hb1)
    have b0 := H0.out.belowS hb1
    have b1 := H1.out.belowS hb1
    have K1 := Lib.hid b1
    have c0 := b0.cellV (i := 0) (v := .int .i64 X) rfl
    have c1 := b0.cellV (i := 1) (v := .int .i64 Y) rfl
    have c2 := b0.cellV (i := 2) (v := .int .i64 W) rfl
    have c3 := b0.cellV (i := 3) (v := .int .i64 H) rfl
    have q0 := b1.cellV (i := 0) (v := .int .i64 0) rfl
    have f0 := b1.frozen 0
    have q1 := b1.cellV (i := 1) (v := .int .i64 0) rfl
    have f1 := b1.frozen 1
    have q2 := b1.cellV (i := 2) (v := .int .i64 0) rfl
    have f2 := b1.frozen 2
    have q3 := b1.cellV (i := 3) (v := .int .i64 0) rfl
    have f3 := b1.frozen 3
    have l1 := b1.lt
    clear hb1 b0 b1
    go_wp2_with fail
    have hb9 := (((K1.out.set_ 0 (.int .i64 X)).set_ 1 (.int .i64 Y)).set_ 2 (.int .i64 W)).set_ 3 (.int .i64 H)
    have r0 := hb9.cellV (i := 0) (v := .int .i64 X) rfl
    have r1 := hb9.cellV (i := 1) (v := .int .i64 Y) rfl
    have r2 := hb9.cellV (i := 2) (v := .int .i64 W) rfl
    have r3 := hb9.cellV (i := 3) (v := .int .i64 H) rfl
    exact bodyPost_ret (v := .agg #[.int .i64 X, .int .i64 Y, .int .i64 W, .int .i64 H]) (by simp [results, Tryz.results79, go_sem, r0, r1, r2, r3]) rfl ⟨rfl, bset (p := ⟨w.heap.size + 1, 3, none⟩) (bset (p := ⟨w.heap.size + 1, 2, none⟩) (bset (p := ⟨w.heap.size + 1, 1, none⟩) (bset (p := ⟨w.heap.size + 1, 0, none⟩) HB.out (by show w.heap.size ≤ w.heap.size + 1; omega) _) (by show w.heap.size ≤ w.heap.size + 1; omega) _) (by show w.heap.size ≤ w.heap.size + 1; omega) _) (by show w.heap.size ≤ w.heap.size + 1; omega) _⟩

set_option maxRecDepth 100000 in
theorem dcoord_any (n : Int) (w : World) : Calls Tryz.prog 57 #[.int .i64 n] w fun e w' => e = .returned (.bool (coordB n)) ∧ w = w' := by
  unfold coordB
  cases d1 : decide (-32768 ≤ n) <;> cases d2 : decide (n ≤ 32767)
  all_goals
    go_enter Tryz.func57, Tryz.ntmps57
    go_wp2_with fail
    go_ret
    exact ⟨rfl, rfl⟩
set_option maxRecDepth 100000 in
theorem dside_any (n : Int) (w : World) : Calls Tryz.prog 53 #[.int .i64 n] w fun e w' => e = .returned (.bool (sideB n)) ∧ w = w' := by
  unfold sideB
  cases d1 : decide (1 ≤ n) <;> cases d2 : decide (n ≤ 128)
  all_goals
    go_enter Tryz.func53, Tryz.ntmps53
    go_wp2_with fail
    go_ret
    exact ⟨rfl, rfl⟩

set_option maxRecDepth 100000 in
set_option maxHeartbeats 1000000 in
theorem dident_any (id : Int) (w : World) (h : 0 ≤ id ∧ id ≤ 4294967295) : Calls Tryz.prog 78 #[.int .u32 id] w fun e w' => e = .returned (.int .i64 (if idC id = 0 then 0 else 1)) ∧ w = w' := by
  have hq : 0 ≤ id / 1048576 ∧ id / 1048576 ≤ 4294967295 := by omega
  have hr : 0 ≤ id % 1048576 ∧ id % 1048576 ≤ 1048576 := by omega
  have h' := h
  by_cases h1 : id = 1
  · subst h1
    have e1 : (if idC 1 = 0 then (0 : Int) else 1) = 0 := by decide
    rw [e1]
    go_enter Tryz.func78, Tryz.ntmps78
    go_wp2_with fail
    go_ret
    exact ⟨rfl, rfl⟩
  have d1 : (id == 1) = false := by simp [h1]
  have t : (decide (id / 1048576 < 1) = true ∧ (if idC id = 0 then (0 : Int) else 1) = 1) ∨ (decide (id / 1048576 < 1) = false ∧ ((decide (8 < id / 1048576) = true ∧ (if idC id = 0 then (0 : Int) else 1) = 1) ∨ (decide (8 < id / 1048576) = false ∧ (((id % 1048576 == 0) = true ∧ (if idC id = 0 then (0 : Int) else 1) = 1) ∨ ((id % 1048576 == 0) = false ∧ (if idC id = 0 then (0 : Int) else 1) = 0))))) := by
    unfold idC clientB
    simp only [decide_eq_true_eq, decide_eq_false_iff_not, beq_iff_eq, beq_eq_false_iff_ne, ne_eq]
    by_cases a : id / 1048576 < 1
    · left
      refine ⟨a, ?_⟩
      simp [a, h1]
      split <;> simp_all
    · right
      refine ⟨a, ?_⟩
      have a0 : ¬ id = 0 := by omega
      by_cases b : 8 < id / 1048576
      · left
        refine ⟨b, ?_⟩
        simp [b, h1, a0]
      · right
        refine ⟨b, ?_⟩
        by_cases c : id % 1048576 = 0
        · left
          refine ⟨c, ?_⟩
          simp [c, h1, a0]
        · right
          refine ⟨c, ?_⟩
          simp [a, b, c, h1, a0]
  rcases t with ⟨d2, e⟩ | ⟨d2, ⟨d3, e⟩ | ⟨d3, ⟨d4, e⟩ | ⟨d4, e⟩⟩⟩
  all_goals
    rw [e]
    clear e h1
    go_enter Tryz.func78, Tryz.ntmps78
    go_wp2_with fail
    go_ret
    exact ⟨rfl, rfl⟩
set_option maxRecDepth 100000 in
theorem dwrong_any (id : Int) (w : World) (h : 0 ≤ id ∧ id ≤ 4294967295) : Calls Tryz.prog 56 #[.int .u32 id] w fun e w' => e = .returned (.bool (!(decide (idC id = 0)))) ∧ w = w' := by
  by_cases h0 : idC id = 0
  · have H0 := Lib.hid (show (if idC id = 0 then (0 : Int) else 1) = 0 by rw [if_pos h0])
    rw [decide_eq_true h0]
    clear h0
    go_enter Tryz.func56, Tryz.ntmps56
    go_wp2_with (go_at_call 78; refine (dident_any _ _ h).mono ?_; rintro e w' ⟨rfl, rfl⟩; rw [H0.out])
    go_ret
    exact ⟨rfl, rfl⟩
  · have H0 := Lib.hid (show (if idC id = 0 then (0 : Int) else 1) = 1 by rw [if_neg h0])
    rw [decide_eq_false h0]
    clear h0
    go_enter Tryz.func56, Tryz.ntmps56
    go_wp2_with (go_at_call 78; refine (dident_any _ _ h).mono ?_; rintro e w' ⟨rfl, rfl⟩; rw [H0.out])
    go_ret
    exact ⟨rfl, rfl⟩

end Go.Proofs.YtbfefkhejknmoaaGreatDoor
