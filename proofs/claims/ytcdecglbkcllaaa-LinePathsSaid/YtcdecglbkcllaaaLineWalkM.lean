/-
  The walks of what tells whether a rectangle counts, is big, has a place: the program's and the document's.
-/
import Derived.Test.YtcdecglbkcllaaaLineWalkL
namespace Go.Proofs.Ytcdecglbkcllaaa.Ln
open Go.RowKit

def cntB (X Y W H : Int) : Bool := decide (1 ≤ W ∧ 1 ≤ H ∧ -1048576 ≤ X ∧ X ≤ 1048576 ∧ -1048576 ≤ Y ∧ Y ≤ 1048576 ∧ X + W ≤ 1048576 ∧ Y + H ≤ 1048576)
def inB (X Y W H x y : Int) : Bool := decide (X ≤ x ∧ x < X + W ∧ Y ≤ y ∧ y < Y + H)
def bigB (X Y W H : Int) : Bool := cntB X Y W H && (decide (65536 < W) || decide (65536 < H))
theorem cnt_iff (X Y W H : Int) : cntB X Y W H = true ↔ 1 ≤ W ∧ 1 ≤ H ∧ -1048576 ≤ X ∧ X ≤ 1048576 ∧ -1048576 ≤ Y ∧ Y ≤ 1048576 ∧ X + W ≤ 1048576 ∧ Y + H ≤ 1048576 := by simp [cntB]
theorem cnt_no {X Y W H : Int} (h : ¬ (1 ≤ W ∧ 1 ≤ H ∧ -1048576 ≤ X ∧ X ≤ 1048576 ∧ -1048576 ≤ Y ∧ Y ≤ 1048576 ∧ X + W ≤ 1048576 ∧ Y + H ≤ 1048576)) : cntB X Y W H = false := by
  cases hc : cntB X Y W H
  · rfl
  · exact absurd ((cnt_iff X Y W H).1 hc) h
theorem coord_iff (n : Int) : coordB n = true ↔ -1048576 ≤ n ∧ n ≤ 1048576 := by simp [coordB]
theorem coord_iff' (n : Int) : coordB n = false ↔ ¬ (-1048576 ≤ n ∧ n ≤ 1048576) := by simp [coordB]

set_option maxRecDepth 100000 in
set_option maxHeartbeats 1000000 in
theorem counts_any (X Y W H : Int) (w : World) :
    Calls Try.prog 56 #[.agg #[.int .i64 X, .int .i64 Y, .int .i64 W, .int .i64 H]] w fun e w' => e = .returned (.bool (cntB X Y W H)) ∧ w' = w.alloc (.cells #[.int .i64 X, .int .i64 Y, .int .i64 W, .int .i64 H] 45) := by
  by_cases h1 : 0 < W
  · by_cases h2 : 0 < H
    · cases h3 : coordB X
      · have hv := cnt_no (X := X) (Y := Y) (W := W) (H := H) (by have := (coord_iff' X).1 h3; omega)
        have HV := Lib.hid hv
        clear hv
        go_enter Try.func56, Try.ntmps56
        go_wp2_with (go_at_call 48; refine (coord_any _ _).mono ?_; rintro e w' ⟨rfl, rfl⟩)
        go_ret
        exact ⟨ret_bool HV.out.symm, rfl⟩
      · have b3 := (coord_iff X).1 h3
        cases h4 : coordB Y
        · have hv := cnt_no (X := X) (Y := Y) (W := W) (H := H) (by have := (coord_iff' Y).1 h4; omega)
          have HV := Lib.hid hv
          clear hv
          go_enter Try.func56, Try.ntmps56
          go_wp2_with (go_at_call 48; refine (coord_any _ _).mono ?_; rintro e w' ⟨rfl, rfl⟩)
          go_ret
          exact ⟨ret_bool HV.out.symm, rfl⟩
        · have b4 := (coord_iff Y).1 h4
          by_cases h5 : W ≤ 1048576 - X
          · by_cases h6 : H ≤ 1048576 - Y
            · have hv : cntB X Y W H = true := (cnt_iff X Y W H).2 (by omega)
              have HV := Lib.hid hv
              have d5 : decide (W ≤ 1048576 - X) = true := decide_eq_true h5
              have d6 : decide (H ≤ 1048576 - Y) = true := decide_eq_true h6
              clear hv h5 h6
              go_enter Try.func56, Try.ntmps56
              go_wp2_with (go_at_call 48; refine (coord_any _ _).mono ?_; rintro e w' ⟨rfl, rfl⟩)
              go_ret
              exact ⟨ret_bool HV.out.symm, rfl⟩
            · have hv := cnt_no (X := X) (Y := Y) (W := W) (H := H) (by omega)
              have HV := Lib.hid hv
              have d5 : decide (W ≤ 1048576 - X) = true := decide_eq_true h5
              have d6 : decide (H ≤ 1048576 - Y) = false := decide_eq_false h6
              clear hv h5 h6
              go_enter Try.func56, Try.ntmps56
              go_wp2_with (go_at_call 48; refine (coord_any _ _).mono ?_; rintro e w' ⟨rfl, rfl⟩)
              go_ret
              exact ⟨ret_bool HV.out.symm, rfl⟩
          · have hv := cnt_no (X := X) (Y := Y) (W := W) (H := H) (by omega)
            have HV := Lib.hid hv
            have d5 : decide (W ≤ 1048576 - X) = false := decide_eq_false h5
            clear hv h5
            go_enter Try.func56, Try.ntmps56
            go_wp2_with (go_at_call 48; refine (coord_any _ _).mono ?_; rintro e w' ⟨rfl, rfl⟩)
            go_ret
            exact ⟨ret_bool HV.out.symm, rfl⟩
    · have hv := cnt_no (X := X) (Y := Y) (W := W) (H := H) (by omega)
      have HV := Lib.hid hv
      have d2 : decide (0 < H) = false := decide_eq_false h2
      clear hv h2
      go_enter Try.func56, Try.ntmps56
      go_wp2_with fail
      go_ret
      exact ⟨ret_bool HV.out.symm, rfl⟩
  · have hv := cnt_no (X := X) (Y := Y) (W := W) (H := H) (by omega)
    have HV := Lib.hid hv
    have d1 : decide (0 < W) = false := decide_eq_false h1
    clear hv h1
    go_enter Try.func56, Try.ntmps56
    go_wp2_with fail
    go_ret
    exact ⟨ret_bool HV.out.symm, rfl⟩

set_option maxRecDepth 100000 in
set_option maxHeartbeats 2000000 in
theorem rcounts_any (X Y W H : Int) (w : World) :
    Calls Try.prog 20 #[.agg #[.int .i64 X, .int .i64 Y, .int .i64 W, .int .i64 H]] w fun e w' => e = .returned (.bool (cntB X Y W H)) ∧ w' = w.alloc (.cells #[.int .i64 X, .int .i64 Y, .int .i64 W, .int .i64 H] 45) := by
  have t : decide (W < 1) = true ∨ (decide (W < 1) = false ∧ (decide (H < 1) = true ∨ (decide (H < 1) = false ∧ (decide (2097152 < W) = true ∨ (decide (2097152 < W) = false ∧ (decide (2097152 < H) = true ∨ (decide (2097152 < H) = false ∧ (decide (X < -1048576) = true ∨ (decide (X < -1048576) = false ∧ (decide (Y < -1048576) = true ∨ (decide (Y < -1048576) = false ∧ (decide (1048576 < X) = true ∨ (decide (1048576 < X) = false ∧ (decide (1048576 < Y) = true ∨ decide (1048576 < Y) = false)))))))))))))) := by
    simp only [decide_eq_true_eq, decide_eq_false_iff_not]; omega
  rcases t with d1 | ⟨d1, d2 | ⟨d2, d3 | ⟨d3, d4 | ⟨d4, d5 | ⟨d5, d6 | ⟨d6, d7 | ⟨d7, d8 | d8⟩⟩⟩⟩⟩⟩⟩
  case inr.inr.inr.inr.inr.inr.inr.inr =>
    have bd : 1 ≤ W ∧ 1 ≤ H ∧ W ≤ 2097152 ∧ H ≤ 2097152 ∧ -1048576 ≤ X ∧ -1048576 ≤ Y ∧ X ≤ 1048576 ∧ Y ≤ 1048576 := by
      simp only [decide_eq_false_iff_not] at d1 d2 d3 d4 d5 d6 d7 d8; omega
    by_cases h1 : X + W ≤ 1048576
    · have e1 : decide (X + W ≤ 1048576) = true := decide_eq_true h1
      by_cases h2 : Y + H ≤ 1048576
      · have hv : cntB X Y W H = true := (cnt_iff X Y W H).2 (by omega)
        have HV := Lib.hid hv
        have e2 : decide (Y + H ≤ 1048576) = true := decide_eq_true h2
        clear hv h1 h2
        go_enter Try.func20, Try.ntmps20
        go_wp2_with fail
        go_ret
        exact ⟨ret_bool HV.out.symm, rfl⟩
      · have hv := cnt_no (X := X) (Y := Y) (W := W) (H := H) (by omega)
        have HV := Lib.hid hv
        have e2 : decide (Y + H ≤ 1048576) = false := decide_eq_false h2
        clear hv h1 h2
        go_enter Try.func20, Try.ntmps20
        go_wp2_with fail
        go_ret
        exact ⟨ret_bool HV.out.symm, rfl⟩
    · have hv := cnt_no (X := X) (Y := Y) (W := W) (H := H) (by omega)
      have HV := Lib.hid hv
      have e1 : decide (X + W ≤ 1048576) = false := decide_eq_false h1
      clear hv h1
      go_enter Try.func20, Try.ntmps20
      go_wp2_with fail
      go_ret
      exact ⟨ret_bool HV.out.symm, rfl⟩
  all_goals
    have hv : cntB X Y W H = false := cnt_no (by simp only [decide_eq_false_iff_not, decide_eq_true_eq] at *; omega)
    have HV := Lib.hid hv
    clear hv
    go_enter Try.func20, Try.ntmps20
    go_wp2_with fail
    go_ret
    exact ⟨ret_bool HV.out.symm, rfl⟩

set_option maxHeartbeats 1000000 in
theorem rin_any (X Y W H x y : Int) (w : World) (hX : -1048576 ≤ X ∧ X ≤ 1048576) (hY : -1048576 ≤ Y ∧ Y ≤ 1048576) (hW : 0 ≤ W ∧ W ≤ 2097152) (hH : 0 ≤ H ∧ H ≤ 2097152) :
    Calls Try.prog 21 #[.agg #[.int .i64 X, .int .i64 Y, .int .i64 W, .int .i64 H], .int .i64 x, .int .i64 y] w fun e w' => e = .returned (.bool (inB X Y W H x y)) ∧ w' = w.alloc (.cells #[.int .i64 X, .int .i64 Y, .int .i64 W, .int .i64 H] 45) := by
  have t : decide (X ≤ x) = false ∨ (decide (X ≤ x) = true ∧ (decide (x < X + W) = false ∨ (decide (x < X + W) = true ∧ (decide (Y ≤ y) = false ∨ (decide (Y ≤ y) = true ∧ (decide (y < Y + H) = false ∨ decide (y < Y + H) = true)))))) := by
    simp only [decide_eq_true_eq, decide_eq_false_iff_not]; omega
  rcases t with h1 | ⟨h1, h2 | ⟨h2, h3 | ⟨h3, h4 | h4⟩⟩⟩
  case inr.inr.inr.inr =>
    have hv : inB X Y W H x y = true := by
      simp only [decide_eq_true_eq] at h1 h2 h3 h4
      simp [inB]; omega
    have HV := Lib.hid hv
    clear hv
    go_enter Try.func21, Try.ntmps21
    go_wp2_with fail
    go_ret
    exact ⟨ret_bool HV.out.symm, rfl⟩
  all_goals
    have hv : inB X Y W H x y = false := by
      simp only [decide_eq_true_eq, decide_eq_false_iff_not] at *
      simp [inB]; omega
    have HV := Lib.hid hv
    clear hv
    go_enter Try.func21, Try.ntmps21
    go_wp2_with fail
    go_ret
    exact ⟨ret_bool HV.out.symm, rfl⟩

set_option maxRecDepth 100000 in
set_option maxHeartbeats 1000000 in
theorem big_any (X Y W H : Int) (w : World) :
    Calls Try.prog 39 #[.agg #[.int .i64 X, .int .i64 Y, .int .i64 W, .int .i64 H]] w fun e w' => e = .returned (.bool (bigB X Y W H)) ∧ Below w.heap.size w w' := by
  cases h1 : cntB X Y W H
  · have hv : bigB X Y W H = false := by simp [bigB, h1]
    have HV := Lib.hid hv
    clear hv
    go_enter Try.func39, Try.ntmps39
    go_wp2_with (go_at_call 56; refine (counts_any _ _ _ _ _).mono ?_; rintro e w' ⟨rfl, rfl⟩)
    go_ret
    exact ⟨ret_bool HV.out.symm, bal (bal (bre w) _) _⟩
  · cases h2 : decide (65536 < W)
    · cases h3 : decide (65536 < H)
      all_goals
        have hv : bigB X Y W H = decide (65536 < H) := by simp only [bigB, h1, h2, h3]; rfl
        rw [h3] at hv
        have HV := Lib.hid hv
        clear hv
        go_enter Try.func39, Try.ntmps39
        go_wp2_with (go_at_call 56; refine (counts_any _ _ _ _ _).mono ?_; rintro e w' ⟨rfl, rfl⟩)
        go_ret
        exact ⟨ret_bool HV.out.symm, bal (bal (bre w) _) _⟩
    · have hv : bigB X Y W H = true := by simp only [bigB, h1, h2]; rfl
      have HV := Lib.hid hv
      clear hv
      go_enter Try.func39, Try.ntmps39
      go_wp2_with (go_at_call 56; refine (counts_any _ _ _ _ _).mono ?_; rintro e w' ⟨rfl, rfl⟩)
      go_ret
      exact ⟨ret_bool HV.out.symm, bal (bal (bre w) _) _⟩

end Go.Proofs.Ytcdecglbkcllaaa.Ln
