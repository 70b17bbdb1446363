/-
  The walks of package band's small functions: which rectangles count; the comparers and predicates that it hands to the library.
-/
import Derived.Test.YtbfefkhejknmoaaGreatDoorBase
namespace Go.Proofs.YtbfefkhejknmoaaGreatDoor
open Go.RowKit

/-- a rectangle. -/
structure RC where
  X : Int
  Y : Int
  W : Int
  H : Int
  deriving Inhabited, DecidableEq
/-- how it stands in cells. -/
def RC.cells (r : RC) : List Value := [.int .i64 r.X, .int .i64 r.Y, .int .i64 r.W, .int .i64 r.H]
def fitsB (f n : Int) : Bool := decide (-1048576 ≤ f ∧ 0 < n ∧ f + n ≤ 1048576)
def RC.cnt (r : RC) : Bool := fitsB r.X r.W && fitsB r.Y r.H
theorem fits_iff (f n : Int) : fitsB f n = true ↔ -1048576 ≤ f ∧ 0 < n ∧ f + n ≤ 1048576 := by simp [fitsB]
theorem fits_no {f n : Int} (h : ¬ (-1048576 ≤ f ∧ 0 < n ∧ f + n ≤ 1048576)) : fitsB f n = false := by
  cases hc : fitsB f n
  · rfl
  · exact absurd ((fits_iff f n).1 hc) h

set_option maxRecDepth 100000 in
set_option maxHeartbeats 1000000 in
theorem fits_any (f n : Int) (w : World) (hf : f ≤ 9223372036854775807) : Calls Tryz.prog 85 #[.int .i64 f, .int .i64 n] w fun e w' => e = .returned (.bool (fitsB f n)) ∧ w = w' := by
  have t : decide (-1048576 ≤ f) = false ∨ (decide (-1048576 ≤ f) = true ∧ (decide (0 < n) = false ∨ (decide (0 < n) = true ∧ (decide (n ≤ 1048576 - f) = false ∨ decide (n ≤ 1048576 - f) = true)))) := by
    simp only [decide_eq_true_eq, decide_eq_false_iff_not]; omega
  rcases t with d1 | ⟨d1, d2 | ⟨d2, d3 | d3⟩⟩
  case inr.inr.inr =>
    have hb : -1048576 ≤ f := by simpa using d1
    have hv : fitsB f n = true := (fits_iff f n).2 (by simp only [decide_eq_true_eq] at d1 d2 d3; omega)
    have HV := Lib.hid hv
    clear hv
    go_enter Tryz.func85, Tryz.ntmps85
    go_wp2_with fail
    go_ret
    exact ⟨ret_bool HV.out.symm, rfl⟩
  all_goals
    have hv : fitsB f n = false := fits_no (by simp only [decide_eq_false_iff_not, decide_eq_true_eq] at *; omega)
    have HV := Lib.hid hv
    clear hv
    try (have hb : -1048576 ≤ f := (by simpa using d1))
    go_enter Tryz.func85, Tryz.ntmps85
    go_wp2_with fail
    go_ret
    exact ⟨ret_bool HV.out.symm, rfl⟩

set_option maxHeartbeats 1000000 in
theorem bcounts_any (r : RC) (w : World) (hx : r.X ≤ 9223372036854775807) (hy : r.Y ≤ 9223372036854775807) :
    Calls Tryz.prog 64 #[.agg #[.int .i64 r.X, .int .i64 r.Y, .int .i64 r.W, .int .i64 r.H]] w fun e w' => e = .returned (.bool r.cnt) ∧ w' = w.alloc (.cells #[.int .i64 r.X, .int .i64 r.Y, .int .i64 r.W, .int .i64 r.H] 29) := by
  cases h1 : fitsB r.X r.W
  · have hv : r.cnt = false := by simp [RC.cnt, h1]
    have HV := Lib.hid hv
    clear hv
    go_enter Tryz.func64, Tryz.ntmps64
    go_wp2_with (go_at_call 85; refine (fits_any _ _ _ (by assumption)).mono ?_; rintro e w' ⟨rfl, rfl⟩)
    go_ret
    exact ⟨ret_bool HV.out.symm, rfl⟩
  · have hv : r.cnt = fitsB r.Y r.H := by simp [RC.cnt, h1]
    have HV := Lib.hid hv
    clear hv
    go_enter Tryz.func64, Tryz.ntmps64
    go_wp2_with (go_at_call 85; refine (fits_any _ _ _ (by assumption)).mono ?_; rintro e w' ⟨rfl, rfl⟩)
    go_ret
    exact ⟨ret_bool HV.out.symm, rfl⟩

/-- what Go's comparer tells of two numbers. -/
def cmpI (a b : Int) : Int := if a < b then -1 else if b < a then 1 else 0
set_option maxHeartbeats 400000 in
theorem isNaN_any (a : Int) (w : World) : Calls Tryz.prog 88 #[.int .i64 a] w fun e w' => e = .returned (.bool false) ∧ w = w' := by
  go_enter Tryz.func88, Tryz.ntmps88
  go_wp2_with fail
  go_ret
  simp
set_option maxHeartbeats 1000000 in
theorem compare_any (a b : Int) (w : World) : Calls Tryz.prog 68 #[.int .i64 a, .int .i64 b] w fun e w' => e = .returned (.int .i64 (cmpI a b)) ∧ w = w' := by
  have t : (decide (a < b) = true ∧ cmpI a b = -1) ∨ (decide (a < b) = false ∧ decide (b < a) = true ∧ cmpI a b = 1) ∨ (decide (a < b) = false ∧ decide (b < a) = false ∧ cmpI a b = 0) := by
    unfold cmpI
    by_cases h1 : a < b
    · exact .inl ⟨decide_eq_true h1, if_pos h1⟩
    · by_cases h2 : b < a
      · exact .inr (.inl ⟨decide_eq_false h1, decide_eq_true h2, by rw [if_neg h1, if_pos h2]⟩)
      · exact .inr (.inr ⟨decide_eq_false h1, decide_eq_false h2, by rw [if_neg h1, if_neg h2]⟩)
  rcases t with ⟨d1, hv⟩ | ⟨d1, d2, hv⟩ | ⟨d1, d2, hv⟩
  all_goals
    have HV := Lib.hid hv
    clear hv
    go_enter Tryz.func68, Tryz.ntmps68
    go_wp2_with (go_at_call 88; refine (isNaN_any _ _).mono ?_; rintro e w' ⟨rfl, rfl⟩)
    go_ret
    exact ⟨ret_int HV.out.symm, rfl⟩

/-- by rows, then across. -/
def cmpX (a b : RC) : Int := cmpI a.X b.X

set_option maxHeartbeats 1000000 in
theorem of3_any (x y : RC) (w : World) : Calls Tryz.prog 72 #[.agg #[.int .i64 x.X, .int .i64 x.Y, .int .i64 x.W, .int .i64 x.H], .agg #[.int .i64 y.X, .int .i64 y.Y, .int .i64 y.W, .int .i64 y.H]] w fun e w' => e = .returned (.int .i64 (cmpX x y)) ∧ w' = (w.alloc (.cells #[.int .i64 x.X, .int .i64 x.Y, .int .i64 x.W, .int .i64 x.H] 29)).alloc (.cells #[.int .i64 y.X, .int .i64 y.Y, .int .i64 y.W, .int .i64 y.H] 29) := by
  go_enter Tryz.func72, Tryz.ntmps72
  go_wp2_with (go_at_call 68; refine (compare_any _ _ _).mono ?_; rintro e w' ⟨rfl, rfl⟩)
  go_ret
  exact ⟨rfl, rfl⟩

/-- the first that is not 0. -/
def orI (a b : Int) : Int := if a ≠ 0 then a else b
set_option maxHeartbeats 1000000 in
theorem or2_any (a b : Int) (g : Nat) (w : World) (h : w.cell? ⟨g, 0, none⟩ = some (.int .i64 a) ∧ w.cell? ⟨g, 1, none⟩ = some (.int .i64 b)) :
    Calls Tryz.prog 67 #[.slice (some ⟨g, 0, none⟩) 2 2] w fun e w' => e = .returned (.int .i64 (orI a b)) ∧ w = w' := by
  obtain ⟨h0, h1⟩ := h
  by_cases ha : a = 0
  · subst ha
    have hv : orI 0 b = b := by simp [orI]
    have HV := Lib.hid hv
    clear hv
    by_cases hb : b = 0
    · subst hb
      go_enter Tryz.func67, Tryz.ntmps67
      go_wp2_with fail
      refine wp_loop_rounds 3 ?_
      rw [rounds_succ]
      go_wp2_with fail
      rw [rounds_succ]
      go_wp2_with fail
      rw [rounds_succ]
      go_wp2_with fail
      go_ret
      exact ⟨ret_int HV.out.symm, rfl⟩
    · have d : (b != 0) = true := by simpa using hb
      go_enter Tryz.func67, Tryz.ntmps67
      go_wp2_with fail
      refine wp_loop_rounds 2 ?_
      rw [rounds_succ]
      go_wp2_with fail
      rw [rounds_succ]
      go_wp2_with fail
      go_ret
      exact ⟨ret_int HV.out.symm, rfl⟩
  · have hv : orI a b = a := if_pos ha
    have HV := Lib.hid hv
    have d : (a != 0) = true := by simpa using ha
    clear hv
    go_enter Tryz.func67, Tryz.ntmps67
    go_wp2_with fail
    refine wp_loop_rounds 1 ?_
    rw [rounds_succ]
    go_wp2_with fail
    go_ret
    exact ⟨ret_int HV.out.symm, rfl⟩

def cmpYX (a b : RC) : Int := orI (cmpI a.Y b.Y) (cmpI a.X b.X)
theorem two_at (w : World) (a b : Int) (t : TypeId) : (w.alloc (.cells #[.int .i64 a, .int .i64 b] t)).cell? ⟨w.heap.size, 0, none⟩ = some (.int .i64 a) ∧ (w.alloc (.cells #[.int .i64 a, .int .i64 b] t)).cell? ⟨w.heap.size, 1, none⟩ = some (.int .i64 b) :=
  ⟨(Blk.new w t _).cellV rfl, (Blk.new w t _).cellV rfl⟩
set_option maxHeartbeats 2000000 in
theorem of1_any (x y : RC) (w : World) : Calls Tryz.prog 66 #[.agg #[.int .i64 x.X, .int .i64 x.Y, .int .i64 x.W, .int .i64 x.H], .agg #[.int .i64 y.X, .int .i64 y.Y, .int .i64 y.W, .int .i64 y.H]] w fun e w' => e = .returned (.int .i64 (cmpYX x y)) ∧ w' = (((w.alloc (.cells #[.int .i64 x.X, .int .i64 x.Y, .int .i64 x.W, .int .i64 x.H] 29)).alloc (.cells #[.int .i64 y.X, .int .i64 y.Y, .int .i64 y.W, .int .i64 y.H] 29)).alloc (.cells #[.int .i64 (cmpI x.Y y.Y), .int .i64 (cmpI x.X y.X)] 3)).drew := by
  go_enter Tryz.func66, Tryz.ntmps66
  go_wp2_with fail
  have b0 := (Blk.new w 29 #[.int .i64 x.X, .int .i64 x.Y, .int .i64 x.W, .int .i64 x.H]).alloc (.cells #[.int .i64 y.X, .int .i64 y.Y, .int .i64 y.W, .int .i64 y.H] 29)
  have b1 := Blk.new (w.alloc (.cells #[.int .i64 x.X, .int .i64 x.Y, .int .i64 x.W, .int .i64 x.H] 29)) 29 #[.int .i64 y.X, .int .i64 y.Y, .int .i64 y.W, .int .i64 y.H]
  rw [World.size_alloc] at b1
  obtain ⟨Z, hZ⟩ : ∃ Z, (w.alloc (.cells #[.int .i64 x.X, .int .i64 x.Y, .int .i64 x.W, .int .i64 x.H] 29)).alloc (.cells #[.int .i64 y.X, .int .i64 y.Y, .int .i64 y.W, .int .i64 y.H] 29) = Z := ⟨_, rfl⟩
  rw [hZ] at b0 b1 ⊢
  have c0 := b0.cellV (i := 0) (v := .int .i64 x.X) rfl
  have c1 := b0.cellV (i := 1) (v := .int .i64 x.Y) rfl
  have d0 := b1.cellV (i := 0) (v := .int .i64 y.X) rfl
  have d1 := b1.cellV (i := 1) (v := .int .i64 y.Y) rfl
  have z0 := b0.lt
  have z1 := b1.lt
  have HZ := Lib.hid hZ
  clear b0 b1 hZ
  go_region_held3 (fun w' => w'.cell? ⟨w.heap.size, 0, none⟩ = some (.int .i64 x.X) ∧ w'.cell? ⟨w.heap.size, 1, none⟩ = some (.int .i64 x.Y) ∧ w'.cell? ⟨w.heap.size + 1, 0, none⟩ = some (.int .i64 y.X) ∧ w'.cell? ⟨w.heap.size + 1, 1, none⟩ = some (.int .i64 y.Y))
    (go_keep)
    (first | (go_at_call 68; refine (compare_any _ _ _).mono ?_; rintro e w' ⟨rfl, rfl⟩) | (go_at_call 67; refine (or2_any _ _ _ _ (by exact two_at _ _ _ _)).mono ?_; rintro e w' ⟨rfl, rfl⟩))
  go_wp2_with fail
  go_ret
  exact ⟨rfl, by rw [HZ.out]⟩

end Go.Proofs.YtbfefkhejknmoaaGreatDoor
