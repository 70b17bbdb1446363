/-
  The walks of package rect's words at rectangles that may be windows': they are not empty; and of gravity.part.
-/
import Derived.Test.YtbfefkhejknmoaaGreatDoorCh5
namespace Go.Proofs.YtbfefkhejknmoaaGreatDoor
open Go.RowKit

/-- a rectangle that may be a window's. -/
def RC.win (r : RC) : Prop := (-100000 ≤ r.X ∧ r.X ≤ 100000) ∧ (-100000 ≤ r.Y ∧ r.Y ≤ 100000) ∧ (1 ≤ r.W ∧ r.W ≤ 128) ∧ (1 ≤ r.H ∧ r.H ≤ 128)
theorem run_eql_rc (w : World) (a b c d a' b' c' d' : Int) : (binOp .eql 29 (.agg #[.int .i64 a, .int .i64 b, .int .i64 c, .int .i64 d]) (.agg #[.int .i64 a', .int .i64 b', .int .i64 c', .int .i64 d'])).run Tryz.prog w = .ok (.bool (a == a' && b == b' && c == c' && d == d')) w := by
  cases h1 : (a == a') <;> cases h2 : (b == b') <;> cases h3 : (c == c') <;> cases h4 : (d == d') <;> simp [go_sem, h1, h2, h3, h4]

set_option maxRecDepth 100000 in
set_option maxHeartbeats 1000000 in
theorem rfits_yes (f n : Int) (w : World) (hf : -1000000 ≤ f ∧ f ≤ 1000000) (hn : 1 ≤ n ∧ n ≤ 128) (h : f ≤ 1000000) : Calls Tryz.prog 114 #[.int .i64 f, .int .i64 n] w fun e w' => e = .returned (.bool true) ∧ w = w' := by
  have d1 : decide (-1048576 ≤ f) = true := by simp; omega
  have d2 : decide (1 ≤ n) = true := by simp; omega
  have d3 : decide (n ≤ 1048576 - f) = true := by simp; omega
  go_enter Tryz.func114, Tryz.ntmps114
  go_wp2_with fail
  go_ret
  exact ⟨rfl, rfl⟩

attribute [local go_sem ↓] run_eql_rc
set_option maxRecDepth 100000 in
set_option maxHeartbeats 1000000 in
theorem rcheck_ok (r : RC) (w : World) (h : r.win) : Calls Tryz.prog 97 #[.agg #[.int .i64 r.X, .int .i64 r.Y, .int .i64 r.W, .int .i64 r.H]] w fun e w' => e = .returned (.int .i64 0) ∧ Below w.heap.size w w' := by
  obtain ⟨hx, hy, hw, hh⟩ := h
  have d1 : (r.X == 0 && r.Y == 0 && r.W == 0 && r.H == 0) = false := by
    have : (r.W == 0) = false := by simp; omega
    rw [this]
    simp
  go_enter Tryz.func97, Tryz.ntmps97
  go_wp2_with (first
    | (go_at_call 114; refine (rfits_yes _ _ _ (by omega) (by omega) (by omega)).mono ?_; rintro e w' ⟨rfl, rfl⟩))
  go_ret
  exact ⟨rfl, (by repeat (first | exact bre _ | refine bal ?_ _ | refine bset ?_ (by simp) _ | refine bset ?_ (by simp; omega) _))⟩

set_option maxRecDepth 100000 in
set_option maxHeartbeats 1000000 in
theorem right_ok (r : RC) (w : World) (h : r.win) : Calls Tryz.prog 82 #[.agg #[.int .i64 r.X, .int .i64 r.Y, .int .i64 r.W, .int .i64 r.H]] w fun e w' => e = .returned (.agg #[.int .i64 r.X, .int .i64 r.Y, .int .i64 r.W, .int .i64 r.H]) ∧ Below w.heap.size w w' := by
  have b0 := (Blk.new w 29 #[.int .i64 r.X, .int .i64 r.Y, .int .i64 r.W, .int .i64 r.H]).alloc (.cells #[.int .i64 0, .int .i64 0, .int .i64 0, .int .i64 0] 29)
  have b1 := blk_new2 w (.cells #[.int .i64 r.X, .int .i64 r.Y, .int .i64 r.W, .int .i64 r.H] 29) 29 #[.int .i64 0, .int .i64 0, .int .i64 0, .int .i64 0]
  have HB0 := Lib.hid (bal (bal (bre w) (.cells #[.int .i64 r.X, .int .i64 r.Y, .int .i64 r.W, .int .i64 r.H] 29)) (.cells #[.int .i64 0, .int .i64 0, .int .i64 0, .int .i64 0] 29))
  have H0 := Lib.hid b0
  have H1 := Lib.hid b1
  clear b0 b1
  go_enter Tryz.func82, Tryz.ntmps82
  go_wp2_with fail
  with_reducible refine (rcheck_ok r _ h).mono ?_
  rintro e w1 ⟨rfl, hb1⟩
  have b0 := H0.out.belowS hb1
  have b1 := H1.out.belowS hb1
  have p0 := b0.cellV (i := 0) (v := .int .i64 r.X) rfl
  have p1 := b0.cellV (i := 1) (v := .int .i64 r.Y) rfl
  have p2 := b0.cellV (i := 2) (v := .int .i64 r.W) rfl
  have p3 := b0.cellV (i := 3) (v := .int .i64 r.H) rfl
  have q0 := b1.cellV (i := 0) (v := .int .i64 0) rfl
  have q1 := b1.cellV (i := 1) (v := .int .i64 0) rfl
  have q2 := b1.cellV (i := 2) (v := .int .i64 0) rfl
  have q3 := b1.cellV (i := 3) (v := .int .i64 0) rfl
  have f0 := b1.frozen 0
  have f1 := b1.frozen 1
  have f2 := b1.frozen 2
  have f3 := b1.frozen 3
  have rl := b1.lt
  have HB1 := Lib.hid (bstep HB0.out hb1)
  have H1 := Lib.hid b1
  clear b0 b1 hb1
  go_wp2_with fail
  have hb9 := (((H1.out.set_ 0 (.int .i64 r.X)).set_ 1 (.int .i64 r.Y)).set_ 2 (.int .i64 r.W)).set_ 3 (.int .i64 r.H)
  have s0 := hb9.cellV (i := 0) (v := .int .i64 r.X) rfl
  have s1 := hb9.cellV (i := 1) (v := .int .i64 r.Y) rfl
  have s2 := hb9.cellV (i := 2) (v := .int .i64 r.W) rfl
  have s3 := hb9.cellV (i := 3) (v := .int .i64 r.H) rfl
  exact bodyPost_ret (v := .agg #[.int .i64 r.X, .int .i64 r.Y, .int .i64 r.W, .int .i64 r.H]) (by simp [results, Tryz.results82, go_sem, s0, s1, s2, s3]) rfl ⟨rfl, bset (bset (bset (bset HB1.out (by show w.heap.size ≤ w.heap.size + 1; omega) _) (by show w.heap.size ≤ w.heap.size + 1; omega) _) (by show w.heap.size ≤ w.heap.size + 1; omega) _) (by show w.heap.size ≤ w.heap.size + 1; omega) _⟩

set_option maxRecDepth 100000 in
set_option maxHeartbeats 1000000 in
theorem rempty_no (r : RC) (w : World) (h : r.win) : Calls Tryz.prog 61 #[.agg #[.int .i64 r.X, .int .i64 r.Y, .int .i64 r.W, .int .i64 r.H]] w fun e w' => e = .returned (.bool false) ∧ Below w.heap.size w w' := by
  have d1 : (r.X == 0 && r.Y == 0 && r.W == 0 && r.H == 0) = false := by
    have : (r.W == 0) = false := by have := h.2.2.1; simp; omega
    rw [this]
    simp
  go_enter Tryz.func61, Tryz.ntmps61
  go_wp2_with fail
  with_reducible refine (right_ok r _ h).mono ?_
  rintro e w1 ⟨rfl, hb1⟩
  have HB1 := Lib.hid (bstep (bal (bre w) (.cells #[.int .i64 r.X, .int .i64 r.Y, .int .i64 r.W, .int .i64 r.H] 29)) hb1)
  clear hb1
  go_wp2_with fail
  go_ret
  exact ⟨rfl, HB1.out⟩

/-- so many halves of a number. -/
def partI (n c : Int) : Int := if c = 1 then n / 2 else if c = 2 then n else 0
set_option maxRecDepth 100000 in
set_option maxHeartbeats 1000000 in
theorem part_any (n c : Int) (w : World) (hn : -1000000 ≤ n ∧ n ≤ 1000000) : Calls Tryz.prog 62 #[.int .i64 n, .int .i64 c] w fun e w' => e = .returned (.int .i64 (partI n c)) ∧ w = w' := by
  unfold partI
  by_cases h1 : c = 1
  · subst h1
    go_enter Tryz.func62, Tryz.ntmps62
    go_wp2_with fail
    go_ret
    exact ⟨rfl, rfl⟩
  · have d1 : (c == 1) = false := by simp [h1]
    by_cases h2 : c = 2
    · subst h2
      go_enter Tryz.func62, Tryz.ntmps62
      go_wp2_with fail
      go_ret
      exact ⟨rfl, rfl⟩
    · have d2 : (c == 2) = false := by simp [h2]
      rw [if_neg h1, if_neg h2]
      clear h1 h2
      go_enter Tryz.func62, Tryz.ntmps62
      go_wp2_with fail
      go_ret
      exact ⟨rfl, rfl⟩

end Go.Proofs.YtbfefkhejknmoaaGreatDoor
