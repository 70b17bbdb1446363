/-
  The walks of the grid's small functions: side, has, Size, At; and of the document's In, At, Size.
-/
import Derived.Test.YtcdecglbkcllaabBase
namespace Go.Proofs.Ytcdecglbkcllaab
open Go.RowKit

def sideB (n : Int) : Bool := decide (1 ≤ n ∧ n ≤ 128)
def coordB (n : Int) : Bool := decide (-1048576 ≤ n ∧ n ≤ 1048576)
/-- has a grid of W by H this place? -/
def hasB (W H : Nat) (x y : Int) : Bool := decide (0 ≤ x ∧ x < W ∧ 0 ≤ y ∧ y < H)
/-- the pixel of a place, 0 where there is none. -/
def gat (W H : Nat) (px : List Int) (x y : Int) : Int := if hasB W H x y then px.getD (y.toNat * W + x.toNat) 0 else 0
def U8 (l : List Int) : List Value := l.map (Value.int .u8)

theorem has_iff (W H : Nat) (x y : Int) : hasB W H x y = true ↔ 0 ≤ x ∧ x < W ∧ 0 ≤ y ∧ y < H := by simp [hasB]
theorem has_idx {W H : Nat} {x y : Int} (h : hasB W H x y = true) : y.toNat * W + x.toNat < W * H := by
  have h := (has_iff W H x y).1 h
  have h1 : y.toNat + 1 ≤ H := by omega
  have h2 : (y.toNat + 1) * W ≤ H * W := Nat.mul_le_mul_right W h1
  rw [Nat.add_mul, Nat.one_mul, Nat.mul_comm H W] at h2
  omega

set_option maxHeartbeats 400000 in
theorem side_any (n : Int) (w : World) : Calls Try.prog 34 #[.int .i64 n] w fun e w' => e = .returned (.bool (sideB n)) ∧ w = w' := by
  by_cases h1 : 1 ≤ n
  all_goals by_cases h2 : n ≤ 128
  all_goals try (exfalso; omega)
  all_goals
    go_enter Try.func34, Try.ntmps34
    go_wp2
    go_ret
    simp [sideB, h1, h2]
set_option maxHeartbeats 400000 in
theorem coord_any (n : Int) (w : World) : Calls Try.prog 36 #[.int .i64 n] w fun e w' => e = .returned (.bool (coordB n)) ∧ w = w' := by
  by_cases h1 : -1048576 ≤ n
  all_goals by_cases h2 : n ≤ 1048576
  all_goals try (exfalso; omega)
  all_goals
    go_enter Try.func36, Try.ntmps36
    go_wp2
    go_ret
    simp [coordB, h1, h2]
set_option maxHeartbeats 400000 in
theorem rsize_any (a b : Int) (w : World) : Calls Try.prog 11 #[.int .i64 a, .int .i64 b] w fun e w' => e = .returned (.bool (sideB a && sideB b)) ∧ w = w' := by
  by_cases h1 : 1 ≤ a
  all_goals by_cases h2 : a ≤ 128
  all_goals by_cases h3 : 1 ≤ b
  all_goals by_cases h4 : b ≤ 128
  all_goals try (exfalso; omega)
  all_goals
    go_enter Try.func11, Try.ntmps11
    go_wp2
    go_ret
    simp [sideB, h1, h2, h3, h4]

set_option maxHeartbeats 1000000 in
theorem has_any (W H : Nat) (x y : Int) (A : Option Addr) (n c : Nat) (w : World) :
    Calls Try.prog 35 #[.agg #[.int .i64 W, .int .i64 H, .slice A n c], .int .i64 x, .int .i64 y] w fun e w' => e = .returned (.bool (hasB W H x y)) ∧ w' = w.alloc (.cells #[.int .i64 W, .int .i64 H, .slice A n c] 25) := by
  by_cases h1 : 0 ≤ x
  all_goals by_cases h2 : x < W
  all_goals by_cases h3 : 0 ≤ y
  all_goals by_cases h4 : y < H
  all_goals try (exfalso; omega)
  all_goals
    go_enter Try.func35, Try.ntmps35
    go_wp2
    go_ret
    simp [hasB, h1, h2, h3, h4]

set_option maxHeartbeats 1000000 in
theorem at_any (W H : Nat) (px : List Int) (x y : Int) (A : Option Addr) (n c : Nat) (w : World) (hn : n = W * H) (hW : W ≤ 128) (hH : H ≤ 128) (hr : Rd w A n (U8 px)) :
    Calls Try.prog 14 #[.agg #[.int .i64 W, .int .i64 H, .slice A n c], .int .i64 x, .int .i64 y] w fun e w' => e = .returned (.int .u8 (gat W H px x y)) ∧ Below w.heap.size w w' := by
  subst hn
  cases hh : hasB W H x y
  · have hv : gat W H px x y = 0 := by simp [gat, hh]
    have HV := Lib.hid hv
    have HR := Lib.hid hr
    clear hr hv
    go_enter Try.func14, Try.ntmps14
    go_wp2_with (go_at_call 35; refine (has_any _ _ _ _ _ _ _ _).mono ?_; rintro e w' ⟨rfl, rfl⟩)
    go_ret
    exact ⟨ret_int HV.out.symm, bal (bal (bre w) _) _⟩
  · have hi := has_idx hh
    have hb := (has_iff W H x y).1 hh
    obtain ⟨b, off, rfl, hlt, hc⟩ := hr.2 (by omega)
    have hlen : px.length = W * H := by simpa [U8] using hr.1
    have hcell := hc (y.toNat * W + x.toNat) (.int .u8 (px.getD (y.toNat * W + x.toNat) 0)) (by
      simp only [U8, List.getElem?_map]
      rw [List.getElem?_eq_getElem (by omega), List.getD_eq_getElem?_getD, List.getElem?_eq_getElem (by omega)]
      rfl)
    have hv : gat W H px x y = px.getD (y.toNat * W + x.toNat) 0 := by unfold gat; rw [if_pos hh]
    have hm : y * (W : Int) + x = ((y.toNat * W + x.toNat : Nat) : Int) := by
      rw [Int.natCast_add, Int.natCast_mul, Int.toNat_of_nonneg hb.2.2.1, Int.toNat_of_nonneg hb.1]
    have m1 : 0 ≤ y * (W : Int) := Int.mul_nonneg hb.2.2.1 (by omega)
    have m2 : y * (W : Int) ≤ 16384 := by
      have : y * (W : Int) ≤ 128 * 128 := Int.mul_le_mul (by omega) (by omega) (by omega) (by omega)
      omega
    have m3 : y * (W : Int) + x < ((W * H : Nat) : Int) := by rw [hm]; omega
    have m4 : (y * (W : Int) + x).toNat = y.toNat * W + x.toNat := by rw [hm]; exact Int.toNat_natCast _
    rw [← m4] at hcell
    have HV := Lib.hid hv
    have HM := Lib.hid m4
    clear hr hv hc hm m4 hi
    go_enter Try.func14, Try.ntmps14
    go_wp2_with (go_at_call 35; refine (has_any _ _ _ _ _ _ _ _).mono ?_; rintro e w' ⟨rfl, rfl⟩)
    go_ret
    exact ⟨ret_int (by rw [HV.out, ← HM.out, List.getD_eq_getElem?_getD]), bal (bal (bre w) _) _⟩

set_option maxHeartbeats 1000000 in
theorem rin_any (W H : Nat) (x y : Int) (A : Option Addr) (n c : Nat) (w : World) :
    Calls Try.prog 32 #[.agg #[.int .i64 W, .int .i64 H, .slice A n c], .int .i64 x, .int .i64 y] w fun e w' => e = .returned (.bool (hasB W H x y)) ∧ w' = w.alloc (.cells #[.int .i64 W, .int .i64 H, .slice A n c] 36) := by
  by_cases h1 : 0 ≤ x
  all_goals by_cases h2 : x < W
  all_goals by_cases h3 : 0 ≤ y
  all_goals by_cases h4 : y < H
  all_goals try (exfalso; omega)
  all_goals
    go_enter Try.func32, Try.ntmps32
    go_wp2
    go_ret
    simp [hasB, h1, h2, h3, h4]

set_option maxHeartbeats 1000000 in
theorem rat_any (W H : Nat) (px : List Int) (x y : Int) (A : Option Addr) (n c : Nat) (w : World) (hn : n = W * H) (hW : W ≤ 128) (hH : H ≤ 128) (hr : Rd w A n (U8 px)) :
    Calls Try.prog 23 #[.agg #[.int .i64 W, .int .i64 H, .slice A n c], .int .i64 x, .int .i64 y] w fun e w' => e = .returned (.int .u8 (gat W H px x y)) ∧ Below w.heap.size w w' := by
  subst hn
  cases hh : hasB W H x y
  · have hv : gat W H px x y = 0 := by simp [gat, hh]
    have HV := Lib.hid hv
    have HR := Lib.hid hr
    clear hr hv
    go_enter Try.func23, Try.ntmps23
    go_wp2_with (go_at_call 32; refine (rin_any _ _ _ _ _ _ _ _).mono ?_; rintro e w' ⟨rfl, rfl⟩)
    go_ret
    exact ⟨ret_int HV.out.symm, bal (bal (bre w) _) _⟩
  · have hi := has_idx hh
    have hb := (has_iff W H x y).1 hh
    obtain ⟨b, off, rfl, hlt, hc⟩ := hr.2 (by omega)
    have hlen : px.length = W * H := by simpa [U8] using hr.1
    have hcell := hc (y.toNat * W + x.toNat) (.int .u8 (px.getD (y.toNat * W + x.toNat) 0)) (by
      simp only [U8, List.getElem?_map]
      rw [List.getElem?_eq_getElem (by omega), List.getD_eq_getElem?_getD, List.getElem?_eq_getElem (by omega)]
      rfl)
    have hv : gat W H px x y = px.getD (y.toNat * W + x.toNat) 0 := by unfold gat; rw [if_pos hh]
    have hm : y * (W : Int) + x = ((y.toNat * W + x.toNat : Nat) : Int) := by
      rw [Int.natCast_add, Int.natCast_mul, Int.toNat_of_nonneg hb.2.2.1, Int.toNat_of_nonneg hb.1]
    have m1 : 0 ≤ y * (W : Int) := Int.mul_nonneg hb.2.2.1 (by omega)
    have m2 : y * (W : Int) ≤ 16384 := by
      have : y * (W : Int) ≤ 128 * 128 := Int.mul_le_mul (by omega) (by omega) (by omega) (by omega)
      omega
    have m3 : y * (W : Int) + x < ((W * H : Nat) : Int) := by rw [hm]; omega
    have m4 : (y * (W : Int) + x).toNat = y.toNat * W + x.toNat := by rw [hm]; exact Int.toNat_natCast _
    rw [← m4] at hcell
    have HV := Lib.hid hv
    have HM := Lib.hid m4
    clear hr hv hc hm m4 hi
    go_enter Try.func23, Try.ntmps23
    go_wp2_with (go_at_call 32; refine (rin_any _ _ _ _ _ _ _ _).mono ?_; rintro e w' ⟨rfl, rfl⟩)
    go_ret
    exact ⟨ret_int (by rw [HV.out, ← HM.out, List.getD_eq_getElem?_getD]), bal (bal (bre w) _) _⟩

set_option maxHeartbeats 400000 in
theorem size_any (W H : Int) (A : Option Addr) (n c : Nat) (w : World) :
    Calls Try.prog 12 #[.agg #[.int .i64 W, .int .i64 H, .slice A n c]] w fun e w' => e = .returned (.tuple #[.int .i64 W, .int .i64 H]) ∧ Below w.heap.size w w' := by
  go_enter Try.func12, Try.ntmps12
  go_wp2_with fail
  go_quiet (fail)
  go_wp2_with fail
  go_ret2
  exact ⟨rfl, below_drewN (bal (bre w) _) _⟩

end Go.Proofs.Ytcdecglbkcllaab
