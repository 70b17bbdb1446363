/-
  The walks of the document's functions: Right, far, Long, near, At.
-/
import Derived.Test.YtcdecglbkcllaaaLineWalkA
namespace Go.Proofs.Ytcdecglbkcllaaa.Ln
open Go.RowKit

theorem ret_int {k : IntKind} {a b : Int} (h : a = b) : Ending.returned (.int k a) = .returned (.int k b) := by rw [h]
theorem ret_p2 {a b c d : Int} (h : a = b ∧ c = d) : Ending.returned (.agg #[.int .i64 a, .int .i64 c]) = .returned (.agg #[.int .i64 b, .int .i64 d]) := by rw [h.1, h.2]

set_option maxHeartbeats 400000 in
theorem rfar_any (a b : Int) (w : World) (h : -4000000000000000000 ≤ a - b ∧ a - b ≤ 4000000000000000000) :
    Calls Try.prog 36 #[.int .i64 a, .int .i64 b] w fun e w' => e = .returned (.int .i64 ((a - b).natAbs : Int)) ∧ w = w' := by
  go_enter Try.func36, Try.ntmps36
  go_wp2
  all_goals
    go_ret
    simp
    omega

set_option maxHeartbeats 400000 in
theorem rright_any (x y : Int) (w : World) :
    Calls Try.prog 11 #[.agg #[.int .i64 x, .int .i64 y]] w fun e w' => e = .returned (.bool (rightB x y)) ∧ w' = w.alloc (.cells #[.int .i64 x, .int .i64 y] 23) := by
  by_cases h1 : -1048576 ≤ x
  all_goals by_cases h2 : x ≤ 1048576
  all_goals by_cases h3 : -1048576 ≤ y
  all_goals by_cases h4 : y ≤ 1048576
  all_goals try (exfalso; omega)
  all_goals
    go_enter Try.func11, Try.ntmps11
    go_wp2
    go_ret
    simp [rightB, coordB, h1, h2, h3, h4]

set_option maxHeartbeats 400000 in
theorem rlong_any (ax ay bx by' : Int) (w : World) (h1 : rightB ax ay = true) (h2 : rightB bx by' = true) :
    Calls Try.prog 13 #[.agg #[.int .i64 ax, .int .i64 ay], .agg #[.int .i64 bx, .int .i64 by']] w fun e w' => e = .returned (.int .i64 (stpI ax ay bx by' + 1)) ∧ Below w.heap.size w w' := by
  have hm : stpI ax ay bx by' = max ((bx - ax).natAbs : Int) (by' - ay).natAbs := by rw [stpI]; exact stp_max ax ay bx by'
  have h1 := right_bd h1
  have h2 := right_bd h2
  have HM := Lib.hid hm
  clear hm
  go_enter Try.func13, Try.ntmps13
  go_wp2_with fail
  go_quiet ((go_at_call 36; exact Calls.quiet_of_same (same_of (rfar_any _ _ _ (by omega)))))
  go_wp2_with fail
  all_goals
    go_ret
    exact ⟨ret_int (by have := HM.out; omega), below_drewN (((Below.refl _ _).alloc (Nat.le_refl _) _).alloc (by simp) _) _⟩

theorem prod_bd (a b A B : Int) (ha : -A ≤ a ∧ a ≤ A) (hb : -B ≤ b ∧ b ≤ B) : -(A * B) ≤ a * b ∧ a * b ≤ A * B := by
  have h : (a * b).natAbs ≤ (A * B).natAbs := by
    rw [Int.natAbs_mul, Int.natAbs_mul]
    exact Nat.mul_le_mul (by omega) (by omega)
  have : 0 ≤ A * B := Int.mul_nonneg (by omega) (by omega)
  omega
theorem tdiv_mul_bd (x y : Int) (hy : 0 < y) : x - y < x.tdiv y * y ∧ x.tdiv y * y < x + y := by
  have e := tdiv_eq x y
  have b := tmod_bd x y hy
  rw [Int.mul_comm] at e
  omega

theorem rn1 (n d : Int) (h1 : n < n.tdiv d * d) (h2 : d < 2 * (n - (n.tdiv d - 1) * d)) : rnear n d = n.tdiv d - 1 + 1 := by
  unfold rnear rq; rw [if_pos h1, if_pos h2]
theorem rn2 (n d : Int) (h1 : n < n.tdiv d * d) (h2 : 2 * (n - (n.tdiv d - 1) * d) ≤ d) : rnear n d = n.tdiv d - 1 := by
  unfold rnear rq; rw [if_pos h1, if_neg (by omega)]
theorem rn3 (n d : Int) (h1 : n.tdiv d * d ≤ n) (h2 : d < 2 * (n - n.tdiv d * d)) : rnear n d = n.tdiv d + 1 := by
  unfold rnear rq; rw [if_neg (show ¬ n < n.tdiv d * d by omega), if_pos h2]
theorem rn4 (n d : Int) (h1 : n.tdiv d * d ≤ n) (h2 : 2 * (n - n.tdiv d * d) ≤ d) : rnear n d = n.tdiv d := by
  unfold rnear rq; rw [if_neg (show ¬ n < n.tdiv d * d by omega), if_neg (by omega)]

set_option maxHeartbeats 1000000 in
theorem rnear_any (u0 v0 u1 v1 u : Int) (w : World) (hd : u0 < u1) (hd' : u1 - u0 ≤ 4194304) (hv0 : -1048576 ≤ v0 ∧ v0 ≤ 1048576) (hv1 : -1048576 ≤ v1 ∧ v1 ≤ 1048576) (hu : -8388608 ≤ u ∧ u ≤ 8388608) (hu0 : -1048576 ≤ u0 ∧ u0 ≤ 1048576) :
    Calls Try.prog 37 #[.int .i64 u0, .int .i64 v0, .int .i64 u1, .int .i64 v1, .int .i64 u] w fun e w' => e = .returned (.int .i64 (v0 + rnear ((u - u0) * (v1 - v0)) (u1 - u0))) ∧ w = w' := by
  have hN := prod_bd (u - u0) (v1 - v0) 16777216 2097152 (by omega) (by omega)
  simp only [Int.reduceMul, Int.reduceNeg] at hN
  have hq := tdiv_bd ((u - u0) * (v1 - v0)) (u1 - u0) (by omega) (by omega)
  have hm := tdiv_mul_bd ((u - u0) * (v1 - v0)) (u1 - u0) (by omega)
  have hm2 : (((u - u0) * (v1 - v0)).tdiv (u1 - u0) - 1) * (u1 - u0) = ((u - u0) * (v1 - v0)).tdiv (u1 - u0) * (u1 - u0) - (u1 - u0) := by rw [Int.sub_mul, Int.one_mul]
  have hm3 : -1000000000000000 ≤ (((u - u0) * (v1 - v0)).tdiv (u1 - u0) - 1) * (u1 - u0) ∧ (((u - u0) * (v1 - v0)).tdiv (u1 - u0) - 1) * (u1 - u0) ≤ 1000000000000000 := by omega
  clear hm2
  go_enter Try.func37, Try.ntmps37
  go_wp2
  all_goals
    go_ret
    refine ⟨ret_int ?_, rfl⟩
    refine congrArg (v0 + ·) ?_
    first
      | (refine Eq.trans ?_ (rn1 _ _ ?_ ?_).symm <;> omega)
      | (refine Eq.trans ?_ (rn2 _ _ ?_ ?_).symm <;> omega)
      | (refine Eq.trans ?_ (rn3 _ _ ?_ ?_).symm <;> omega)
      | (refine Eq.trans ?_ (rn4 _ _ ?_ ?_).symm <;> omega)

theorem pt_one (ax ay k : Int) : ptx ax ay ax ay k = ax ∧ pty ax ay ax ay k = ay := by
  unfold ptx pty flatB
  simp [sgn, nr]

set_option maxHeartbeats 1000000 in
theorem rat_sd (ax ay bx by' k : Int) (w : World) (h1 : rightB ax ay = true) (h2 : rightB bx by' = true) (hk0 : 0 ≤ k) (hk1 : k ≤ 2097152) (hf : flatB ax ay bx by' = false) (hud : by' < ay) :
    Calls Try.prog 14 #[.agg #[.int .i64 ax, .int .i64 ay], .agg #[.int .i64 bx, .int .i64 by'], .int .i64 k] w fun e w' => e = .returned (.agg #[.int .i64 (ptx ax ay bx by' k), .int .i64 (pty ax ay bx by' k)]) ∧ Below w.heap.size w w' := by
  have b1 := right_bd h1
  have b2 := right_bd h2
  have hne : (ax == bx && ay == by') = false := by simp; omega
  have hfd : decide ((ay - by').natAbs ≤ (ax - bx).natAbs) = false := by simp [flatB] at hf; simp; omega
  have A := Lib.hid (at_steep_down ax ay bx by' k hf hud)
  clear hf h1 h2
  go_enter Try.func14, Try.ntmps14
  go_wp2_with fail
  go_quiet ((go_at_call 36; exact Calls.quiet_of_same (same_of (rfar_any _ _ _ (by omega)))))
  go_wp2_with (go_at_call 37; refine (rnear_any _ _ _ _ _ _ (by omega) (by omega) (by omega) (by omega) (by omega) (by omega)).mono ?_; rintro e w' ⟨rfl, rfl⟩)
  exact bodyPost_ret (v := P2 (bx + rnear ((ay - k - by') * (ax - bx)) (ay - by')) (ay - k)) (by simp [results, Try.results14, go_sem]) rfl ⟨ret_p2 A.out, below_drewN ((((Below.refl _ _).alloc (Nat.le_refl _) _).alloc (by simp) _).alloc (by simp; omega) _) _⟩

set_option maxHeartbeats 1000000 in
theorem rat_su (ax ay bx by' k : Int) (w : World) (h1 : rightB ax ay = true) (h2 : rightB bx by' = true) (hk0 : 0 ≤ k) (hk1 : k ≤ 2097152) (hf : flatB ax ay bx by' = false) (hud : ay < by') :
    Calls Try.prog 14 #[.agg #[.int .i64 ax, .int .i64 ay], .agg #[.int .i64 bx, .int .i64 by'], .int .i64 k] w fun e w' => e = .returned (.agg #[.int .i64 (ptx ax ay bx by' k), .int .i64 (pty ax ay bx by' k)]) ∧ Below w.heap.size w w' := by
  have b1 := right_bd h1
  have b2 := right_bd h2
  have hne : (ax == bx && ay == by') = false := by simp; omega
  have hfd : decide ((ay - by').natAbs ≤ (ax - bx).natAbs) = false := by simp [flatB] at hf; simp; omega
  have A := Lib.hid (at_steep_up ax ay bx by' k hf hud)
  clear hf h1 h2
  go_enter Try.func14, Try.ntmps14
  go_wp2_with fail
  go_quiet ((go_at_call 36; exact Calls.quiet_of_same (same_of (rfar_any _ _ _ (by omega)))))
  go_wp2_with (go_at_call 37; refine (rnear_any _ _ _ _ _ _ (by omega) (by omega) (by omega) (by omega) (by omega) (by omega)).mono ?_; rintro e w' ⟨rfl, rfl⟩)
  exact bodyPost_ret (v := P2 (ax + rnear ((ay + k - ay) * (bx - ax)) (by' - ay)) (ay + k)) (by simp [results, Try.results14, go_sem]) rfl ⟨ret_p2 A.out, below_drewN ((((Below.refl _ _).alloc (Nat.le_refl _) _).alloc (by simp) _).alloc (by simp; omega) _) _⟩

set_option maxHeartbeats 1000000 in
theorem rat_fu (ax ay bx by' k : Int) (w : World) (h1 : rightB ax ay = true) (h2 : rightB bx by' = true) (hk0 : 0 ≤ k) (hk1 : k ≤ 2097152) (hf : flatB ax ay bx by' = true) (hud : ax < bx) :
    Calls Try.prog 14 #[.agg #[.int .i64 ax, .int .i64 ay], .agg #[.int .i64 bx, .int .i64 by'], .int .i64 k] w fun e w' => e = .returned (.agg #[.int .i64 (ptx ax ay bx by' k), .int .i64 (pty ax ay bx by' k)]) ∧ Below w.heap.size w w' := by
  have b1 := right_bd h1
  have b2 := right_bd h2
  have hne : (ax == bx && ay == by') = false := by simp; omega
  have hfd : decide ((ay - by').natAbs ≤ (ax - bx).natAbs) = true := by simp [flatB] at hf; simp; omega
  have A := Lib.hid (at_flat_up ax ay bx by' k hf hud)
  clear hf h1 h2
  go_enter Try.func14, Try.ntmps14
  go_wp2_with fail
  go_quiet ((go_at_call 36; exact Calls.quiet_of_same (same_of (rfar_any _ _ _ (by omega)))))
  go_wp2_with (go_at_call 37; refine (rnear_any _ _ _ _ _ _ (by omega) (by omega) (by omega) (by omega) (by omega) (by omega)).mono ?_; rintro e w' ⟨rfl, rfl⟩)
  exact bodyPost_ret (v := P2 (ax + k) (ay + rnear ((ax + k - ax) * (by' - ay)) (bx - ax))) (by simp [results, Try.results14, go_sem]) rfl ⟨ret_p2 A.out, below_drewN ((((Below.refl _ _).alloc (Nat.le_refl _) _).alloc (by simp) _).alloc (by simp; omega) _) _⟩

set_option maxHeartbeats 1000000 in
theorem rat_fd (ax ay bx by' k : Int) (w : World) (h1 : rightB ax ay = true) (h2 : rightB bx by' = true) (hk0 : 0 ≤ k) (hk1 : k ≤ 2097152) (hf : flatB ax ay bx by' = true) (hud : bx < ax) :
    Calls Try.prog 14 #[.agg #[.int .i64 ax, .int .i64 ay], .agg #[.int .i64 bx, .int .i64 by'], .int .i64 k] w fun e w' => e = .returned (.agg #[.int .i64 (ptx ax ay bx by' k), .int .i64 (pty ax ay bx by' k)]) ∧ Below w.heap.size w w' := by
  have b1 := right_bd h1
  have b2 := right_bd h2
  have hne : (ax == bx && ay == by') = false := by simp; omega
  have hfd : decide ((ay - by').natAbs ≤ (ax - bx).natAbs) = true := by simp [flatB] at hf; simp; omega
  have A := Lib.hid (at_flat_down ax ay bx by' k hf hud)
  clear hf h1 h2
  go_enter Try.func14, Try.ntmps14
  go_wp2_with fail
  go_quiet ((go_at_call 36; exact Calls.quiet_of_same (same_of (rfar_any _ _ _ (by omega)))))
  go_wp2_with (go_at_call 37; refine (rnear_any _ _ _ _ _ _ (by omega) (by omega) (by omega) (by omega) (by omega) (by omega)).mono ?_; rintro e w' ⟨rfl, rfl⟩)
  exact bodyPost_ret (v := P2 (ax - k) (by' + rnear ((ax - k - bx) * (ay - by')) (ax - bx))) (by simp [results, Try.results14, go_sem]) rfl ⟨ret_p2 A.out, below_drewN ((((Below.refl _ _).alloc (Nat.le_refl _) _).alloc (by simp) _).alloc (by simp; omega) _) _⟩

set_option maxHeartbeats 400000 in
theorem rat_any (ax ay bx by' k : Int) (w : World) (h1 : rightB ax ay = true) (h2 : rightB bx by' = true) (hk0 : 0 ≤ k) (hk1 : k ≤ 2097152) :
    Calls Try.prog 14 #[.agg #[.int .i64 ax, .int .i64 ay], .agg #[.int .i64 bx, .int .i64 by'], .int .i64 k] w fun e w' => e = .returned (.agg #[.int .i64 (ptx ax ay bx by' k), .int .i64 (pty ax ay bx by' k)]) ∧ Below w.heap.size w w' := by
  by_cases hab : ax = bx ∧ ay = by'
  · obtain ⟨rfl, rfl⟩ := hab
    go_enter Try.func14, Try.ntmps14
    go_wp2_with fail
    refine bodyPost_ret (v := .agg #[.int .i64 ax, .int .i64 ay]) (by simp [results, Try.results14, go_sem]) rfl ⟨?_, ((((Below.refl _ _).alloc (Nat.le_refl _) _).alloc (by simp) _).alloc (by simp; omega) _)⟩
    rw [(pt_one ax ay k).1, (pt_one ax ay k).2]
  · cases hf : flatB ax ay bx by'
    · have hf1 := (flat_iff' _ _ _ _).1 hf
      by_cases hud : ay < by'
      · exact rat_su ax ay bx by' k w h1 h2 hk0 hk1 hf hud
      · exact rat_sd ax ay bx by' k w h1 h2 hk0 hk1 hf (by omega)
    · have hf1 := (flat_iff _ _ _ _).1 hf
      by_cases hud : ax < bx
      · exact rat_fu ax ay bx by' k w h1 h2 hk0 hk1 hf hud
      · exact rat_fd ax ay bx by' k w h1 h2 hk0 hk1 hf (by omega)

end Go.Proofs.Ytcdecglbkcllaaa.Ln
