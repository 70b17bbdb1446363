/-
  The walks of a line's two closures, and the document's functions.
-/
import Derived.Test.YtcdecglbkcllaaaLineWalkA
namespace Go.Proofs.Ytcdecglbkcllaaa.Ln
open Go.RowKit

set_option maxHeartbeats 1000000 in
theorem at1_any (i ax ay dx dy n : Int) (b1 b2 b3 b4 : Nat) (W : World) (hi0 : 0 ≤ i) (hi1 : i ≤ 2097152) (hax : -1048576 ≤ ax ∧ ax ≤ 1048576) (hay : -1048576 ≤ ay ∧ ay ≤ 1048576)
    (hdy : -2097152 ≤ dy ∧ dy ≤ 2097152) (hn : 0 ≤ n ∧ n ≤ 2097152) (hnr : -2097152 ≤ nr (i * dy) n ∧ nr (i * dy) n ≤ 2097152)
    (c1 : W.cell? ⟨b1, 0, none⟩ = some (.int .i64 ax)) (c2 : W.cell? ⟨b1, 1, none⟩ = some (.int .i64 ay)) (c3 : W.cell? ⟨b2, 0, none⟩ = some (.int .i64 dx)) (c4 : W.cell? ⟨b3, 0, none⟩ = some (.int .i64 dy)) (c5 : W.cell? ⟨b4, 0, none⟩ = some (.int .i64 n)) :
    Calls Try.prog 51 #[.int .i64 i, .pointer (some ⟨b1, 0, none⟩), .pointer (some ⟨b2, 0, none⟩), .pointer (some ⟨b3, 0, none⟩), .pointer (some ⟨b4, 0, none⟩)] W
      fun e w' => e = .returned (.agg #[.int .i64 (ax + i * sgn dx), .int .i64 (ay + nr (i * dy) n)]) ∧ Below W.heap.size W w' := by
  have m1 := mul_bd i dy 2097152 2097152 hi0 hi1 hdy
  have m2 := mul_bd i (sgn dx) 2097152 1 hi0 hi1 (by unfold sgn; split <;> (try split) <;> omega)
  have l1 := block_lt_of_cell c1
  have l3 := block_lt_of_cell c3
  have l4 := block_lt_of_cell c4
  have l5 := block_lt_of_cell c5
  simp only [Int.reduceMul, Int.reduceNeg] at m1 m2 l1 l3 l4 l5
  have e1 : IntKind.i64.wrap (i * dy) = i * dy := IntWalk.i64_in _ (by omega)
  have e2 : IntKind.i64.wrap (i * sgn dx) = i * sgn dx := IntWalk.i64_in _ (by omega)
  have e3 : IntKind.i64.wrap (ax + i * sgn dx) = ax + i * sgn dx := IntWalk.i64_in _ (by omega)
  have e4 : IntKind.i64.wrap (ay + nr (i * dy) n) = ay + nr (i * dy) n := IntWalk.i64_in _ (by omega)
  go_enter Try.func51, Try.ntmps51
  go_wp2_with fail
  go_region_held3 (fun w' => w'.cell? ⟨b1, 0, none⟩ = some (.int .i64 ax) ∧ w'.cell? ⟨b1, 1, none⟩ = some (.int .i64 ay) ∧ w'.cell? ⟨b2, 0, none⟩ = some (.int .i64 dx) ∧ w'.cell? ⟨b3, 0, none⟩ = some (.int .i64 dy) ∧ w'.cell? ⟨b4, 0, none⟩ = some (.int .i64 n)) (go_keep)
    (first | (go_at_call 52; refine (sign_any _ _).mono ?_; rintro e w' ⟨rfl, rfl⟩) | (go_at_call 53; refine (near_any _ _ _ (by omega) (by omega) (by omega) (by omega)).mono ?_; rintro e w' ⟨rfl, rfl⟩))
  clear e1 e2 e3 e4
  go_wp2_with fail
  exact bodyPost_ret (v := .agg #[.int .i64 (ax + i * sgn dx), .int .i64 (ay + nr (i * dy) n)]) (by simp [results, Try.results51, go_sem]) rfl ⟨rfl, below_drewN ((Below.refl _ _).alloc (Nat.le_refl _) _) 1⟩

set_option maxHeartbeats 1000000 in
theorem at2_any (i ax ay dx dy n : Int) (b1 b2 b3 b4 : Nat) (W : World) (hi0 : 0 ≤ i) (hi1 : i ≤ 2097152) (hax : -1048576 ≤ ax ∧ ax ≤ 1048576) (hay : -1048576 ≤ ay ∧ ay ≤ 1048576)
    (hdx : -2097152 ≤ dx ∧ dx ≤ 2097152) (hn : 0 ≤ n ∧ n ≤ 2097152) (hnr : -2097152 ≤ nr (i * dx) n ∧ nr (i * dx) n ≤ 2097152)
    (c1 : W.cell? ⟨b1, 0, none⟩ = some (.int .i64 ax)) (c2 : W.cell? ⟨b1, 1, none⟩ = some (.int .i64 ay)) (c3 : W.cell? ⟨b2, 0, none⟩ = some (.int .i64 dx)) (c4 : W.cell? ⟨b3, 0, none⟩ = some (.int .i64 n)) (c5 : W.cell? ⟨b4, 0, none⟩ = some (.int .i64 dy)) :
    Calls Try.prog 54 #[.int .i64 i, .pointer (some ⟨b1, 0, none⟩), .pointer (some ⟨b2, 0, none⟩), .pointer (some ⟨b3, 0, none⟩), .pointer (some ⟨b4, 0, none⟩)] W
      fun e w' => e = .returned (.agg #[.int .i64 (ax + nr (i * dx) n), .int .i64 (ay + i * sgn dy)]) ∧ Below W.heap.size W w' := by
  have m1 := mul_bd i dx 2097152 2097152 hi0 hi1 hdx
  have m2 := mul_bd i (sgn dy) 2097152 1 hi0 hi1 (by unfold sgn; split <;> (try split) <;> omega)
  have l1 := block_lt_of_cell c1
  have l3 := block_lt_of_cell c3
  have l4 := block_lt_of_cell c4
  have l5 := block_lt_of_cell c5
  simp only [Int.reduceMul, Int.reduceNeg] at m1 m2 l1 l3 l4 l5
  have e1 : IntKind.i64.wrap (i * dx) = i * dx := IntWalk.i64_in _ (by omega)
  have e2 : IntKind.i64.wrap (i * sgn dy) = i * sgn dy := IntWalk.i64_in _ (by omega)
  have e3 : IntKind.i64.wrap (ax + nr (i * dx) n) = ax + nr (i * dx) n := IntWalk.i64_in _ (by omega)
  have e4 : IntKind.i64.wrap (ay + i * sgn dy) = ay + i * sgn dy := IntWalk.i64_in _ (by omega)
  go_enter Try.func54, Try.ntmps54
  go_wp2_with fail
  go_region_held3 (fun w' => w'.cell? ⟨b1, 0, none⟩ = some (.int .i64 ax) ∧ w'.cell? ⟨b1, 1, none⟩ = some (.int .i64 ay) ∧ w'.cell? ⟨b2, 0, none⟩ = some (.int .i64 dx) ∧ w'.cell? ⟨b3, 0, none⟩ = some (.int .i64 n) ∧ w'.cell? ⟨b4, 0, none⟩ = some (.int .i64 dy)) (go_keep)
    (first | (go_at_call 52; refine (sign_any _ _).mono ?_; rintro e w' ⟨rfl, rfl⟩) | (go_at_call 53; refine (near_any _ _ _ (by omega) (by omega) (by omega) (by omega)).mono ?_; rintro e w' ⟨rfl, rfl⟩))
  clear e1 e2 e3 e4
  go_wp2_with fail
  exact bodyPost_ret (v := .agg #[.int .i64 (ax + nr (i * dx) n), .int .i64 (ay + i * sgn dy)]) (by simp [results, Try.results54, go_sem]) rfl ⟨rfl, below_drewN ((Below.refl _ _).alloc (Nat.le_refl _) _) 1⟩

theorem mul_stp (i d n : Int) (h0 : 0 ≤ i) (hi : i ≤ n) (hd : -n ≤ d ∧ d ≤ n) : -n ≤ nr (i * d) n ∧ nr (i * d) n ≤ n := by
  have := nr_way i n d h0 hi hd
  omega

/-- the i-th place, told by the function value. -/
theorem atfn_any {W : World} {lo hi : Nat} {f : Value} {ax ay bx by' : Int} (hA : AtFn W lo hi f ax ay bx by') (h1 : rightB ax ay = true) (h2 : rightB bx by' = true) (i : Int) (hi0 : 0 ≤ i) (hi1 : i ≤ stp ax ay bx by') :
    ∃ k caps, f = .func (.func k) #[] caps ∧ (k = 51 ∨ k = 54) ∧ Calls Try.prog k (#[.int .i64 i] ++ caps) W fun e w' => e = .returned (.agg #[.int .i64 (ptx ax ay bx by' i), .int .i64 (pty ax ay bx by' i)]) ∧ Below W.heap.size W w' := by
  have b1 := right_bd h1
  have b2 := right_bd h2
  have hs := stp_le h1 h2
  rcases hA with ⟨hf, p1, p2, p3, p4, rfl, hr, c1, c2, c3, c4, c5⟩ | ⟨hf, p1, p2, p3, p4, rfl, hr, c1, c2, c3, c4, c5⟩
  · have hf' := (flat_iff _ _ _ _).1 hf
    unfold stp at hi1 hs
    rw [if_pos hf] at hi1 hs
    have hw := mul_stp i (by' - ay) (bx - ax).natAbs hi0 hi1 (by omega)
    refine ⟨_, _, rfl, .inl rfl, ?_⟩
    unfold ptx pty
    rw [if_pos hf, if_pos hf]
    exact at1_any i ax ay (bx - ax) (by' - ay) (bx - ax).natAbs p1 p2 p3 p4 W hi0 (by omega) (by omega) (by omega) (by omega) (by omega) (by omega) c1 c2 c3 c4 c5
  · have hf' := (flat_iff' _ _ _ _).1 hf
    unfold stp at hi1 hs
    rw [if_neg (by simp [hf])] at hi1 hs
    have hw := mul_stp i (bx - ax) (by' - ay).natAbs hi0 hi1 (by omega)
    refine ⟨_, _, rfl, .inr rfl, ?_⟩
    unfold ptx pty
    rw [if_neg (by simp [hf]), if_neg (by simp [hf])]
    exact at2_any i ax ay (bx - ax) (by' - ay) (by' - ay).natAbs p1 p2 p3 p4 W hi0 (by omega) (by omega) (by omega) (by omega) (by omega) (by omega) c1 c2 c3 c4 c5
theorem AtFn.below {W W' : World} {lo hi B : Nat} {f : Value} {ax ay bx by' : Int} (hA : AtFn W lo hi f ax ay bx by') (hb : Below B W W') (hB : hi ≤ B) : AtFn W' lo hi f ax ay bx by' := by
  rcases hA with ⟨hf, p1, p2, p3, p4, e, hr, c1, c2, c3, c4, c5⟩ | ⟨hf, p1, p2, p3, p4, e, hr, c1, c2, c3, c4, c5⟩
  · exact .inl ⟨hf, p1, p2, p3, p4, e, hr, (hb.cell (p := ⟨p1, 0, none⟩) (by dsimp only; omega)).trans c1, (hb.cell (p := ⟨p1, 1, none⟩) (by dsimp only; omega)).trans c2, (hb.cell (p := ⟨p2, 0, none⟩) (by dsimp only; omega)).trans c3, (hb.cell (p := ⟨p3, 0, none⟩) (by dsimp only; omega)).trans c4, (hb.cell (p := ⟨p4, 0, none⟩) (by dsimp only; omega)).trans c5⟩
  · exact .inr ⟨hf, p1, p2, p3, p4, e, hr, (hb.cell (p := ⟨p1, 0, none⟩) (by dsimp only; omega)).trans c1, (hb.cell (p := ⟨p1, 1, none⟩) (by dsimp only; omega)).trans c2, (hb.cell (p := ⟨p2, 0, none⟩) (by dsimp only; omega)).trans c3, (hb.cell (p := ⟨p3, 0, none⟩) (by dsimp only; omega)).trans c4, (hb.cell (p := ⟨p4, 0, none⟩) (by dsimp only; omega)).trans c5⟩

end Go.Proofs.Ytcdecglbkcllaaa.Ln
