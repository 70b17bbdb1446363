/-
  The walks of line.On and of the document's On; both answer whether the place is the line's at its own step.
-/
import Derived.Test.YtcdecglbkcllaaaLineWalkJ
namespace Go.Proofs.Ytcdecglbkcllaaa.Ln
open Go.RowKit Go.Shelf
attribute [local go_sem ↓] run_eql_pt run_neq_pt

/-- the step at which a line comes to a place's longer coordinate. -/
def stepOf (ax ay bx by' x y : Int) : Int := if flatB ax ay bx by' then (if sgn (bx - ax) < 0 then ax - x else x - ax) else (if sgn (by' - ay) < 0 then ay - y else y - ay)
def ptB (ax ay bx by' i x y : Int) : Bool := ptx ax ay bx by' i == x && pty ax ay bx by' i == y
/-- is a place one of a line's? -/
def onB (ax ay bx by' x y : Int) : Bool := decide (0 ≤ stepOf ax ay bx by' x y ∧ stepOf ax ay bx by' x y ≤ stp ax ay bx by') && ptB ax ay bx by' (stepOf ax ay bx by' x y) x y

theorem partLo_one (ax ay bx by' x y : Int) : partLo ax ay bx by' x y 1 1 = stepOf ax ay bx by' x y := by
  unfold partLo stepOf pLo
  split <;> split <;> omega
theorem partHi_one (ax ay bx by' x y : Int) : partHi ax ay bx by' x y 1 1 = stepOf ax ay bx by' x y := by
  unfold partHi stepOf pHi
  split <;> split <;> omega
/-- the document's step, without a sign. -/
def farOf (ax ay bx by' x y : Int) : Int := if flatB ax ay bx by' then ((ax - x).natAbs : Int) else ((ay - y).natAbs : Int)
theorem on_far (ax ay bx by' x y : Int) : onB ax ay bx by' x y = (decide (farOf ax ay bx by' x y < stp ax ay bx by' + 1) && ptB ax ay bx by' (farOf ax ay bx by' x y) x y) := by
  by_cases h0 : 0 ≤ stepOf ax ay bx by' x y
  · have e : farOf ax ay bx by' x y = stepOf ax ay bx by' x y := by
      unfold farOf stepOf at *
      split at h0 <;> (rename_i hf; simp only [hf, if_true, if_false, Bool.false_eq_true]) <;> split at h0 <;> (rename_i hs; simp only [hs, if_true, if_false]) <;> omega
    unfold onB
    rw [e]
    congr 1
    rw [decide_eq_decide]
    omega
  · have hf : onB ax ay bx by' x y = false := by
      unfold onB
      rw [decide_eq_false (by omega)]
      rfl
    rw [hf]
    symm
    rw [Bool.and_eq_false_iff]
    by_cases hk : farOf ax ay bx by' x y < stp ax ay bx by' + 1
    · right
      unfold ptB
      rw [Bool.and_eq_false_iff]
      unfold farOf stepOf stp at *
      cases hfl : flatB ax ay bx by'
      · right
        simp only [hfl, Bool.false_eq_true, if_false] at hk h0 ⊢
        rw [beq_eq_false_iff_ne]
        unfold pty
        rw [if_neg (by rw [hfl]; simp), sgn_mul]
        unfold sgn at h0
        split at h0 <;> (try split at h0) <;> split <;> (try split) <;> omega
      · left
        simp only [hfl, if_true] at hk h0 ⊢
        rw [beq_eq_false_iff_ne]
        unfold ptx
        rw [if_pos hfl, sgn_mul]
        unfold sgn at h0
        split at h0 <;> (try split at h0) <;> split <;> (try split) <;> omega
    · left
      exact decide_eq_false hk

theorem ret_bool {a b : Bool} (h : a = b) : Ending.returned (.bool a) = .returned (.bool b) := by rw [h]
theorem ptB_pt (ax ay bx by' i x y : Int) : (ptx ax ay bx by' i == x && pty ax ay bx by' i == y) = ptB ax ay bx by' i x y := rfl

set_option maxRecDepth 100000 in
set_option maxHeartbeats 2000000 in
theorem on_no (ax ay bx by' x y : Int) (w : World) (h : (rightB ax ay && rightB bx by' && rightB x y) = false) :
    Calls Try.prog 17 #[.agg #[.int .i64 ax, .int .i64 ay], .agg #[.int .i64 bx, .int .i64 by'], .int .i64 x, .int .i64 y] w fun e w' => e = .returned (.bool false) ∧ Below w.heap.size w w' := by
  cases h1 : rightB ax ay
  · clear h
    go_enter Try.func17, Try.ntmps17
    go_wp2_with (go_at_call 33; refine (right_any _ _ _).mono ?_; rintro e w' ⟨rfl, rfl⟩)
    go_ret
    exact ⟨rfl, bal (bal (bal (bre w) _) _) _⟩
  · cases h2 : rightB bx by'
    · clear h
      go_enter Try.func17, Try.ntmps17
      go_wp2_with (go_at_call 33; refine (right_any _ _ _).mono ?_; rintro e w' ⟨rfl, rfl⟩)
      go_ret
      exact ⟨rfl, bal (bal (bal (bal (bre w) _) _) _) _⟩
    · have h3 : rightB x y = false := by simpa [h1, h2] using h
      clear h
      go_enter Try.func17, Try.ntmps17
      go_wp2_with (go_at_call 33; refine (right_any _ _ _).mono ?_; rintro e w' ⟨rfl, rfl⟩)
      go_ret
      exact ⟨rfl, bal (bal (bal (bal (bal (bre w) _) _) _) _) _⟩

set_option maxRecDepth 100000 in
set_option maxHeartbeats 2000000 in
theorem on_yes (ax ay bx by' x y : Int) (w : World) (h1 : rightB ax ay = true) (h2 : rightB bx by' = true) (h3 : rightB x y = true) :
    Calls Try.prog 17 #[.agg #[.int .i64 ax, .int .i64 ay], .agg #[.int .i64 bx, .int .i64 by'], .int .i64 x, .int .i64 y] w fun e w' => e = .returned (.bool (onB ax ay bx by' x y)) ∧ Below w.heap.size w w' := by
  have hs := stpI_bd h1 h2
  have b3 := right_bd h3
  have H1 := Lib.hid h1
  have H2 := Lib.hid h2
  have b1 := right_bd h1
  have hst : -4194304 ≤ stepOf ax ay bx by' x y ∧ stepOf ax ay bx by' x y ≤ 4194304 := by
    have b2 := right_bd h2
    unfold stepOf
    split <;> split <;> omega
  have HST := Lib.hid hst
  obtain ⟨i0, hi0⟩ : ∃ i0, stepOf ax ay bx by' x y = i0 := ⟨_, rfl⟩
  rw [hi0] at hst
  have HI := Lib.hid hi0
  clear hi0
  go_enter Try.func17, Try.ntmps17
  go_wp2_with (go_at_call 33; refine (right_any _ _ _).mono ?_; rintro e w' ⟨rfl, rfl⟩)
  refine (track_any _ _ _ _ _ H1.out H2.out).mono ?_
  rintro e w1 ⟨f, rfl, hA, hb⟩
  obtain ⟨fk, caps, rfl⟩ := hA.form
  have HA := Lib.hid hA
  have zb := hb.size
  simp only [World.size_alloc] at zb
  have c0 : w1.cell? ⟨w.heap.size, 0, none⟩ = some (.int .i64 ax) := (hb.cell (p := ⟨w.heap.size, 0, none⟩) (by simp only [World.size_alloc]; omega)).trans (by go_simp)
  have c1 : w1.cell? ⟨w.heap.size, 1, none⟩ = some (.int .i64 ay) := (hb.cell (p := ⟨w.heap.size, 1, none⟩) (by simp only [World.size_alloc]; omega)).trans (by go_simp)
  have c2 : w1.cell? ⟨w.heap.size + 1, 0, none⟩ = some (.int .i64 bx) := (hb.cell (p := ⟨w.heap.size + 1, 0, none⟩) (by simp only [World.size_alloc]; omega)).trans (by go_simp)
  have c3 : w1.cell? ⟨w.heap.size + 1, 1, none⟩ = some (.int .i64 by') := (hb.cell (p := ⟨w.heap.size + 1, 1, none⟩) (by simp only [World.size_alloc]; omega)).trans (by go_simp)
  have HB : Hid (Below w.heap.size w w1) := bstep (bal (bal (bal (bal (bal (bre w) _) _) _) _) _) hb
  clear hA hb
  go_wp2_with fail
  refine (part_any _ _ _ _ _ _ _ _ _ _ H1.out H2.out (by omega) (by omega) (by omega) (by omega)).mono ?_
  rintro e w2 ⟨rfl, hb2⟩
  rw [partLo_one, partHi_one, HI.out]
  have HA2 := Lib.hid (HA.out.below hb2 (Nat.le_refl _))
  have HB2 : Hid (Below w.heap.size w w2) := bstep HB.out hb2
  have zb2 := hb2.size
  clear hb2 c0 c1 c2 c3 HA HB
  by_cases hin : 0 ≤ i0 ∧ i0 ≤ stpI ax ay bx by'
  · have hval : onB ax ay bx by' x y = ptB ax ay bx by' i0 x y := by
      unfold onB
      rw [HI.out, decide_eq_true (by unfold stpI at hin; exact hin), Bool.true_and]
    have HV := Lib.hid hval
    obtain ⟨hin0, hin1⟩ := hin
    have m1 : max i0 0 = i0 := by omega
    have m2 : min i0 (stpI ax ay bx by') = i0 := by omega
    rw [m1, m2]
    clear m1 m2 hval
    obtain ⟨fk', caps', e', hfk, hcall⟩ := atfn_any HA2.out H1.out H2.out i0 hin0 (by unfold stpI at hin1; exact hin1)
    injection e' with e1 _ e3
    injection e1 with e1
    subst e1 e3
    have HC := Lib.hid hcall
    clear hcall
    go_wp2_with fail
    go_loopw [13] (fun i wr => ∃ k : Nat, i = .int .i64 (i0 + k) ∧ k ≤ 1 ∧ (k = 0 → wr = w2) ∧ (k = 1 → ptB ax ay bx by' i0 x y = false) ∧ Below w2.heap.size w2 wr) (fun i _ => (i0 + 1 - intOf i).toNat)
    case atStart => exact ⟨0, by simp, by omega, fun _ => rfl, fun h => absurd h (by omega), Below.refl _ _⟩
    case round =>
      obtain ⟨k, rfl, hk, hk0, hk1, hB⟩ := hrel
      have HB := Lib.hid hB
      clear hB
      by_cases hz : k = 0
      · subst hz
        obtain rfl := hk0 rfl
        have ei : i0 + ((0 : Nat) : Int) = i0 := by omega
        rw [ei]
        clear ei hk0 hk1 hk
        cases hpt : ptB ax ay bx by' i0 x y
        · have hq : (ptx ax ay bx by' i0 == x && pty ax ay bx by' i0 == y) = false := hpt
          have HPT := Lib.hid hpt
          clear hpt
          rcases hfk with rfl | rfl
          all_goals
            go_wp2_with fail
            refine HC.out.mono ?_
            rintro e w3 ⟨rfl, hb3⟩
            have HB3 := Lib.hid hb3
            clear hb3
            go_wp2_with fail
            go_roundw
            case rel => exact ⟨1, by go_num, by omega, fun h => absurd h (by omega), fun _ => by first | trivial | exact HPT.out, HB3.out⟩
            case measure => simp [intOf]; omega
        · have hq : (ptx ax ay bx by' i0 == x && pty ax ay bx by' i0 == y) = true := hpt
          have HPT := Lib.hid hpt
          clear hpt
          rcases hfk with rfl | rfl
          all_goals
            go_wp2_with fail
            refine HC.out.mono ?_
            rintro e w3 ⟨rfl, hb3⟩
            have HB3 := Lib.hid hb3
            clear hb3
            go_wp2_with fail
            go_ret
            exact ⟨ret_bool (by rw [HV.out, HPT.out]), bstep HB2.out HB3.out⟩
      · obtain rfl : k = 1 := by omega
        have hpt := hk1 rfl
        have HPT := Lib.hid hpt
        clear hk0 hk1 hpt
        have hd : decide (i0 + ((1 : Nat) : Int) ≤ i0) = false := by simp; omega
        go_wp2_with fail
        go_ret
        exact ⟨ret_bool (by rw [HV.out, HPT.out]), bstep HB2.out HB.out⟩
  · have hval : onB ax ay bx by' x y = false := by
      unfold onB
      rw [HI.out, decide_eq_false (by unfold stpI at hin; exact hin)]
      rfl
    have HV := Lib.hid hval
    have hd : decide (max i0 0 ≤ min i0 (stpI ax ay bx by')) = false := by simp; omega
    clear hval hin
    go_wp2_with fail
    refine wp_loop_rounds 1 ?_
    rw [rounds_succ]
    go_wp2_with fail
    go_ret
    exact ⟨ret_bool HV.out.symm, HB2.out⟩

theorem ron_no (ax ay bx by' x y : Int) (w : World) (h : (rightB ax ay && rightB bx by' && rightB x y) = false) :
    Calls Try.prog 18 #[.agg #[.int .i64 ax, .int .i64 ay], .agg #[.int .i64 bx, .int .i64 by'], .int .i64 x, .int .i64 y] w fun e w' => e = .returned (.bool false) ∧ Below w.heap.size w w' := by
  cases h1 : rightB ax ay
  · clear h
    go_enter Try.func18, Try.ntmps18
    go_wp2_with (go_at_call 11; refine (rright_any _ _ _).mono ?_; rintro e w' ⟨rfl, rfl⟩)
    go_ret
    exact ⟨rfl, bal (bal (bal (bre w) _) _) _⟩
  · cases h2 : rightB bx by'
    · clear h
      go_enter Try.func18, Try.ntmps18
      go_wp2_with (go_at_call 11; refine (rright_any _ _ _).mono ?_; rintro e w' ⟨rfl, rfl⟩)
      go_ret
      exact ⟨rfl, bal (bal (bal (bal (bre w) _) _) _) _⟩
    · have h3 : rightB x y = false := by simpa [h1, h2] using h
      clear h
      go_enter Try.func18, Try.ntmps18
      go_wp2_with (go_at_call 11; refine (rright_any _ _ _).mono ?_; rintro e w' ⟨rfl, rfl⟩)
      go_ret
      exact ⟨rfl, bal (bal (bal (bal (bal (bre w) _) _) _) _) _⟩

set_option maxRecDepth 100000 in
set_option maxHeartbeats 2000000 in
theorem ron_yes (ax ay bx by' x y : Int) (w : World) (h1 : rightB ax ay = true) (h2 : rightB bx by' = true) (h3 : rightB x y = true) :
    Calls Try.prog 18 #[.agg #[.int .i64 ax, .int .i64 ay], .agg #[.int .i64 bx, .int .i64 by'], .int .i64 x, .int .i64 y] w fun e w' => e = .returned (.bool (onB ax ay bx by' x y)) ∧ Below w.heap.size w w' := by
  have hs := stpI_bd h1 h2
  have b3 := right_bd h3
  have b1 := right_bd h1
  have b2 := right_bd h2
  have H1 := Lib.hid h1
  have H2 := Lib.hid h2
  have hv := on_far ax ay bx by' x y
  obtain ⟨k, hk⟩ : ∃ k, farOf ax ay bx by' x y = k := ⟨_, rfl⟩
  rw [hk] at hv
  have hkb : 0 ≤ k ∧ k ≤ 2097152 := by rw [← hk]; unfold farOf; split <;> omega
  have hv2 : onB ax ay bx by' x y = (decide (k < stpI ax ay bx by' + 1) && ptB ax ay bx by' k x y) := by rw [hv]; unfold stpI; rfl
  have HV := Lib.hid hv2
  have HK := Lib.hid hk
  clear hv hv2 hk
  cases hf : flatB ax ay bx by'
  · have hff := (flat_iff' _ _ _ _).1 hf
    have hfd : decide ((ax - bx).natAbs < (ay - by').natAbs) = true := by simp; omega
    have ek : ((ay - y).natAbs : Int) = k := by rw [← HK.out]; unfold farOf; rw [if_neg (by rw [hf]; simp)]
    have HEK := Lib.hid ek
    clear ek hf hff
    cases hd : decide (k < stpI ax ay bx by' + 1)
    all_goals
      go_enter Try.func18, Try.ntmps18
      go_wp2_with (first
        | (go_at_call 11; refine (rright_any _ _ _).mono ?_; rintro e w' ⟨rfl, rfl⟩)
        | (go_at_call 36; refine (rfar_any _ _ _ (by omega)).mono ?_; rintro e w' ⟨rfl, rfl⟩))
      go_quiet ((go_at_call 36; exact Calls.quiet_of_same (same_of (rfar_any _ _ _ (by omega)))))
      go_wp2_with (go_at_call 36; refine (rfar_any _ _ _ (by omega)).mono ?_; rintro e w' ⟨rfl, rfl⟩)
      rw [HEK.out]
      refine (rlong_any _ _ _ _ _ H1.out H2.out).mono ?_
      rintro e w1 ⟨rfl, hb⟩
      have zb := hb.size
      simp only [World.heap_drewN, World.size_alloc] at zb
      have c0 : w1.cell? ⟨w.heap.size, 0, none⟩ = some (.int .i64 ax) := (hb.cell (p := ⟨w.heap.size, 0, none⟩) (by simp only [World.heap_drewN, World.size_alloc]; omega)).trans (by go_simp)
      have c1 : w1.cell? ⟨w.heap.size, 1, none⟩ = some (.int .i64 ay) := (hb.cell (p := ⟨w.heap.size, 1, none⟩) (by simp only [World.heap_drewN, World.size_alloc]; omega)).trans (by go_simp)
      have c2 : w1.cell? ⟨w.heap.size + 1, 0, none⟩ = some (.int .i64 bx) := (hb.cell (p := ⟨w.heap.size + 1, 0, none⟩) (by simp only [World.heap_drewN, World.size_alloc]; omega)).trans (by go_simp)
      have c3 : w1.cell? ⟨w.heap.size + 1, 1, none⟩ = some (.int .i64 by') := (hb.cell (p := ⟨w.heap.size + 1, 1, none⟩) (by simp only [World.heap_drewN, World.size_alloc]; omega)).trans (by go_simp)
      have HB : Hid (Below w.heap.size w w1) := bstep (below_drewN (bal (bal (bal (bal (bal (bre w) _) _) _) _) _) _) hb
      clear hb
      go_wp2_with (go_at_call 14; refine (rat_any _ _ _ _ _ _ H1.out H2.out (by omega) (by omega)).mono ?_; rintro e w2 ⟨rfl, hb2⟩)
      go_ret
      first
        | exact ⟨ret_bool (by rw [HV.out, hd, Bool.false_and]), HB.out⟩
        | exact ⟨ret_bool (by rw [HV.out, hd, Bool.true_and]; rfl), bstep HB.out hb2⟩
  · have hff := (flat_iff _ _ _ _).1 hf
    have hfd : decide ((ax - bx).natAbs < (ay - by').natAbs) = false := by simp; omega
    have ek : ((ax - x).natAbs : Int) = k := by rw [← HK.out]; unfold farOf; rw [if_pos hf]
    have HEK := Lib.hid ek
    clear ek hf hff
    cases hd : decide (k < stpI ax ay bx by' + 1)
    all_goals
      go_enter Try.func18, Try.ntmps18
      go_wp2_with (first
        | (go_at_call 11; refine (rright_any _ _ _).mono ?_; rintro e w' ⟨rfl, rfl⟩)
        | (go_at_call 36; refine (rfar_any _ _ _ (by omega)).mono ?_; rintro e w' ⟨rfl, rfl⟩))
      go_quiet ((go_at_call 36; exact Calls.quiet_of_same (same_of (rfar_any _ _ _ (by omega)))))
      go_wp2_with fail
      rw [HEK.out]
      refine (rlong_any _ _ _ _ _ H1.out H2.out).mono ?_
      rintro e w1 ⟨rfl, hb⟩
      have zb := hb.size
      simp only [World.heap_drewN, World.size_alloc] at zb
      have c0 : w1.cell? ⟨w.heap.size, 0, none⟩ = some (.int .i64 ax) := (hb.cell (p := ⟨w.heap.size, 0, none⟩) (by simp only [World.heap_drewN, World.size_alloc]; omega)).trans (by go_simp)
      have c1 : w1.cell? ⟨w.heap.size, 1, none⟩ = some (.int .i64 ay) := (hb.cell (p := ⟨w.heap.size, 1, none⟩) (by simp only [World.heap_drewN, World.size_alloc]; omega)).trans (by go_simp)
      have c2 : w1.cell? ⟨w.heap.size + 1, 0, none⟩ = some (.int .i64 bx) := (hb.cell (p := ⟨w.heap.size + 1, 0, none⟩) (by simp only [World.heap_drewN, World.size_alloc]; omega)).trans (by go_simp)
      have c3 : w1.cell? ⟨w.heap.size + 1, 1, none⟩ = some (.int .i64 by') := (hb.cell (p := ⟨w.heap.size + 1, 1, none⟩) (by simp only [World.heap_drewN, World.size_alloc]; omega)).trans (by go_simp)
      have HB : Hid (Below w.heap.size w w1) := bstep (below_drewN (bal (bal (bal (bal (bal (bre w) _) _) _) _) _) _) hb
      clear hb
      go_wp2_with (go_at_call 14; refine (rat_any _ _ _ _ _ _ H1.out H2.out (by omega) (by omega)).mono ?_; rintro e w2 ⟨rfl, hb2⟩)
      go_ret
      first
        | exact ⟨ret_bool (by rw [HV.out, hd, Bool.false_and]), HB.out⟩
        | exact ⟨ret_bool (by rw [HV.out, hd, Bool.true_and]; rfl), bstep HB.out hb2⟩

end Go.Proofs.Ytcdecglbkcllaaa.Ln
