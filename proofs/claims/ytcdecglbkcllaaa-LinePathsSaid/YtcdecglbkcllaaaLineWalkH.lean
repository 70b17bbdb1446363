/-
  The walk of the law LineBack: the other way round the same places; each next to the one ahead; first and last at the points.
-/
import Derived.Test.YtcdecglbkcllaaaLineWalkG
namespace Go.Proofs.Ytcdecglbkcllaaa.Ln
open Go.RowKit Go.Shelf

theorem pts_cells {w : World} {ax ay bx by' : Int} {g cap : Nat} (h : RdP w (.slice (some ⟨g, 0, none⟩) (stp ax ay bx by' + 1) cap) (unR (ptsR ax ay bx by' 0 (stp ax ay bx by' + 1)))) (h1 : rightB ax ay = true) (h2 : rightB bx by' = true) :
    g < w.heap.size ∧ ∀ j : Nat, j ≤ stp ax ay bx by' → w.cell? ⟨g, j * 2, none⟩ = some (.int .i64 (ptx ax ay bx by' j)) ∧ w.cell? ⟨g, j * 2 + 1, none⟩ = some (.int .i64 (pty ax ay bx by' j)) := by
  rcases h with ⟨e, _⟩ | ⟨g', cap', e, hg, hc⟩
  · have := congrArg List.length e
    simp [unR, ptsR_length] at this
  · injection e with e1 e2 e3
    injection e1 with e1
    injection e1 with e1 _ _
    subst e1
    exact ⟨hg, fun j hj => hc _ _ (ptsR_get h1 h2 j (by omega))⟩

/-- Pixels, its places by their cells. -/
theorem pixels_n (ax ay bx by' : Int) (w : World) (h1 : rightB ax ay = true) (h2 : rightB bx by' = true) (n : Nat) (hn : stp ax ay bx by' = n) (h3 : n ≤ 65535) :
    Calls Try.prog 10 #[.agg #[.int .i64 ax, .int .i64 ay], .agg #[.int .i64 bx, .int .i64 by']] w fun e w' => ∃ g cap, e = .returned (.tuple #[.slice (some ⟨g, 0, none⟩) (n + 1) cap, .int .i64 0]) ∧ g < w'.heap.size ∧
      (∀ j : Nat, j ≤ n → w'.cell? ⟨g, j * 2, none⟩ = some (.int .i64 (ptx ax ay bx by' j)) ∧ w'.cell? ⟨g, j * 2 + 1, none⟩ = some (.int .i64 (pty ax ay bx by' j))) ∧ Below w.heap.size w w' := by
  subst hn
  refine (pixels_any ax ay bx by' w h1 h2 (by unfold stpI; omega)).mono ?_
  rintro e w' ⟨v, rfl, hown, hb⟩
  have hR := RdP.of_own hown (ptsR_length _ _ _ _ _ _).symm
  obtain ⟨g, cap, rfl⟩ := ownsRow_succ hown
  have hc := pts_cells hR h1 h2
  exact ⟨g, cap, rfl, hc.1, hc.2, hb⟩
theorem rlong_n (ax ay bx by' : Int) (w : World) (h1 : rightB ax ay = true) (h2 : rightB bx by' = true) (n : Nat) (hn : stp ax ay bx by' = n) :
    Calls Try.prog 13 #[.agg #[.int .i64 ax, .int .i64 ay], .agg #[.int .i64 bx, .int .i64 by']] w fun e w' => e = .returned (.int .i64 ((n : Int) + 1)) ∧ Below w.heap.size w w' := by
  subst hn
  have := rlong_any ax ay bx by' w h1 h2
  unfold stpI at this
  exact this

set_option maxHeartbeats 1000000 in
theorem lineBack_err (ax ay bx by' c : Int) (w : World) (hc : c = 1 ∨ c = 4)
    (hp : ∀ w, Calls Try.prog 10 #[.agg #[.int .i64 ax, .int .i64 ay], .agg #[.int .i64 bx, .int .i64 by']] w fun e w' => e = .returned (.tuple #[.slice none 0 0, .int .i64 c]) ∧ Below w.heap.size w w')
    (hq : ∀ w, Calls Try.prog 10 #[.agg #[.int .i64 bx, .int .i64 by'], .agg #[.int .i64 ax, .int .i64 ay]] w fun e w' => e = .returned (.tuple #[.slice none 0 0, .int .i64 c]) ∧ Below w.heap.size w w') :
    Calls Try.prog 4 #[.agg #[.int .i64 ax, .int .i64 ay], .agg #[.int .i64 bx, .int .i64 by']] w fun e w' => e = .returned (.bool true) ∧ Below w.heap.size w w' := by
  have HP := Lib.hid hp
  have HQ := Lib.hid hq
  clear hp hq
  have hc0 : (c != 0) = true := by simp; omega
  clear hc
  go_enter Try.func4, Try.ntmps4
  go_wp2_with fail
  refine (HP.out _).mono ?_
  rintro e w1 ⟨rfl, hb⟩
  obtain ⟨hc, hfz⟩ := bcell hb
  go_wp2_with fail
  refine (HQ.out _).mono ?_
  rintro e w2 ⟨rfl, hb2⟩
  clear hc hfz
  go_wp2_with (go_at_call 12; refine (awake_any _).mono ?_; rintro e w3 ⟨rfl, hb3⟩)
  go_ret
  exact ⟨rfl, bstep (bstep (bstep (bal (bal (bre w) _) _) hb) hb2) hb3⟩

theorem undrewX {w X w' : World} (h : Below X.heap.size X w') (hh : X.heap = w.heap) (ho : X.os = w.os) (ht : X.tape = w.tape) (hp : X.output = w.output) : Below w.heap.size w w' :=
  ⟨h.os.trans ho, h.tape.trans ht, h.output.trans hp, by rw [← hh]; exact h.size, fun b hb => by rw [← hh] at hb ⊢; exact h.block b hb⟩

theorem stp_next (ax ay bx by' i : Int) (h : 0 < stp ax ay bx by') : stp (ptx ax ay bx by' i) (pty ax ay bx by' i) (ptx ax ay bx by' (i + 1)) (pty ax ay bx by' (i + 1)) = 1 := by
  have h1 := stp_max (ptx ax ay bx by' i) (pty ax ay bx by' i) (ptx ax ay bx by' (i + 1)) (pty ax ay bx by' (i + 1))
  have h2 := pt_next ax ay bx by' i h
  omega
theorem rlong_next (ax ay bx by' i : Int) (w : World) (h1 : rightB ax ay = true) (h2 : rightB bx by' = true) (h : 0 < stp ax ay bx by') (hi0 : 1 ≤ i) (hi1 : i ≤ stp ax ay bx by') :
    Calls Try.prog 13 #[.agg #[.int .i64 (ptx ax ay bx by' (i - 1)), .int .i64 (pty ax ay bx by' (i - 1))], .agg #[.int .i64 (ptx ax ay bx by' i), .int .i64 (pty ax ay bx by' i)]] w fun e w' => e = .returned (.int .i64 2) ∧ Below w.heap.size w w' := by
  have hs := stp_next ax ay bx by' (i - 1) h
  rw [show i - 1 + 1 = i from by omega] at hs
  exact rlong_n _ _ _ _ w (pt_right h1 h2 (i - 1) (by omega) (by omega)) (pt_right h1 h2 i (by omega) (by omega)) 1 hs

attribute [local go_sem ↓] run_eql_pt run_neq_pt
set_option maxRecDepth 100000 in
set_option maxHeartbeats 4000000 in
theorem lineBack_any (ax ay bx by' : Int) (w : World) (h1 : rightB ax ay = true) (h2 : rightB bx by' = true) (n : Nat) (hn : stp ax ay bx by' = n) (h3 : n ≤ 65535) :
    Calls Try.prog 4 #[.agg #[.int .i64 ax, .int .i64 ay], .agg #[.int .i64 bx, .int .i64 by']] w fun e w' => e = .returned (.bool true) ∧ Below w.heap.size w w' := by
  have hn2 : stp bx by' ax ay = n := (stp_sym ax ay bx by').trans hn
  have H1 := Lib.hid h1
  have H2 := Lib.hid h2
  have HN := Lib.hid hn
  have HN2 := Lib.hid hn2
  clear h1 h2 hn hn2
  go_enter Try.func4, Try.ntmps4
  go_wp2_with fail
  refine (pixels_n _ _ _ _ _ H1.out H2.out n HN.out h3).mono ?_
  rintro e w1 ⟨g, cap, rfl, hg1, hl1, hb⟩
  have HL1 := Lib.hid hl1
  clear hl1
  obtain ⟨hc, hfz⟩ := bcell hb
  go_wp2_with fail
  refine (pixels_n _ _ _ _ _ H2.out H1.out n HN2.out h3).mono ?_
  rintro e w2 ⟨g2, cap2, rfl, hg2, hl2, hb2⟩
  have HL2 := Lib.hid hl2
  clear hl2
  have zb := hb.size
  have zb2 := hb2.size
  simp only [World.size_alloc] at zb
  have q0 : w2.cell? ⟨w.heap.size, 0, none⟩ = some (.int .i64 ax) := (hb2.cell (p := ⟨w.heap.size, 0, none⟩) (by dsimp only; omega)).trans (by go_simp)
  have q1 : w2.cell? ⟨w.heap.size, 1, none⟩ = some (.int .i64 ay) := (hb2.cell (p := ⟨w.heap.size, 1, none⟩) (by dsimp only; omega)).trans (by go_simp)
  have q2 : w2.cell? ⟨w.heap.size + 1, 0, none⟩ = some (.int .i64 bx) := (hb2.cell (p := ⟨w.heap.size + 1, 0, none⟩) (by dsimp only; omega)).trans (by go_simp)
  have q3 : w2.cell? ⟨w.heap.size + 1, 1, none⟩ = some (.int .i64 by') := (hb2.cell (p := ⟨w.heap.size + 1, 1, none⟩) (by dsimp only; omega)).trans (by go_simp)
  have l0 : w2.cell? ⟨g, 0, none⟩ = some (.int .i64 ax) := (hb2.cell (p := ⟨g, 0, none⟩) hg1).trans (by have := (HL1.out 0 (by omega)).1; rw [show ((0 : Nat) : Int) = 0 from rfl, (pt_first ax ay bx by').1] at this; simpa using this)
  have l1 : w2.cell? ⟨g, 1, none⟩ = some (.int .i64 ay) := (hb2.cell (p := ⟨g, 1, none⟩) hg1).trans (by have := (HL1.out 0 (by omega)).2; rw [show ((0 : Nat) : Int) = 0 from rfl, (pt_first ax ay bx by').2] at this; simpa using this)
  have l2 : w2.cell? ⟨g, n * 2, none⟩ = some (.int .i64 bx) := (hb2.cell (p := ⟨g, n * 2, none⟩) hg1).trans (by have := (HL1.out n (by omega)).1; have e := (pt_last ax ay bx by').1; rw [HN.out] at e; rw [e] at this; exact this)
  have l3 : w2.cell? ⟨g, n * 2 + 1, none⟩ = some (.int .i64 by') := (hb2.cell (p := ⟨g, n * 2 + 1, none⟩) hg1).trans (by have := (HL1.out n (by omega)).2; have e := (pt_last ax ay bx by').2; rw [HN.out] at e; rw [e] at this; exact this)
  have HB2 : Hid (Below w.heap.size w w2) := bstep (bstep (bal (bal (bre w) _) _) hb) hb2
  have HBB2 := Lib.hid hb2
  clear hc hfz hb hb2
  have zz0 : w.heap.size < w2.heap.size := by omega
  have zz1 : w.heap.size + 1 < w2.heap.size := by omega
  have zz2 : g < w2.heap.size := by omega
  have n0 : ((n : Int) + 1 == 0) = false := by simp; omega
  have n1 : IntKind.i64.wrap ((n : Int) + 1 - 1) = n := by rw [show (n : Int) + 1 - 1 = n from by omega]; exact IntWalk.i64_in _ (by omega)
  have n1b : IntKind.i64.wrap (n : Int) = n := IntWalk.i64_in _ (by omega)
  have n2 : (0 : Int) ≤ (n : Int) := by omega
  have n3 : (0 : Int) < (n : Int) + 1 := by omega
  have n4 : (n : Int) < (n : Int) + 1 := by omega
  go_wp2_with fail
  go_region_held3 (fun w' => w'.cell? ⟨w.heap.size, 0, none⟩ = some (.int .i64 ax) ∧ w'.cell? ⟨w.heap.size, 1, none⟩ = some (.int .i64 ay) ∧ w'.cell? ⟨w.heap.size + 1, 0, none⟩ = some (.int .i64 bx) ∧ w'.cell? ⟨w.heap.size + 1, 1, none⟩ = some (.int .i64 by')
      ∧ w'.cell? ⟨g, 0, none⟩ = some (.int .i64 ax) ∧ w'.cell? ⟨g, 1, none⟩ = some (.int .i64 ay) ∧ w'.cell? ⟨g, n * 2, none⟩ = some (.int .i64 bx) ∧ w'.cell? ⟨g, n * 2 + 1, none⟩ = some (.int .i64 by'))
    (first | go_keep | exact ⟨(hb3.cell (p := ⟨w.heap.size, 0, none⟩) zz0).trans q0, (hb3.cell (p := ⟨w.heap.size, 1, none⟩) zz0).trans q1, (hb3.cell (p := ⟨w.heap.size + 1, 0, none⟩) zz1).trans q2, (hb3.cell (p := ⟨w.heap.size + 1, 1, none⟩) zz1).trans q3, (hb3.cell (p := ⟨g, _, none⟩) zz2).trans l0, (hb3.cell (p := ⟨g, _, none⟩) zz2).trans l1, (hb3.cell (p := ⟨g, _, none⟩) zz2).trans l2, (hb3.cell (p := ⟨g, _, none⟩) zz2).trans l3⟩)
    (first | (go_at_call 13; refine (rlong_n _ _ _ _ _ H1.out H2.out n HN.out).mono ?_; rintro e w3 ⟨rfl, hb3⟩))
  have hb3 := undrew hb3
  have zb3 := hb3.size
  have hcl : ∀ k : Nat, k ≤ n → w3.cell? ⟨g, k * 2, none⟩ = some (.int .i64 (ptx ax ay bx by' k)) ∧ w3.cell? ⟨g, k * 2 + 1, none⟩ = some (.int .i64 (pty ax ay bx by' k)) := fun k hk =>
    ⟨(hb3.cell (p := ⟨g, k * 2, none⟩) zz2).trans ((HBB2.out.cell (p := ⟨g, k * 2, none⟩) hg1).trans (HL1.out k hk).1), (hb3.cell (p := ⟨g, k * 2 + 1, none⟩) zz2).trans ((HBB2.out.cell (p := ⟨g, k * 2 + 1, none⟩) hg1).trans (HL1.out k hk).2)⟩
  have hcm : ∀ k : Nat, k ≤ n → w3.cell? ⟨g2, (n - k) * 2, none⟩ = some (.int .i64 (ptx ax ay bx by' k)) ∧ w3.cell? ⟨g2, (n - k) * 2 + 1, none⟩ = some (.int .i64 (pty ax ay bx by' k)) := fun k hk => by
    have hx := ptx_back ax ay bx by' k
    have hy := pty_back ax ay bx by' k
    rw [HN.out] at hx hy
    have := HL2.out (n - k) (by omega)
    rw [show ((n - k : Nat) : Int) = (n : Int) - k from by omega, hx, hy] at this
    exact ⟨(hb3.cell (p := ⟨g2, (n - k) * 2, none⟩) hg2).trans this.1, (hb3.cell (p := ⟨g2, (n - k) * 2 + 1, none⟩) hg2).trans this.2⟩
  have HCL := Lib.hid hcl
  have HCM := Lib.hid hcm
  have HB3 : Hid (Below w.heap.size w w3) := bstep HB2.out hb3
  clear q0 q1 q2 q3 l0 l1 l2 l3 n0 n1 n1b n2 n3 n4 hb3 hcl hcm
  go_wp2_with fail
  go_loopw [9] (fun i wr => ∃ k : Nat, i = .int .i64 k ∧ k ≤ n + 1 ∧ Below w3.heap.size w3 wr) (fun i _ => n + 1 - (intOf i).toNat)
  case atStart => exact ⟨0, rfl, by omega, Below.refl _ _⟩
  case round =>
    obtain ⟨k, rfl, hk, hB⟩ := hrel
    have HB := Lib.hid hB
    have zB := hB.size
    clear hB
    by_cases hlt : k < n + 1
    · obtain ⟨a1, a2⟩ := HCL.out k (by omega)
      obtain ⟨m1, m2⟩ := HCM.out k (by omega)
      have a1 := (HB.out.cell (p := ⟨g, k * 2, none⟩) (by dsimp only; omega)).trans a1
      have a2 := (HB.out.cell (p := ⟨g, k * 2 + 1, none⟩) (by dsimp only; omega)).trans a2
      have m1 := (HB.out.cell (p := ⟨g2, (n - k) * 2, none⟩) (by dsimp only; omega)).trans m1
      have m2 := (HB.out.cell (p := ⟨g2, (n - k) * 2 + 1, none⟩) (by dsimp only; omega)).trans m2
      have k0 : (0 : Int) ≤ (k : Int) := by omega
      have k1 : (k : Int) < (n : Int) + 1 := by omega
      have k2 : (0 : Int) ≤ (n : Int) - (k : Int) := by omega
      have k3 : (n : Int) - (k : Int) < (n : Int) + 1 := by omega
      have k4 : ((n : Int) - (k : Int)).toNat = n - k := by omega
      have e1 : IntKind.i64.wrap ((n : Int) + 1 - 1) = n := by rw [show (n : Int) + 1 - 1 = n from by omega]; exact IntWalk.i64_in _ (by omega)
      have e2 : IntKind.i64.wrap (n : Int) = n := IntWalk.i64_in _ (by omega)
      have e3 : IntKind.i64.wrap ((n : Int) - k) = (n : Int) - k := IntWalk.i64_in _ (by omega)
      go_wp2_with fail
      go_quiet (fail)
      clear e1 e2 e3 m1 m2 k2 k3 k4
      by_cases hk0 : k = 0
      · have d0 : decide (0 < (k : Int)) = false := by simp; omega
        have d1 : decide (0 < k) = false := by simp; omega
        have HK0 := Lib.hid hk0
        clear hk0
        go_wp2_with fail
        go_quiet (fail)
        go_wp2_with fail
        go_roundw
        case rel => exact ⟨k + 1, by go_num, by omega, below_drewN HB.out _⟩
        case measure => simp [intOf]; omega
      · have hk0' : 0 < k := by omega
        have d0 : decide (0 < (k : Int)) = true := by simp; omega
        obtain ⟨b1, b2⟩ := HCL.out (k - 1) (by omega)
        rw [show ((k - 1 : Nat) : Int) = (k : Int) - 1 from by omega] at b1 b2
        have b1 := (HB.out.cell (p := ⟨g, (k - 1) * 2, none⟩) (by dsimp only; omega)).trans b1
        have b2 := (HB.out.cell (p := ⟨g, (k - 1) * 2 + 1, none⟩) (by dsimp only; omega)).trans b2
        have k5 : (0 : Int) ≤ (k : Int) - 1 := by omega
        have k6 : (k : Int) - 1 < (n : Int) + 1 := by omega
        have k7 : ((k : Int) - 1).toNat = k - 1 := by omega
        have e4 : IntKind.i64.wrap ((k : Int) - 1) = (k : Int) - 1 := IntWalk.i64_in _ (by omega)
        have k8 : (1 : Int) ≤ (k : Int) := by omega
        have zg : g < wr.heap.size := by omega
        go_wp2_with fail
        go_region_held3 (fun w' => w'.cell? ⟨g, (k - 1) * 2, none⟩ = some (.int .i64 (ptx ax ay bx by' ((k : Int) - 1))) ∧ w'.cell? ⟨g, (k - 1) * 2 + 1, none⟩ = some (.int .i64 (pty ax ay bx by' ((k : Int) - 1))) ∧ w'.cell? ⟨g, k * 2, none⟩ = some (.int .i64 (ptx ax ay bx by' k)) ∧ w'.cell? ⟨g, k * 2 + 1, none⟩ = some (.int .i64 (pty ax ay bx by' k)))
          (first | go_keep | exact ⟨(hb5.cell (p := ⟨g, _, none⟩) zg).trans b1, (hb5.cell (p := ⟨g, _, none⟩) zg).trans b2, (hb5.cell (p := ⟨g, _, none⟩) zg).trans a1, (hb5.cell (p := ⟨g, _, none⟩) zg).trans a2⟩)
          (first | (go_at_call 13; refine (rlong_next ax ay bx by' k _ H1.out H2.out (by rw [HN.out]; omega) (by omega) (by rw [HN.out]; omega)).mono ?_; rintro e w5 ⟨rfl, hb5⟩))
        have hb6 : Below wr.heap.size wr w5 := undrewX hb5 rfl rfl rfl rfl
        have hB6 : Below w3.heap.size w3 w5 := HB.out.trans (hb6.mono zB)
        clear e4 k5 k6 k7
        go_wp2_with fail
        go_roundw
        case rel => exact ⟨k + 1, by go_num, by omega, hB6⟩
        case measure => simp [intOf]; omega
    · have d2 : decide (k < n + 1) = false := by simp; omega
      have d3 : decide ((k : Int) < (n : Int) + 1) = false := by simp; omega
      go_wp2_with (go_at_call 12; refine (awake_any _).mono ?_; rintro e w5 ⟨rfl, hb5⟩)
      go_ret
      exact ⟨rfl, bstep (bstep HB3.out HB.out) hb5⟩

end Go.Proofs.Ytcdecglbkcllaaa.Ln
