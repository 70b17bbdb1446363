/-
  The walks of the laws' example (awake) and of the law LinePixels.
-/
import Derived.Test.YtcdecglbkcllaaaLineWalkF
namespace Go.Proofs.Ytcdecglbkcllaaa.Ln
open Go.RowKit Go.Shelf

theorem undrew {w w' : World} (h : Below w.drew.heap.size w.drew w') : Below w.heap.size w w' := ⟨h.os, h.tape, h.output, h.size, h.block⟩

theorem awake_pts : unR (ptsR 0 0 4 2 0 (stp 0 0 4 2 + 1)) = [(0, 0), (1, 0), (2, 1), (3, 1), (4, 2)] := by decide

theorem five_new (w : World) (a b c d e f g h i j : Int) (t : TypeId) : RdP (w.alloc (.cells #[.int .i64 a, .int .i64 b, .int .i64 c, .int .i64 d, .int .i64 e, .int .i64 f, .int .i64 g, .int .i64 h, .int .i64 i, .int .i64 j] t)) (.slice (some ⟨w.heap.size, 0, none⟩) 5 5) [(a, b), (c, d), (e, f), (g, h), (i, j)] := by
  refine .inr ⟨w.heap.size, 5, rfl, by simp, fun k p hk => ?_⟩
  match k, hk with
  | 0, hk => simp at hk; subst hk; simp
  | 1, hk => simp at hk; subst hk; simp
  | 2, hk => simp at hk; subst hk; simp
  | 3, hk => simp at hk; subst hk; simp
  | 4, hk => simp at hk; subst hk; simp

set_option maxHeartbeats 1000000 in
theorem awake_any (w : World) : Calls Try.prog 12 #[] w fun e w' => e = .returned (.bool true) ∧ Below w.heap.size w w' := by
  have h1 : rightB 0 0 = true := by decide
  have h2 : rightB 4 2 = true := by decide
  have h3 : stpI 0 0 4 2 ≤ 65535 := by rw [stpI]; decide
  have H1 := Lib.hid h1
  have H2 := Lib.hid h2
  have H3 := Lib.hid h3
  clear h1 h2 h3
  go_enter Try.func12, Try.ntmps12
  go_wp2_with (first
    | (go_at_call 10; refine (pixels_any _ _ _ _ _ H1.out H2.out H3.out).mono ?_; rintro e w1 ⟨v, rfl, hown, hb⟩; have HO := Lib.hid (RdP.of_own hown (ptsR_length _ _ _ _ _ _).symm); obtain ⟨g', cap', rfl⟩ := ownsRow_succ hown; clear hown))
  have hR := HO.out.below ((Below.refl w1.heap.size w1).alloc (Nat.le_refl _) (.cells #[.int .i64 0, .int .i64 0, .int .i64 1, .int .i64 0, .int .i64 2, .int .i64 1, .int .i64 3, .int .i64 1, .int .i64 4, .int .i64 2] 23))
  rw [awake_pts] at hR
  refine (same_any hR (five_new _ _ _ _ _ _ _ _ _ _ _ _) (by simp)).mono ?_
  rintro e w2 ⟨rfl, hb2⟩
  have HR := Lib.hid hR
  clear hR
  go_wp2_with fail
  go_ret
  exact ⟨rfl, (hb.alloc hb.size _).trans (hb2.mono (by have := hb.size; simp; omega))⟩

set_option maxHeartbeats 1000000 in
theorem linePixels_range (ax ay bx by' k : Int) (w : World) (h : (rightB ax ay && rightB bx by') = false) :
    Calls Try.prog 3 #[.agg #[.int .i64 ax, .int .i64 ay], .agg #[.int .i64 bx, .int .i64 by'], .int .u16 k] w fun e w' => e = .returned (.bool true) ∧ Below w.heap.size w w' := by
  have H := Lib.hid h
  cases h1 : rightB ax ay
  · clear h
    go_enter Try.func3, Try.ntmps3
    go_wp2_with (first
      | (go_at_call 10; refine (pixels_range _ _ _ _ _ H.out).mono ?_; rintro e w1 ⟨rfl, hb⟩; obtain ⟨hc, hfz⟩ := bcell hb)
      | (go_at_call 11; refine (rright_any _ _ _).mono ?_; rintro e w' ⟨rfl, rfl⟩)
      | (go_at_call 12; refine (awake_any _).mono ?_; rintro e w2 ⟨rfl, hb2⟩))
    go_ret
    exact ⟨rfl, bstep (bal (bstep (bal (bal (bre w) _) _) hb) _) hb2⟩
  · have h2 : rightB bx by' = false := by simpa [h1] using h
    clear h
    go_enter Try.func3, Try.ntmps3
    go_wp2_with (first
      | (go_at_call 10; refine (pixels_range _ _ _ _ _ H.out).mono ?_; rintro e w1 ⟨rfl, hb⟩; obtain ⟨hc, hfz⟩ := bcell hb; have z1 : w.heap.size < w1.heap.size := (by have := hb.size; simp at this; omega); have z2 : w.heap.size + 1 < w1.heap.size := (by have := hb.size; simp at this; omega))
      | (go_at_call 11; refine (rright_any _ _ _).mono ?_; rintro e w' ⟨rfl, rfl⟩)
      | (go_at_call 12; refine (awake_any _).mono ?_; rintro e w2 ⟨rfl, hb2⟩))
    go_ret
    exact ⟨rfl, bstep (bal (bal (bstep (bal (bal (bre w) _) _) hb) _) _) hb2⟩

set_option maxHeartbeats 1000000 in
theorem linePixels_long (ax ay bx by' k : Int) (w : World) (h1 : rightB ax ay = true) (h2 : rightB bx by' = true) (h3 : 65535 < stpI ax ay bx by') :
    Calls Try.prog 3 #[.agg #[.int .i64 ax, .int .i64 ay], .agg #[.int .i64 bx, .int .i64 by'], .int .u16 k] w fun e w' => e = .returned (.bool true) ∧ Below w.heap.size w w' := by
  have hs := stpI_bd h1 h2
  have H1 := Lib.hid h1
  have H2 := Lib.hid h2
  have H3 := Lib.hid h3
  have hd : decide (65536 < stpI ax ay bx by' + 1) = true := by simp; omega
  clear h3
  go_enter Try.func3, Try.ntmps3
  go_wp2_with (first
    | (go_at_call 10; refine (pixels_long _ _ _ _ _ H1.out H2.out H3.out).mono ?_; rintro e w1 ⟨rfl, hb⟩; obtain ⟨hc, hfz⟩ := bcell hb; have z1 : w.heap.size < w1.heap.size := (by have := hb.size; simp at this; omega); have z2 : w.heap.size + 1 < w1.heap.size := (by have := hb.size; simp at this; omega))
    | (go_at_call 11; refine (rright_any _ _ _).mono ?_; rintro e w' ⟨rfl, rfl⟩)
    | (go_at_call 13; refine (rlong_any _ _ _ _ _ H1.out H2.out).mono ?_; rintro e w3 ⟨rfl, hb3⟩)
    | (go_at_call 12; refine (awake_any _).mono ?_; rintro e w2 ⟨rfl, hb2⟩))
  go_ret
  exact ⟨rfl, bstep (bstep (bal (bal (bstep (bal (bal (bre w) _) _) hb) _) _) hb3) hb2⟩

theorem ptsR_get {ax ay bx by' : Int} (h1 : rightB ax ay = true) (h2 : rightB bx by' = true) (j : Nat) (hj : j < stp ax ay bx by' + 1) : (unR (ptsR ax ay bx by' 0 (stp ax ay bx by' + 1)))[j]? = some (ptx ax ay bx by' j, pty ax ay bx by' j) := by
  have hp := pt_right h1 h2 j (by omega) (by omega)
  simp only [unR, ptsR, List.map_map, List.getElem?_map, List.getElem?_range hj, Option.map_some, Function.comp, Int.zero_add]
  unfold mkR
  rw [dif_pos hp]

attribute [local go_sem ↓] run_eql_pt run_neq_pt
set_option maxHeartbeats 2000000 in
theorem linePixels_any (ax ay bx by' k : Int) (w : World) (h1 : rightB ax ay = true) (h2 : rightB bx by' = true) (h3 : stpI ax ay bx by' ≤ 65535) (hk0 : 0 ≤ k) (hk1 : k ≤ 65535) :
    Calls Try.prog 3 #[.agg #[.int .i64 ax, .int .i64 ay], .agg #[.int .i64 bx, .int .i64 by'], .int .u16 k] w fun e w' => e = .returned (.bool true) ∧ Below w.heap.size w w' := by
  have hs := stpI_bd h1 h2
  have H1 := Lib.hid h1
  have H2 := Lib.hid h2
  have H3 := Lib.hid h3
  have hd : decide (65536 < stpI ax ay bx by' + 1) = false := by simp; omega
  go_enter Try.func3, Try.ntmps3
  go_wp2_with (first
    | (go_at_call 10; refine (pixels_any _ _ _ _ _ H1.out H2.out H3.out).mono ?_; rintro e w1 ⟨v, rfl, hown, hb⟩; have HO := Lib.hid (RdP.of_own hown (ptsR_length _ _ _ _ _ _).symm); obtain ⟨g', cap', rfl⟩ := ownsRow_succ hown; clear hown; obtain ⟨hc, hfz⟩ := bcell hb; have z1 : w.heap.size < w1.heap.size := (by have := hb.size; simp at this; omega); have z2 : w.heap.size + 1 < w1.heap.size := (by have := hb.size; simp at this; omega))
    | (go_at_call 11; refine (rright_any _ _ _).mono ?_; rintro e w' ⟨rfl, rfl⟩)
    | (go_at_call 13; refine (rlong_any _ _ _ _ _ H1.out H2.out).mono ?_; rintro e w3 ⟨rfl, hb3⟩))
  have z3 := hb3.size
  simp only [World.size_alloc] at z3
  have m0 : 0 ≤ k % (stpI ax ay bx by' + 1) := Int.emod_nonneg _ (by omega)
  have m1 : k % (stpI ax ay bx by' + 1) < stpI ax ay bx by' + 1 := Int.emod_lt_of_pos _ (by omega)
  have m2 : k % (stpI ax ay bx by' + 1) < (stp ax ay bx by' : Int) + 1 := by unfold stpI at m1 ⊢; exact m1
  have hne1 : (((stp ax ay bx by' : Nat) : Int) + 1 != stpI ax ay bx by' + 1) = false := by unfold stpI; simp
  have hR3 : RdP w3 _ _ := HO.out.below (bstep (bal (bal (bre w1) _) _) hb3)
  have hcell : w3.cell? ⟨g', (k % (stpI ax ay bx by' + 1)).toNat * 2, none⟩ = some (.int .i64 (ptx ax ay bx by' (k % (stpI ax ay bx by' + 1)))) ∧ w3.cell? ⟨g', (k % (stpI ax ay bx by' + 1)).toNat * 2 + 1, none⟩ = some (.int .i64 (pty ax ay bx by' (k % (stpI ax ay bx by' + 1)))) := by
    have hg := ptsR_get H1.out H2.out (k % (stpI ax ay bx by' + 1)).toNat (by omega)
    rw [Int.toNat_of_nonneg m0] at hg
    rcases hR3 with ⟨e, _⟩ | ⟨g, cap, e, _, hc⟩
    · rw [e] at hg; simp at hg
    · injection e with e1 e2 e3
      injection e1 with e1
      injection e1 with e1 _ _
      subst e1
      exact hc _ _ hg
  obtain ⟨l0, l1⟩ := hcell
  have q0 : w3.cell? ⟨w.heap.size, 0, none⟩ = some (.int .i64 ax) := (hb3.cell (p := ⟨w.heap.size, 0, none⟩) (by simp; omega)).trans (by go_simp)
  have q1 : w3.cell? ⟨w.heap.size, 1, none⟩ = some (.int .i64 ay) := (hb3.cell (p := ⟨w.heap.size, 1, none⟩) (by simp; omega)).trans (by go_simp)
  have q2 : w3.cell? ⟨w.heap.size + 1, 0, none⟩ = some (.int .i64 bx) := (hb3.cell (p := ⟨w.heap.size + 1, 0, none⟩) (by simp; omega)).trans (by go_simp)
  have q3 : w3.cell? ⟨w.heap.size + 1, 1, none⟩ = some (.int .i64 by') := (hb3.cell (p := ⟨w.heap.size + 1, 1, none⟩) (by simp; omega)).trans (by go_simp)
  have zz0 : w.heap.size < w3.heap.size := by omega
  have zz1 : w.heap.size + 1 < w3.heap.size := by omega
  have zz2 : g' < w3.heap.size := block_lt_of_cell l0
  have hnz : (stpI ax ay bx by' + 1 == 0) = false := by simp; omega
  have hn0 : stpI ax ay bx by' + 1 ≠ 0 := by omega
  have hwr : IntKind.i64.wrap (k % (stpI ax ay bx by' + 1)) = k % (stpI ax ay bx by' + 1) := IntWalk.i64_in _ (by omega)
  have hwk : IntKind.i64.wrap k = k := IntWalk.i64_in _ (by omega)
  have htm : k.tmod (stpI ax ay bx by' + 1) = k % (stpI ax ay bx by' + 1) := Int.tmod_eq_emod_of_nonneg hk0
  have HB : Hid (Below w.heap.size w w3) := bstep (bal (bal (bstep (bal (bal (bre w) _) _) hb) _) _) hb3
  have HR3 := Lib.hid hR3
  clear hc hfz hb hb3 hR3
  go_region_held3 (fun w' => w'.cell? ⟨w.heap.size, 0, none⟩ = some (.int .i64 ax) ∧ w'.cell? ⟨w.heap.size, 1, none⟩ = some (.int .i64 ay) ∧ w'.cell? ⟨w.heap.size + 1, 0, none⟩ = some (.int .i64 bx) ∧ w'.cell? ⟨w.heap.size + 1, 1, none⟩ = some (.int .i64 by')
      ∧ w'.cell? ⟨g', (k % (stpI ax ay bx by' + 1)).toNat * 2, none⟩ = some (.int .i64 (ptx ax ay bx by' (k % (stpI ax ay bx by' + 1)))) ∧ w'.cell? ⟨g', (k % (stpI ax ay bx by' + 1)).toNat * 2 + 1, none⟩ = some (.int .i64 (pty ax ay bx by' (k % (stpI ax ay bx by' + 1))))) (first | go_keep | exact ⟨(hb4.cell (p := ⟨w.heap.size, 0, none⟩) zz0).trans q0, (hb4.cell (p := ⟨w.heap.size, 1, none⟩) zz0).trans q1, (hb4.cell (p := ⟨w.heap.size + 1, 0, none⟩) zz1).trans q2, (hb4.cell (p := ⟨w.heap.size + 1, 1, none⟩) zz1).trans q3, (hb4.cell (p := ⟨g', _, none⟩) zz2).trans l0, (hb4.cell (p := ⟨g', _, none⟩) zz2).trans l1⟩)
    (first | (go_at_call 14; refine (rat_any _ _ _ _ _ _ H1.out H2.out (by omega) (by omega)).mono ?_; rintro e w4 ⟨rfl, hb4⟩))
  have p0 := (hb4.cell (p := ⟨w.heap.size, 0, none⟩) zz0).trans q0
  have p1 := (hb4.cell (p := ⟨w.heap.size, 1, none⟩) zz0).trans q1
  have p2 := (hb4.cell (p := ⟨w.heap.size + 1, 0, none⟩) zz1).trans q2
  have p3 := (hb4.cell (p := ⟨w.heap.size + 1, 1, none⟩) zz1).trans q3
  have hb4 := undrew hb4
  have HB4 : Hid (Below w.heap.size w w4) := bstep HB.out hb4
  have HR4 := Lib.hid (HR3.out.below hb4)
  clear htm hwk hwr hn0 hnz q0 q1 q2 q3 l0 l1 hne1 m0 m1 m2 hb4
  by_cases h15 : 1500 < stpI ax ay bx by' + 1
  · have hd5 : decide (1500 < stpI ax ay bx by' + 1) = true := by simp; omega
    go_wp2_with (go_at_call 12; refine (awake_any _).mono ?_; rintro e w5 ⟨rfl, hb5⟩)
    go_ret
    exact ⟨rfl, bstep HB4.out hb5⟩
  · have hd5 : decide (1500 < stpI ax ay bx by' + 1) = false := by simp; omega
    have h16 : stpI ax ay bx by' ≤ 1500 := by omega
    have H16 := Lib.hid h16
    clear h16
    go_wp2_with (first
      | (go_at_call 15; refine (rpixels_any _ _ _ _ _ H1.out H2.out H16.out).mono ?_; rintro e w5 ⟨v5, rfl, hown5, hb5⟩; have HO5 := Lib.hid (RdP.of_own hown5 (ptsR_length _ _ _ _ _ _).symm); obtain ⟨g5, cap5, rfl⟩ := ownsRow_succ hown5; clear hown5)
      | (go_at_call 16; refine (same_any (HR4.out.below hb5) HO5.out (by simp [unR, ptsR_length]; unfold stpI at h3; omega)).mono ?_; rintro e w6 ⟨rfl, hb6⟩)
      | (go_at_call 12; refine (awake_any _).mono ?_; rintro e w7 ⟨rfl, hb7⟩))
    go_ret
    exact ⟨rfl, bstep (bstep (bstep HB4.out hb5) hb6) hb7⟩

end Go.Proofs.Ytcdecglbkcllaaa.Ln
