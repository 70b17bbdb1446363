/-
  The walk of the law LineWrong.
-/
import Derived.Test.YtcdecglbkcllaaaLineWrong1
namespace Go.Proofs.Ytcdecglbkcllaaa
open Go.RowKit Go.Shelf

theorem rdp_zero {w : World} {base e g n : Nat} (h : w.ownsRow base e 2 (.slice (some ⟨g, 0, none⟩) n n) n (madeCells (Value.agg #[.int .i64 0, .int .i64 0]).cells (n * 2)).toList) : Ln.RdP w (.slice (some ⟨g, 0, none⟩) n n) (Ln.unR (List.replicate n zP)) := by
  rw [made_pcs] at h
  exact Ln.RdP.of_own h (by simp)

set_option maxRecDepth 100000 in
set_option maxHeartbeats 8000000 in
theorem wrong_go (px py X Y W H mr : Int) (w : World) (hm : 0 ≤ mr ∧ mr ≤ 255) :
    Calls Try.prog 8 #[.agg #[.int .i64 px, .int .i64 py], .agg #[.int .i64 X, .int .i64 Y, .int .i64 W, .int .i64 H], .int .u8 mr] w fun e w' => e = .returned (.bool true) ∧ Below w.heap.size w w' := by
  obtain ⟨n, hn⟩ : ∃ n : Nat, 4090 + mr % 12 = n := ⟨(4090 + mr % 12).toNat, by omega⟩
  have hn1 : 4090 ≤ n ∧ n ≤ 4101 := by omega
  have HN := Lib.hid hn
  obtain ⟨i0, hi, hz0, hz1, hz2⟩ := info_parts Ln.Try.infoPt
  clear hn
  go_enter Try.func8, Try.ntmps8
  go_upto_region 2 with fail
  have bP := (Blk.new w 23 #[.int .i64 px, .int .i64 py]).alloc (.cells #[.int .i64 X, .int .i64 Y, .int .i64 W, .int .i64 H] 45)
  have bR := Blk.new2 w (.cells #[.int .i64 px, .int .i64 py] 23) 45 #[.int .i64 X, .int .i64 Y, .int .i64 W, .int .i64 H]
  have hb := bal (bal (bre w) (.cells #[.int .i64 px, .int .i64 py] 23)) (.cells #[.int .i64 X, .int .i64 Y, .int .i64 W, .int .i64 H] 45)
  obtain ⟨Z, hZ⟩ : ∃ Z, (w.alloc (.cells #[.int .i64 px, .int .i64 py] 23)).alloc (.cells #[.int .i64 X, .int .i64 Y, .int .i64 W, .int .i64 H] 45) = Z := ⟨_, rfl⟩
  rw [hZ] at bP bR hb ⊢
  have HP := Lib.hid bP
  have HR := Lib.hid bR
  have HB := Lib.hid hb
  clear hZ bP bR hb
  go_upto_region 3 with (at_make; refine wpList_make_full _ rfl _ _ 25 rfl Z.heap.size 23 i0 _ 2 Try.underlying25 hi hz0 hz1 _ _ _ _ n rfl rfl HN.out HN.out (by rw [hz2]; omega) (by simp only [maxLen]; omega) (Nat.le_refl _) ?_; intro w1 hown hg1; have HG1 := Lib.hid (below_of_grown hg1); have HR1 := Lib.hid (rdp_zero hown); clear hown hg1)
  rw [HN.out]
  obtain ⟨gs, hgs⟩ : ∃ gs, Z.heap.size = gs := ⟨_, rfl⟩
  rw [hgs] at HR1 ⊢
  clear hgs
  by_cases hbig : 4096 < n
  · have dn : decide ((4096 : Int) < (n : Int)) = true := by simp; omega
    go_upto_region 4 with (go_at_call 23; refine (Ln.path_many _ n n 0 0 1 1 _ hbig).mono ?_; rintro e w2 ⟨rfl, hb2⟩; have HB2 := Lib.hid hb2; clear hb2)
    go_upto_region 9 with (first
      | (go_at_call 24; refine (Ln.region_many _ n n _ hbig).mono ?_; rintro e w3 ⟨rfl, hb3⟩; have HB3 := Lib.hid hb3; clear hb3)
      | (go_at_call 25; refine (empty_any _ _ _ _).mono ?_; rintro e wx ⟨rfl, hb4⟩; have HB4 := Lib.hid hb4; clear hb4))
    have HZX := Lib.hid (bstep HG1.out (bstep HB2.out (bstep HB3.out HB4.out)))
    have HPX := Lib.hid (HP.out.belowS HZX.out)
    have HRX := Lib.hid (HR.out.belowS HZX.out)
    have HBX := Lib.hid (bstep HB.out HZX.out)
    clear HZX HB2 HB3 HB4 HG1 HR1 HP HR dn
    have p0 := HPX.out.cellV (i := 0) (v := .int .i64 px) rfl
    have p1 := HPX.out.cellV (i := 1) (v := .int .i64 py) rfl
    have r0 := HRX.out.cellV (i := 0) (v := .int .i64 X) rfl
    have r1 := HRX.out.cellV (i := 1) (v := .int .i64 Y) rfl
    have r2 := HRX.out.cellV (i := 2) (v := .int .i64 W) rfl
    have r3 := HRX.out.cellV (i := 3) (v := .int .i64 H) rfl
    cases hrt : Ln.rightB px py
    · have HRT := Lib.hid hrt
      clear hrt
      go_upto_region 10 with (go_at_call 23; (refine (path_bad wx.heap.size 2 px py X Y W H _ HRT.out (twoAt_new wx px py)).mono ?_); rintro e w6 ⟨rfl, hb6⟩; have HB6 := Lib.hid (bstep (bal (bre wx) _) hb6); clear hb6)
      clear p0 p1 r0 r1 r2 r3
      have p0 := (HPX.out.belowS HB6.out).cellV (i := 0) (v := .int .i64 px) rfl
      have p1 := (HPX.out.belowS HB6.out).cellV (i := 1) (v := .int .i64 py) rfl
      have pz := (HPX.out.belowS HB6.out).lt
      go_wp2_with (first
        | (go_at_call 11; refine (Ln.rright_any _ _ _).mono ?_; rintro e w' ⟨rfl, rfl⟩; rw [HRT.out])
        | (go_at_call 24; refine (region_bad (w6.heap.size + 1) 2 px py _ HRT.out (twoAt_new2 w6 _ px py)).mono ?_; rintro e w7 ⟨rfl, hb7⟩; have HB7 := Lib.hid hb7; clear hb7)
        | (go_at_call 25; refine (empty_any _ _ _ _).mono ?_; rintro e w8 ⟨rfl, hb8⟩; have HB8 := Lib.hid hb8; clear hb8)
        | (go_at_call 12; refine (Ln.awake_any _).mono ?_; rintro e w9 ⟨rfl, hb9⟩; have HB9 := Lib.hid hb9; clear hb9))
      go_ret
      exact ⟨rfl, bstep HBX.out (bstep HB6.out (bstep (bal (bal (bre w6) _) _) (bstep HB7.out (bstep HB8.out HB9.out))))⟩
    · have HRT := Lib.hid hrt
      clear hrt
      go_upto_region 10 with (go_at_call 23; refine (path_two wx.heap.size 2 px py X Y W H _ HRT.out (twoAt_new wx px py)).mono ?_; rintro e w6 ⟨A6, m6, c6, er, rfl, hb6, h6⟩; have HB6 := Lib.hid (bstep (bal (bre wx) _) hb6); have H6 := Lib.hid h6; clear hb6 h6)
      clear p0 p1 r0 r1 r2 r3
      have p0 := (HPX.out.belowS HB6.out).cellV (i := 0) (v := .int .i64 px) rfl
      have p1 := (HPX.out.belowS HB6.out).cellV (i := 1) (v := .int .i64 py) rfl
      have r0 := (HRX.out.belowS HB6.out).cellV (i := 0) (v := .int .i64 X) rfl
      have r1 := (HRX.out.belowS HB6.out).cellV (i := 1) (v := .int .i64 Y) rfl
      have r2 := (HRX.out.belowS HB6.out).cellV (i := 2) (v := .int .i64 W) rfl
      have r3 := (HRX.out.belowS HB6.out).cellV (i := 3) (v := .int .i64 H) rfl
      have pz := (HPX.out.belowS HB6.out).lt
      have rz := (HRX.out.belowS HB6.out).lt
      have hsb := Ln.stpI_bd zP.2 HRT.out
      have H0 := Lib.hid (show Ln.rightB 0 0 = true from by decide)
      obtain ⟨S, hS⟩ : ∃ S, Ln.stpI 0 0 px py = S := ⟨_, rfl⟩
      have HS := Lib.hid hS
      have h6 := H6.out
      rw [hS] at h6
      have hsb2 : 0 ≤ S ∧ S ≤ 2097152 := by rw [← hS]; exact hsb
      clear hsb hS H6
      rcases h6 with ⟨hB, rfl, rfl⟩ | ⟨hB, hl, rfl, rfl⟩ | ⟨hB, hl, rfl⟩
      · -- too great
        have HB0 := Lib.hid hB
        have hcnt : Ln.cntB X Y W H = true := by simp only [Ln.bigB, Bool.and_eq_true] at hB; exact hB.1
        have hor : decide (65536 < W) = true ∨ (decide (65536 < W) = false ∧ decide (65536 < H) = true) := by
          simp only [Ln.bigB, Bool.and_eq_true, Bool.or_eq_true] at hB
          cases hd : decide (65536 < W)
          · exact .inr ⟨rfl, by simpa [hd] using hB.2⟩
          · exact .inl rfl
        clear hB
        have HCN := Lib.hid hcnt
        clear hcnt
        rcases hor with dw | ⟨dw, dh⟩
        all_goals
          go_wp2_with (first
            | (go_at_call 11; refine (Ln.rright_any _ _ _).mono ?_; rintro e w' ⟨rfl, rfl⟩; rw [HRT.out])
            | (go_at_call 20; refine (Ln.rcounts_any _ _ _ _ _).mono ?_; rintro e w' ⟨rfl, rfl⟩; rw [HCN.out])
            | (go_at_call 12; refine (Ln.awake_any _).mono ?_; rintro e w9 ⟨rfl, hb9⟩; have HB9 := Lib.hid hb9; clear hb9))
          go_ret
          exact ⟨rfl, bstep HBX.out (bstep HB6.out (bstep (bal (bal (bre w6) _) _) HB9.out))⟩
      all_goals
        have HB0 := Lib.hid hB
        have hor : Ln.cntB X Y W H = false ∨ (Ln.cntB X Y W H = true ∧ decide (65536 < W) = false ∧ decide (65536 < H) = false) := by
          cases hc : Ln.cntB X Y W H
          · exact .inl rfl
          · refine .inr ⟨rfl, ?_⟩
            simpa [Ln.bigB, hc, -decide_eq_false_iff_not] using hB
        clear hB
      · -- too many
        have dl : decide (262144 < S + 1) = true := by simp; omega
        rcases hor with hc | ⟨hc, dw, dh⟩
        all_goals
          have HCN := Lib.hid hc
          clear hc
          go_wp2_with (first
            | (go_at_call 11; refine (Ln.rright_any _ _ _).mono ?_; rintro e w' ⟨rfl, rfl⟩; rw [HRT.out])
            | (go_at_call 20; refine (Ln.rcounts_any _ _ _ _ _).mono ?_; rintro e w' ⟨rfl, rfl⟩; rw [HCN.out])
            | (go_at_call 13; refine (Ln.rlong_any _ _ _ _ _ H0.out HRT.out).mono ?_; rintro e w7 ⟨rfl, hb7⟩; rw [HS.out]; have HB7 := Lib.hid hb7; clear hb7)
            | (go_at_call 12; refine (Ln.awake_any _).mono ?_; rintro e w9 ⟨rfl, hb9⟩; have HB9 := Lib.hid hb9; clear hb9))
          go_ret
          exact ⟨rfl, bstep HBX.out (bstep HB6.out (bstep (bal (bal (bre w6) _) _) (bstep HB7.out HB9.out)))⟩
      · have dl : decide (262144 < S + 1) = false := by simp; omega
        by_cases hfar : 65536 < S + 1
        · have df : decide (S + 1 ≤ 65536) = false := by simp; omega
          rcases hor with hc | ⟨hc, dw, dh⟩
          all_goals
            have HCN := Lib.hid hc
            clear hc
            go_upto_region 17 with (first
              | (go_at_call 11; refine (Ln.rright_any _ _ _).mono ?_; rintro e w' ⟨rfl, rfl⟩; rw [HRT.out])
              | (go_at_call 20; refine (Ln.rcounts_any _ _ _ _ _).mono ?_; rintro e w' ⟨rfl, rfl⟩; rw [HCN.out])
              | (go_at_call 13; refine (Ln.rlong_any _ _ _ _ _ H0.out HRT.out).mono ?_; rintro e w7 ⟨rfl, hb7⟩; rw [HS.out]; have HB7 := Lib.hid (bstep (bal (bal (bre w6) _) _) hb7); have q0 := (HPX.out.belowS (bstep HB6.out HB7.out)).cellV (i := 0) (v := .int .i64 px) rfl; have q1 := (HPX.out.belowS (bstep HB6.out HB7.out)).cellV (i := 1) (v := .int .i64 py) rfl; clear hb7))
            go_wp2_with (first
              | (go_at_call 24; refine (region_far w7.heap.size 2 px py _ HRT.out (twoAt_new w7 px py) (by rw [HS.out]; exact hfar)).mono ?_; rintro e w8 ⟨rfl, hb8⟩; have HB8 := Lib.hid hb8; clear hb8)
              | (go_at_call 25; refine (empty_any _ _ _ _).mono ?_; rintro e w10 ⟨rfl, hb10⟩; have HB10 := Lib.hid hb10; clear hb10)
              | (go_at_call 12; refine (Ln.awake_any _).mono ?_; rintro e w9 ⟨rfl, hb9⟩; have HB9 := Lib.hid hb9; clear hb9))
            go_ret
            exact ⟨rfl, bstep HBX.out (bstep HB6.out (bstep HB7.out (bstep (bal (bre w7) _) (bstep HB8.out (bstep HB10.out HB9.out)))))⟩
        · have df : decide (S + 1 ≤ 65536) = true := by simp; omega
          rcases hor with hc | ⟨hc, dw, dh⟩
          all_goals
            have HCN := Lib.hid hc
            clear hc
            go_wp2_with (first
              | (go_at_call 11; refine (Ln.rright_any _ _ _).mono ?_; rintro e w' ⟨rfl, rfl⟩; rw [HRT.out])
              | (go_at_call 20; refine (Ln.rcounts_any _ _ _ _ _).mono ?_; rintro e w' ⟨rfl, rfl⟩; rw [HCN.out])
              | (go_at_call 13; refine (Ln.rlong_any _ _ _ _ _ H0.out HRT.out).mono ?_; rintro e w7 ⟨rfl, hb7⟩; rw [HS.out]; have HB7 := Lib.hid hb7; clear hb7)
              | (go_at_call 12; refine (Ln.awake_any _).mono ?_; rintro e w9 ⟨rfl, hb9⟩; have HB9 := Lib.hid hb9; clear hb9))
            go_ret
            exact ⟨rfl, bstep HBX.out (bstep HB6.out (bstep (bal (bal (bre w6) _) _) (bstep HB7.out HB9.out)))⟩
  · have dn : decide ((4096 : Int) < (n : Int)) = false := by simp; omega
    go_upto_region 4 with (go_at_call 23; refine (path_zero _ n _ (by omega) HR1.out).mono ?_; rintro e w2 ⟨A2, c2, rfl, hb2⟩; have HB2 := Lib.hid hb2; clear hb2)
    go_upto_region 9 with (first
      | (go_at_call 24; refine (region_zero gs n n _ (by omega) (HR1.out.below HB2.out)).mono ?_; rintro e w3 ⟨A3, c3, rfl, hr3, hb3⟩; have HR3 := Lib.hid hr3; have HB3 := Lib.hid hb3; clear hr3 hb3)
      | (go_at_call 26; refine (area_any _ _ _ [⟨0, 0, 1, 1⟩] _ (by omega) HR3.out (by decide)).mono ?_; rintro e wx ⟨rfl, hb4⟩; have HB4 := Lib.hid hb4; rw [show areaL [⟨0, 0, 1, 1⟩] = 1 from rfl]; clear hb4))
    have HZX := Lib.hid (bstep HG1.out (bstep HB2.out (bstep HB3.out HB4.out)))
    have HPX := Lib.hid (HP.out.belowS HZX.out)
    have HRX := Lib.hid (HR.out.belowS HZX.out)
    have HBX := Lib.hid (bstep HB.out HZX.out)
    clear HZX HB2 HB3 HB4 HG1 HR1 HP HR dn HR3
    have p0 := HPX.out.cellV (i := 0) (v := .int .i64 px) rfl
    have p1 := HPX.out.cellV (i := 1) (v := .int .i64 py) rfl
    have r0 := HRX.out.cellV (i := 0) (v := .int .i64 X) rfl
    have r1 := HRX.out.cellV (i := 1) (v := .int .i64 Y) rfl
    have r2 := HRX.out.cellV (i := 2) (v := .int .i64 W) rfl
    have r3 := HRX.out.cellV (i := 3) (v := .int .i64 H) rfl
    cases hrt : Ln.rightB px py
    · have HRT := Lib.hid hrt
      clear hrt
      go_upto_region 10 with (go_at_call 23; (refine (path_bad wx.heap.size 2 px py X Y W H _ HRT.out (twoAt_new wx px py)).mono ?_); rintro e w6 ⟨rfl, hb6⟩; have HB6 := Lib.hid (bstep (bal (bre wx) _) hb6); clear hb6)
      clear p0 p1 r0 r1 r2 r3
      have p0 := (HPX.out.belowS HB6.out).cellV (i := 0) (v := .int .i64 px) rfl
      have p1 := (HPX.out.belowS HB6.out).cellV (i := 1) (v := .int .i64 py) rfl
      have pz := (HPX.out.belowS HB6.out).lt
      go_wp2_with (first
        | (go_at_call 11; refine (Ln.rright_any _ _ _).mono ?_; rintro e w' ⟨rfl, rfl⟩; rw [HRT.out])
        | (go_at_call 24; refine (region_bad (w6.heap.size + 1) 2 px py _ HRT.out (twoAt_new2 w6 _ px py)).mono ?_; rintro e w7 ⟨rfl, hb7⟩; have HB7 := Lib.hid hb7; clear hb7)
        | (go_at_call 25; refine (empty_any _ _ _ _).mono ?_; rintro e w8 ⟨rfl, hb8⟩; have HB8 := Lib.hid hb8; clear hb8)
        | (go_at_call 12; refine (Ln.awake_any _).mono ?_; rintro e w9 ⟨rfl, hb9⟩; have HB9 := Lib.hid hb9; clear hb9))
      go_ret
      exact ⟨rfl, bstep HBX.out (bstep HB6.out (bstep (bal (bal (bre w6) _) _) (bstep HB7.out (bstep HB8.out HB9.out))))⟩
    · have HRT := Lib.hid hrt
      clear hrt
      go_upto_region 10 with (go_at_call 23; refine (path_two wx.heap.size 2 px py X Y W H _ HRT.out (twoAt_new wx px py)).mono ?_; rintro e w6 ⟨A6, m6, c6, er, rfl, hb6, h6⟩; have HB6 := Lib.hid (bstep (bal (bre wx) _) hb6); have H6 := Lib.hid h6; clear hb6 h6)
      clear p0 p1 r0 r1 r2 r3
      have p0 := (HPX.out.belowS HB6.out).cellV (i := 0) (v := .int .i64 px) rfl
      have p1 := (HPX.out.belowS HB6.out).cellV (i := 1) (v := .int .i64 py) rfl
      have r0 := (HRX.out.belowS HB6.out).cellV (i := 0) (v := .int .i64 X) rfl
      have r1 := (HRX.out.belowS HB6.out).cellV (i := 1) (v := .int .i64 Y) rfl
      have r2 := (HRX.out.belowS HB6.out).cellV (i := 2) (v := .int .i64 W) rfl
      have r3 := (HRX.out.belowS HB6.out).cellV (i := 3) (v := .int .i64 H) rfl
      have pz := (HPX.out.belowS HB6.out).lt
      have rz := (HRX.out.belowS HB6.out).lt
      have hsb := Ln.stpI_bd zP.2 HRT.out
      have H0 := Lib.hid (show Ln.rightB 0 0 = true from by decide)
      obtain ⟨S, hS⟩ : ∃ S, Ln.stpI 0 0 px py = S := ⟨_, rfl⟩
      have HS := Lib.hid hS
      have h6 := H6.out
      rw [hS] at h6
      have hsb2 : 0 ≤ S ∧ S ≤ 2097152 := by rw [← hS]; exact hsb
      clear hsb hS H6
      rcases h6 with ⟨hB, rfl, rfl⟩ | ⟨hB, hl, rfl, rfl⟩ | ⟨hB, hl, rfl⟩
      · -- too great
        have HB0 := Lib.hid hB
        have hcnt : Ln.cntB X Y W H = true := by simp only [Ln.bigB, Bool.and_eq_true] at hB; exact hB.1
        have hor : decide (65536 < W) = true ∨ (decide (65536 < W) = false ∧ decide (65536 < H) = true) := by
          simp only [Ln.bigB, Bool.and_eq_true, Bool.or_eq_true] at hB
          cases hd : decide (65536 < W)
          · exact .inr ⟨rfl, by simpa [hd] using hB.2⟩
          · exact .inl rfl
        clear hB
        have HCN := Lib.hid hcnt
        clear hcnt
        rcases hor with dw | ⟨dw, dh⟩
        all_goals
          go_wp2_with (first
            | (go_at_call 11; refine (Ln.rright_any _ _ _).mono ?_; rintro e w' ⟨rfl, rfl⟩; rw [HRT.out])
            | (go_at_call 20; refine (Ln.rcounts_any _ _ _ _ _).mono ?_; rintro e w' ⟨rfl, rfl⟩; rw [HCN.out])
            | (go_at_call 12; refine (Ln.awake_any _).mono ?_; rintro e w9 ⟨rfl, hb9⟩; have HB9 := Lib.hid hb9; clear hb9))
          go_ret
          exact ⟨rfl, bstep HBX.out (bstep HB6.out (bstep (bal (bal (bre w6) _) _) HB9.out))⟩
      all_goals
        have HB0 := Lib.hid hB
        have hor : Ln.cntB X Y W H = false ∨ (Ln.cntB X Y W H = true ∧ decide (65536 < W) = false ∧ decide (65536 < H) = false) := by
          cases hc : Ln.cntB X Y W H
          · exact .inl rfl
          · refine .inr ⟨rfl, ?_⟩
            simpa [Ln.bigB, hc, -decide_eq_false_iff_not] using hB
        clear hB
      · -- too many
        have dl : decide (262144 < S + 1) = true := by simp; omega
        rcases hor with hc | ⟨hc, dw, dh⟩
        all_goals
          have HCN := Lib.hid hc
          clear hc
          go_wp2_with (first
            | (go_at_call 11; refine (Ln.rright_any _ _ _).mono ?_; rintro e w' ⟨rfl, rfl⟩; rw [HRT.out])
            | (go_at_call 20; refine (Ln.rcounts_any _ _ _ _ _).mono ?_; rintro e w' ⟨rfl, rfl⟩; rw [HCN.out])
            | (go_at_call 13; refine (Ln.rlong_any _ _ _ _ _ H0.out HRT.out).mono ?_; rintro e w7 ⟨rfl, hb7⟩; rw [HS.out]; have HB7 := Lib.hid hb7; clear hb7)
            | (go_at_call 12; refine (Ln.awake_any _).mono ?_; rintro e w9 ⟨rfl, hb9⟩; have HB9 := Lib.hid hb9; clear hb9))
          go_ret
          exact ⟨rfl, bstep HBX.out (bstep HB6.out (bstep (bal (bal (bre w6) _) _) (bstep HB7.out HB9.out)))⟩
      · have dl : decide (262144 < S + 1) = false := by simp; omega
        by_cases hfar : 65536 < S + 1
        · have df : decide (S + 1 ≤ 65536) = false := by simp; omega
          rcases hor with hc | ⟨hc, dw, dh⟩
          all_goals
            have HCN := Lib.hid hc
            clear hc
            go_upto_region 17 with (first
              | (go_at_call 11; refine (Ln.rright_any _ _ _).mono ?_; rintro e w' ⟨rfl, rfl⟩; rw [HRT.out])
              | (go_at_call 20; refine (Ln.rcounts_any _ _ _ _ _).mono ?_; rintro e w' ⟨rfl, rfl⟩; rw [HCN.out])
              | (go_at_call 13; refine (Ln.rlong_any _ _ _ _ _ H0.out HRT.out).mono ?_; rintro e w7 ⟨rfl, hb7⟩; rw [HS.out]; have HB7 := Lib.hid (bstep (bal (bal (bre w6) _) _) hb7); have q0 := (HPX.out.belowS (bstep HB6.out HB7.out)).cellV (i := 0) (v := .int .i64 px) rfl; have q1 := (HPX.out.belowS (bstep HB6.out HB7.out)).cellV (i := 1) (v := .int .i64 py) rfl; clear hb7))
            go_wp2_with (first
              | (go_at_call 24; refine (region_far w7.heap.size 2 px py _ HRT.out (twoAt_new w7 px py) (by rw [HS.out]; exact hfar)).mono ?_; rintro e w8 ⟨rfl, hb8⟩; have HB8 := Lib.hid hb8; clear hb8)
              | (go_at_call 25; refine (empty_any _ _ _ _).mono ?_; rintro e w10 ⟨rfl, hb10⟩; have HB10 := Lib.hid hb10; clear hb10)
              | (go_at_call 12; refine (Ln.awake_any _).mono ?_; rintro e w9 ⟨rfl, hb9⟩; have HB9 := Lib.hid hb9; clear hb9))
            go_ret
            exact ⟨rfl, bstep HBX.out (bstep HB6.out (bstep HB7.out (bstep (bal (bre w7) _) (bstep HB8.out (bstep HB10.out HB9.out)))))⟩
        · have df : decide (S + 1 ≤ 65536) = true := by simp; omega
          rcases hor with hc | ⟨hc, dw, dh⟩
          all_goals
            have HCN := Lib.hid hc
            clear hc
            go_wp2_with (first
              | (go_at_call 11; refine (Ln.rright_any _ _ _).mono ?_; rintro e w' ⟨rfl, rfl⟩; rw [HRT.out])
              | (go_at_call 20; refine (Ln.rcounts_any _ _ _ _ _).mono ?_; rintro e w' ⟨rfl, rfl⟩; rw [HCN.out])
              | (go_at_call 13; refine (Ln.rlong_any _ _ _ _ _ H0.out HRT.out).mono ?_; rintro e w7 ⟨rfl, hb7⟩; rw [HS.out]; have HB7 := Lib.hid hb7; clear hb7)
              | (go_at_call 12; refine (Ln.awake_any _).mono ?_; rintro e w9 ⟨rfl, hb9⟩; have HB9 := Lib.hid hb9; clear hb9))
            go_ret
            exact ⟨rfl, bstep HBX.out (bstep HB6.out (bstep (bal (bal (bre w6) _) _) (bstep HB7.out HB9.out)))⟩

end Go.Proofs.Ytcdecglbkcllaaa
