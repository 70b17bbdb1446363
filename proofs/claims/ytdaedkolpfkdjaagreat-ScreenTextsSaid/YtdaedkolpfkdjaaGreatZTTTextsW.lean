/-
  The walk of ScreenTexts.
-/
import Derived.Test.YtdaedkolpfkdjaaGreatZT35
import Derived.Test.YtdaedkolpfkdjaaGreatZT24
import Derived.Test.YtdaedkolpfkdjaaGreatZT31
section
namespace Go.Proofs.YtdaedkolpfkdjaaGreat
open Go.RowKit Go.Maps Go.Shelf
set_option maxRecDepth 100000 in
set_option maxHeartbeats 8000000 in
theorem screenTexts_any (a b q : Int) (s : List UInt8) (w : World) (ha0 : 0 ≤ a ∧ a ≤ 255) (hb0 : 0 ≤ b ∧ b ≤ 255) :
    Calls Tryz.prog 11 #[.int .u8 a, .int .u8 b, .int .u8 q, .string ⟨s.toArray⟩] w fun e w' => e = .returned (.bool true) ∧ Below w.heap.size w w' := by
  obtain ⟨wa, hwa⟩ : ∃ x : Nat, a % 20 = (x : Int) := ⟨(a % 20).toNat, by omega⟩
  obtain ⟨wb, hwb⟩ : ∃ x : Nat, b % 20 = (x : Int) := ⟨(b % 20).toNat, by omega⟩
  have hb9 : wa < 20 ∧ wb < 20 := by omega
  have t0 : a.tmod 20 = (wa : Int) := by rw [Int.tmod_eq_emod_of_nonneg (by omega)]; exact hwa
  have t1 : b.tmod 20 = (wb : Int) := by rw [Int.tmod_eq_emod_of_nonneg (by omega)]; exact hwb
  have t4 : IntKind.u8.wrap (wa : Int) = (wa : Int) := IntWalk.u8_in _ (by omega)
  have t5 : IntKind.u8.wrap (wb : Int) = (wb : Int) := IntWalk.u8_in _ (by omega)
  have t8 : IntKind.i64.wrap (wa : Int) = (wa : Int) := IntWalk.i64_in _ (by omega)
  have t9 : IntKind.i64.wrap (wb : Int) = (wb : Int) := IntWalk.i64_in _ (by omega)
  obtain ⟨W, hW⟩ : ∃ W : Nat, wa + 1 = W := ⟨_, rfl⟩
  obtain ⟨H, hH⟩ : ∃ H : Nat, wb + 1 = H := ⟨_, rfl⟩
  have u0 : IntKind.i64.wrap ((wa : Int) + 1) = (W : Int) := by rw [IntWalk.i64_in _ (by omega)]; omega
  have u1 : IntKind.i64.wrap ((wb : Int) + 1) = (H : Int) := by rw [IntWalk.i64_in _ (by omega)]; omega
  have hw1 : (1 ≤ W ∧ W ≤ 128) ∧ 1 ≤ H ∧ H ≤ 128 := by omega
  have hmul : W * H ≤ 16384 := Gr.mul_le_128 (by omega) (by omega)
  clear hwa hwb hb9 hW hH
  obtain ⟨N, hN⟩ : ∃ N, W * H = N := ⟨_, rfl⟩
  have HN := Lib.hid hN.symm
  rw [hN] at hmul
  go_enter Tryz.func11, Tryz.ntmps11
  go_wp2_with fail
  refine (ink_any W H q _ hw1.1 hw1.2).mono ?_
  rintro e w1 ⟨Ai, ci, rfl, hri, hci, hfi, hb1⟩
  rw [hN] at hri hci ⊢
  have HB := Lib.hid hb1
  clear hb1
  go_wp2_with fail
  obtain ⟨px, hpx⟩ : ∃ px, inkL W N q = px := ⟨_, rfl⟩
  have HPX := Lib.hid (show Gr.Pix px by rw [← hpx]; exact inkL_pix _ _ _)
  rw [hpx] at hri
  refine (plane_any W H px Ai N ci _ hw1.1 hw1.2 HN.out hri).mono ?_
  rintro e w2 ⟨Ax, cx, rfl, hrx, hcx, hfx, hb2⟩
  have HCX := Lib.hid hcx
  have hpl : px.length = W * H := by rw [hN]; simpa [Gr.U8] using hrx.1
  have HPL := Lib.hid hpl
  have ha := bal (bre w2) (.cells #[.int .i64 W, .int .i64 H, .slice Ax N cx] 75)
  have xk := Blk.new w2 75 #[.int .i64 W, .int .i64 H, .slice Ax N cx]
  have z := bstep (bstep HB.out hb2) ha
  have z0 := (hri.below hb2).below ha
  have z1 := hrx.below ha
  clear hb2 hri hci hfi hrx hcx hfx hpx t0 t1 t4 t5 t8 t9 u0 u1 hN ha hpl
  go_upto_region 4 with fail
  obtain ⟨g1, hg⟩ : ∃ g, w2.heap.size = g := ⟨_, rfl⟩
  obtain ⟨X2, hX⟩ : ∃ X, w2.alloc (.cells #[.int .i64 W, .int .i64 H, .slice Ax N cx] 75) = X := ⟨_, rfl⟩
  rw [hX] at z xk z0 z1 ⊢
  rw [hg] at xk
  simp only [hg]
  replace HB := Lib.hid z
  have KX := Lib.hid xk
  have HI := Lib.hid z0
  have HX := Lib.hid z1
  clear z xk hX hg z0 z1
  by_cases h3 : 3000 < s.length
  · have h31 : (3000 : Int) < (s.length : Int) := by omega
    as_aux_lemma =>
      go_wp2_with (go_at_call 34; refine (awake34_any _).mono ?_; rintro e w9 ⟨rfl, hb9⟩; have HB9 := Lib.hid (bstep HB.out hb9); clear hb9)
      go_ret
      exact ⟨rfl, HB9.out⟩
  have h31 : ¬ (3000 : Int) < (s.length : Int) := by omega
  have hs9 : s.length ≤ 100000 := by omega
  have q0 := KX.out.cellV (i := 0) (v := .int .i64 W) rfl
  have q1 := KX.out.cellV (i := 1) (v := .int .i64 H) rfl
  have q2 := KX.out.cellV (i := 2) (v := .slice Ax N cx) rfl
  go_wp2_with fail
  refine (text_any W H px Ax N cx X2 HN.out ⟨.inl hw1.1.1, hw1.1.2⟩ hw1.2.2 HCX.out HX.out HPX.out).mono ?_
  rintro e w3 ⟨rfl, hb3⟩
  have hgt := grid_text HPL.out HPX.out hw1.1 hw1.2
  have htl := textB_len (W := W) (H := H) px hw1.1.2 hw1.2.2
  have htd : textD W (Gr.B8 px) N = textB W H px := by rw [HN.out]; exact textD_text HPL.out hw1.1.1
  obtain ⟨T, hT⟩ : ∃ T, textB W H px = T := ⟨_, rfl⟩
  rw [hT] at hgt htl htd ⊢
  have HGT := Lib.hid hgt
  have HTL := Lib.hid htl
  have HTD := Lib.hid htd
  replace KX := Lib.hid (KX.out.belowS hb3)
  replace HI := Lib.hid (HI.out.below hb3)
  replace HX := Lib.hid (HX.out.below hb3)
  replace HB := Lib.hid (bstep HB.out hb3)
  clear hgt htl htd hT hb3 q0 q1 q2
  go_wp2_with fail
  refine (parse_ok HGT.out w3 HTL.out).mono ?_
  rintro e w4 ⟨Ay, cy, rfl, hcy, hry, hb4⟩
  rw [← HN.out] at hcy hry ⊢
  have ha := bal (bre w4) (.cells #[.int .i64 W, .int .i64 H, .slice Ay N cy] 75)
  have xk := Blk.new w4 75 #[.int .i64 W, .int .i64 H, .slice Ay N cy]
  have z := bstep (bstep HB.out hb4) ha
  have z0 := (HI.out.below hb4).below ha
  have z1 := (HX.out.below hb4).below ha
  have z2 := hry.below ha
  have z3 := (KX.out.belowS hb4).belowS ha
  clear hb4 hry hcy ha
  go_upto_region 8 with fail
  obtain ⟨g2, hg⟩ : ∃ g, w4.heap.size = g := ⟨_, rfl⟩
  obtain ⟨X4, hX⟩ : ∃ X, w4.alloc (.cells #[.int .i64 W, .int .i64 H, .slice Ay N cy] 75) = X := ⟨_, rfl⟩
  rw [hX] at z xk z0 z1 z2 z3 ⊢
  rw [hg] at xk
  simp only [hg]
  replace HB := Lib.hid z
  have KY := Lib.hid xk
  replace HI := Lib.hid z0
  replace HX := Lib.hid z1
  have HY := Lib.hid z2
  replace KX := Lib.hid z3
  clear z xk hX hg z0 z1 z2 z3
  go_wp2_with fail
  refine (refText_any W H N ci px Ai X4 HN.out hw1.1 hw1.2 HI.out HPX.out).mono ?_
  rintro e w5 ⟨rfl, hb5⟩
  rw [HTD.out]
  have q0 := (KX.out.belowS hb5).cellV (i := 0) (v := .int .i64 W) rfl
  have q1 := (KX.out.belowS hb5).cellV (i := 1) (v := .int .i64 H) rfl
  have q2 := (KX.out.belowS hb5).cellV (i := 2) (v := .slice Ax N cx) rfl
  have r0 := (KY.out.belowS hb5).cellV (i := 0) (v := .int .i64 W) rfl
  have r1 := (KY.out.belowS hb5).cellV (i := 1) (v := .int .i64 H) rfl
  have r2 := (KY.out.belowS hb5).cellV (i := 2) (v := .slice Ay N cy) rfl
  replace HX := Lib.hid (HX.out.below hb5)
  replace HY := Lib.hid (HY.out.below hb5)
  replace HB := Lib.hid (bstep HB.out hb5)
  clear hb5
  go_wp2_with fail
  refine (Gr.gsame_any W H px px Ay Ax N cy cx w5 hmul HY.out HX.out).mono ?_
  rintro e w6 ⟨rfl, hb6⟩
  rw [show decide (px = px) = true by simp]
  replace HB := Lib.hid (bstep HB.out hb6)
  clear hb6 q0 q1 q2 r0 r1 r2
  go_wp2_with fail
  refine (text_any 0 0 [] none 0 0 w6 rfl ⟨.inr rfl, by omega⟩ (by omega) (by omega) (rd_empty w6) (fun p hp => absurd hp List.not_mem_nil)).mono ?_
  rintro e w7 ⟨rfl, hb7⟩
  rw [textB_zero]
  replace HB := Lib.hid (bstep HB.out hb7)
  clear hb7
  go_upto_region 10 with fail
  rcases text_or s with ⟨z, hz⟩ | ⟨U, V, py, hgr⟩
  · have HZ := Lib.hid hz
    have hz0 : z ≠ 0 := by have := hz.ne; omega
    have hz1 : (z == 0) = false := by rw [beq_eq_false_iff_ne]; exact hz0
    clear hz
    go_wp2_with fail
    refine (parse_no HZ.out w7 hs9).mono ?_
    rintro e w8 ⟨rfl, hb8⟩
    have ha := bal (bre w8) (.cells #[.int .i64 0, .int .i64 0, .slice none 0 0] 75)
    have xk := Blk.new w8 75 #[.int .i64 0, .int .i64 0, .slice none 0 0]
    have zz := bstep (bstep HB.out hb8) ha
    clear hb8 ha
    go_upto_region 11 with fail
    obtain ⟨g3, hg⟩ : ∃ g, w8.heap.size = g := ⟨_, rfl⟩
    obtain ⟨X8, hX⟩ : ∃ X, w8.alloc (.cells #[.int .i64 0, .int .i64 0, .slice none 0 0] 75) = X := ⟨_, rfl⟩
    rw [hX] at zz xk ⊢
    rw [hg] at xk
    simp only [hg]
    replace HB := Lib.hid zz
    have KZ := Lib.hid xk
    clear zz xk hX hg
    go_wp2_with fail
    refine (refparse_no HZ.out X8 hs9).mono ?_
    rintro e w9 ⟨rfl, hb9⟩
    replace HB := Lib.hid (bstep HB.out hb9)
    replace KZ := Lib.hid (KZ.out.belowS hb9)
    clear hb9
    go_wp2_with fail
    refine (awake34_any _).mono ?_
    rintro e wA ⟨rfl, hbA⟩
    replace HB := Lib.hid (bstep HB.out hbA)
    have q0 := (KZ.out.belowS hbA).cellV (i := 0) (v := .int .i64 0) rfl
    have q1 := (KZ.out.belowS hbA).cellV (i := 1) (v := .int .i64 0) rfl
    have q2 := (KZ.out.belowS hbA).cellV (i := 2) (v := .slice none 0 0) rfl
    clear hbA
    go_wp2_with fail
    refine (Gr.gsame_any 0 0 [] [] none none 0 0 0 wA (by omega) (rd_empty _) (rd_empty _)).mono ?_
    rintro e wB ⟨rfl, hbB⟩
    replace HB := Lib.hid (bstep HB.out hbB)
    clear hbB
    go_wp2_with fail
    go_ret
    exact ⟨rfl, HB.out⟩
  · obtain ⟨i1, i2, i3, i4, i5⟩ := hgr.is
    have HGR := Lib.hid hgr
    have hUV : U * V ≤ 16384 := Gr.mul_le_128 i4.2 i5.2
    obtain ⟨M, hM⟩ : ∃ M, U * V = M := ⟨_, rfl⟩
    rw [hM] at hUV
    have HM := Lib.hid hM.symm
    have HIS := Lib.hid i1
    have HPY := Lib.hid i3
    have huv : M / U = V := by rw [← hM, Nat.mul_comm]; exact Nat.mul_div_cancel _ (by omega)
    have t1 : (M : Int).tdiv (U : Int) = (V : Int) := by rw [Int.tdiv_eq_ediv_of_nonneg (by omega), ← huv]; exact (Int.natCast_ediv M U).symm
    have t2 : IntKind.i64.wrap (V : Int) = (V : Int) := IntWalk.i64_in _ (by omega)
    have z1 : ((U : Int) == 0) = false := by rw [beq_eq_false_iff_ne]; omega
    have z2 : ¬ (U : Int) = 0 := by omega
    clear hgr i1 i2 i3 huv hM
    go_wp2_with fail
    refine (parse_ok HGR.out w7 hs9).mono ?_
    rintro e w8 ⟨Az, cz, rfl, hcz, hrz, hb8⟩
    rw [← HM.out] at hcz hrz ⊢
    have ha := bal (bre w8) (.cells #[.int .i64 U, .int .i64 V, .slice Az M cz] 75)
    have xk := Blk.new w8 75 #[.int .i64 U, .int .i64 V, .slice Az M cz]
    have zz := bstep (bstep HB.out hb8) ha
    have z3 := hrz.below ha
    have HCZ := Lib.hid hcz
    clear hb8 ha hrz hcz
    go_upto_region 11 with fail
    obtain ⟨g3, hg⟩ : ∃ g, w8.heap.size = g := ⟨_, rfl⟩
    obtain ⟨X8, hX⟩ : ∃ X, w8.alloc (.cells #[.int .i64 U, .int .i64 V, .slice Az M cz] 75) = X := ⟨_, rfl⟩
    rw [hX] at zz xk z3 ⊢
    rw [hg] at xk
    simp only [hg]
    replace HB := Lib.hid zz
    have KZ := Lib.hid xk
    have HZ := Lib.hid z3
    clear zz xk hX hg z3
    go_wp2_with fail
    refine (refparse_ok HGR.out X8 hs9).mono ?_
    rintro e w9 ⟨Av, cv, rfl, hcv, hrv, hb9⟩
    rw [← HM.out] at hcv hrv ⊢
    replace HB := Lib.hid (bstep HB.out hb9)
    replace KZ := Lib.hid (KZ.out.belowS hb9)
    replace HZ := Lib.hid (HZ.out.below hb9)
    clear hb9
    go_upto_region 14 with fail
    go_wp2_with fail
    refine (plane_any U V py Av M cv w9 i4 i5 HM.out hrv).mono ?_
    rintro e wA ⟨Au, cu, rfl, hru, hcu, hfu, hbA⟩
    have ha := bal (bre wA) (.cells #[.int .i64 U, .int .i64 V, .slice Au M cu] 75)
    have xk := Blk.new wA 75 #[.int .i64 U, .int .i64 V, .slice Au M cu]
    have zz := bstep (bstep HB.out hbA) ha
    have z3 := (HZ.out.below hbA).below ha
    have z4 := (KZ.out.belowS hbA).belowS ha
    have z5 := hru.below ha
    clear hbA ha hru hcu hfu hrv hcv t1 t2 z1 z2
    go_upto_region 15 with fail
    obtain ⟨g4, hg⟩ : ∃ g, wA.heap.size = g := ⟨_, rfl⟩
    obtain ⟨XA, hX⟩ : ∃ X, wA.alloc (.cells #[.int .i64 U, .int .i64 V, .slice Au M cu] 75) = X := ⟨_, rfl⟩
    rw [hX] at zz xk z3 z4 z5 ⊢
    rw [hg] at xk
    simp only [hg]
    replace HB := Lib.hid zz
    have KU := Lib.hid xk
    replace HZ := Lib.hid z3
    replace KZ := Lib.hid z4
    have HU := Lib.hid z5
    clear zz xk hX hg z3 z4 z5
    go_wp2_with fail
    refine (awake34_any _).mono ?_
    rintro e wB ⟨rfl, hbB⟩
    replace HB := Lib.hid (bstep HB.out hbB)
    replace HZ := Lib.hid (HZ.out.below hbB)
    replace HU := Lib.hid (HU.out.below hbB)
    replace KZ := Lib.hid (KZ.out.belowS hbB)
    replace KU := Lib.hid (KU.out.belowS hbB)
    have q0 := KZ.out.cellV (i := 0) (v := .int .i64 U) rfl
    have q1 := KZ.out.cellV (i := 1) (v := .int .i64 V) rfl
    have q2 := KZ.out.cellV (i := 2) (v := .slice Az M cz) rfl
    have r0 := KU.out.cellV (i := 0) (v := .int .i64 U) rfl
    have r1 := KU.out.cellV (i := 1) (v := .int .i64 V) rfl
    have r2 := KU.out.cellV (i := 2) (v := .slice Au M cu) rfl
    clear hbB
    go_wp2_with fail
    refine (Gr.gsame_any U V py py Az Au M cz cu wB hUV HZ.out HU.out).mono ?_
    rintro e wC ⟨rfl, hbC⟩
    rw [show decide (py = py) = true by simp]
    replace HB := Lib.hid (bstep HB.out hbC)
    replace HZ := Lib.hid (HZ.out.below hbC)
    have q0 := (KZ.out.belowS hbC).cellV (i := 0) (v := .int .i64 U) rfl
    have q1 := (KZ.out.belowS hbC).cellV (i := 1) (v := .int .i64 V) rfl
    have q2 := (KZ.out.belowS hbC).cellV (i := 2) (v := .slice Az M cz) rfl
    clear hbC r0 r1 r2
    go_wp2_with fail
    refine (text_any U V py Az M cz wC HM.out ⟨.inl i4.1, i4.2⟩ i5.2 HCZ.out HZ.out HPY.out).mono ?_
    rintro e wD ⟨rfl, hbD⟩
    rw [HIS.out]
    replace HB := Lib.hid (bstep HB.out hbD)
    clear hbD
    go_wp2_with fail
    go_ret
    exact ⟨rfl, HB.out⟩
end Go.Proofs.YtdaedkolpfkdjaaGreat
end
