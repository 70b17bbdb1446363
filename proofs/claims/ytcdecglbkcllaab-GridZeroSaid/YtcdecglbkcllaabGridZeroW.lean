/-
  The walk of the law GridZero.
-/
import Derived.Test.YtcdecglbkcllaabGridLayB
import Derived.Test.YtcdecglbkcllaabGridFillE
namespace Go.Proofs.Ytcdecglbkcllaab
open Go.RowKit Go.Shelf

section
variable (A Ah Ar : Option Addr) (c ch nr cr : Nat) (w : World)
theorem set_zero : Calls Try.prog 21 #[.agg #[.int .i64 0, .int .i64 0, .slice A 0 c], .int .i64 0, .int .i64 0, .int .u8 5] w fun e w' => ∃ A' c', e = .returned (.agg #[.int .i64 0, .int .i64 0, .slice A' 0 c']) ∧ Below w.heap.size w w' :=
  (set_any 0 0 [] 0 0 5 A 0 c w rfl (by omega) (by omega) (Nat.zero_le _) (Rd.nil _ _)).mono fun e w' ⟨A', c', h1, _, _, _, h5⟩ => ⟨A', c', h1, h5⟩
theorem fill_zero {rs : List RC} (hnr : nr ≤ 1000000000000) (hrr : RdR w Ar nr rs) (hc : ∀ r ∈ rs, r.cnt = true) : Calls Try.prog 27 #[.agg #[.int .i64 0, .int .i64 0, .slice A 0 c], .agg #[.slice Ar nr cr], .int .u8 5] w fun e w' => ∃ A' c', e = .returned (.agg #[.int .i64 0, .int .i64 0, .slice A' 0 c']) ∧ Below w.heap.size w w' :=
  (fill_any 0 0 [] 5 A Ar 0 c nr cr rs w rfl (by omega) (by omega) (Rd.nil _ _) hnr hrr hc).mono fun e w' ⟨A', h1, _, _, h5⟩ => ⟨A', 0, h1, h5⟩
theorem lay_zero {rs : List RC} (hnr : nr ≤ 1000000000000) (hrr : RdR w Ar nr rs) (hc : ∀ r ∈ rs, r.cnt = true) : Calls Try.prog 31 #[.agg #[.int .i64 0, .int .i64 0, .slice A 0 c], .agg #[.int .i64 0, .int .i64 0, .slice Ah 0 ch], .int .i64 0, .int .i64 0, .agg #[.slice Ar nr cr]] w fun e w' => ∃ A' c', e = .returned (.agg #[.int .i64 0, .int .i64 0, .slice A' 0 c']) ∧ Below w.heap.size w w' :=
  (lay_any 0 0 0 0 [] [] A Ah Ar 0 c 0 ch nr cr rs 0 0 w (Nat.zero_le _) rfl (by omega) (by omega) (Rd.nil _ _) rfl (by omega) (by omega) (Rd.nil _ _) hnr hrr hc).mono fun e w' ⟨A', c', h1, _, _, h5⟩ => ⟨A', c', h1, h5⟩
theorem crop_zero : Calls Try.prog 18 #[.agg #[.int .i64 0, .int .i64 0, .slice A 0 c], .agg #[.int .i64 0, .int .i64 0, .int .i64 1, .int .i64 1], .int .u8 6] w fun e w' => ∃ A' c', e = .returned (.tuple #[.agg #[.int .i64 1, .int .i64 1, .slice A' 1 c'], .int .i64 0]) ∧ Rd w' A' 1 (U8 [6]) ∧ Below w.heap.size w w' :=
  (crop_any 0 0 [] 0 0 1 1 6 A 0 c w rfl (by omega) (by omega) (Rd.nil _ _) (by omega) (by omega) (by omega) (by omega)).mono fun e w' ⟨A', c', h1, h2, _, _, h5⟩ => ⟨A', c', h1, h2, h5⟩
theorem at_zero : Calls Try.prog 14 #[.agg #[.int .i64 0, .int .i64 0, .slice A 0 c], .int .i64 0, .int .i64 0] w fun e w' => e = .returned (.int .u8 0) ∧ Below w.heap.size w w' :=
  at_any 0 0 [] 0 0 A 0 c w rfl (by omega) (by omega) (Rd.nil _ _)
theorem at_one (hr : Rd w A 1 (U8 [6])) : Calls Try.prog 14 #[.agg #[.int .i64 1, .int .i64 1, .slice A 1 c], .int .i64 0, .int .i64 0] w fun e w' => e = .returned (.int .u8 6) ∧ Below w.heap.size w w' :=
  at_any 1 1 [6] 0 0 A 1 c w rfl (by omega) (by omega) hr
theorem row_zero : Calls Try.prog 24 #[.agg #[.int .i64 0, .int .i64 0, .slice A 0 c], .int .i64 0] w fun e w' => e = .returned (.string ⟨#[]⟩) ∧ Below w.heap.size w w' :=
  row_no 0 0 [] 0 A 0 c w (by omega)
theorem same_zero : Calls Try.prog 25 #[.agg #[.int .i64 0, .int .i64 0, .slice A 0 c], .agg #[.int .i64 0, .int .i64 0, .slice Ah 0 ch]] w fun e w' => e = .returned (.bool true) ∧ Below w.heap.size w w' :=
  (gsame_any 0 0 [] [] A Ah 0 c ch w (Nat.zero_le _) (Rd.nil _ _) (Rd.nil _ _)).mono fun e w' ⟨h1, h2⟩ => ⟨h1.trans (by simp), h2⟩
end

set_option maxRecDepth 100000 in
set_option maxHeartbeats 4000000 in
theorem gridZero_go (w : World) : Calls Try.prog 9 #[] w fun e w' => e = .returned (.bool true) ∧ Below w.heap.size w w' := by
  go_enter Try.func9, Try.ntmps9
  have hr0 : RdR ((w.alloc (.cells #[.int .i64 0, .int .i64 0, .slice none 0 0] 25)).alloc (.cells #[.int .i64 0, .int .i64 0, .int .i64 3, .int .i64 3] 43)) (some ⟨w.heap.size + 1, 0, none⟩) 1 [⟨0, 0, 3, 3⟩] :=
    RdR.of_blk (rs := [⟨0, 0, 3, 3⟩]) (rest := []) (Blk.new2 w (.cells #[.int .i64 0, .int .i64 0, .slice none 0 0] 25) 43 #[.int .i64 0, .int .i64 0, .int .i64 3, .int .i64 3])
  have HR0 := Lib.hid hr0
  clear hr0
  go_upto_region 3 with (go_at_call 28; refine (of_any _ 1 1 [⟨0, 0, 3, 3⟩] _ (by omega) HR0.out (by simp)).mono ?_; rintro e w1 ⟨out, A1, c1, rfl, r1, hca, hpl, hol, b1⟩; have HR1 := Lib.hid r1; have HCN := Lib.hid (region_cnt hca hpl); have HB1 := Lib.hid b1; clear r1 hca hpl b1)
  have z1 := HB1.out.size
  simp only [World.size_alloc] at z1
  have bg1 : Blk w1 w.heap.size 25 #[.int .i64 0, .int .i64 0, .slice none 0 0] := ((Blk.new w _ _).alloc _).belowS HB1.out
  have bX := bal (bre w1) (.cells #[.slice A1 out.length c1] 62)
  have bg := bg1.belowS bX
  have br := Blk.new w1 62 #[.slice A1 out.length c1]
  have hbb : Below w.heap.size w (w1.alloc (.cells #[.slice A1 out.length c1] 62)) := bstep (bstep (bal (bal (bre w) _) _) HB1.out) bX
  have HRX := Lib.hid (HR1.out.below bX)
  obtain ⟨X, hX⟩ : ∃ X, w1.alloc (.cells #[.slice A1 out.length c1] 62) = X := ⟨_, rfl⟩
  obtain ⟨B, hB⟩ : ∃ B, w1.heap.size = B := ⟨_, rfl⟩
  rw [hX] at bg br hbb HRX ⊢
  rw [hB] at br z1 ⊢
  have HBG := Lib.hid bg
  have HBR := Lib.hid br
  have HBB := Lib.hid hbb
  have g0 := bg.cellV (i := 0) rfl
  have g1 := bg.cellV (i := 1) rfl
  have g2 := bg.cellV (i := 2) rfl
  have r0 := br.cellV (i := 0) rfl
  have hks : ∀ w' : World, Below X.heap.size X w' → (w'.cell? ⟨w.heap.size, 0, none⟩ = some (.int .i64 0) ∧ w'.cell? ⟨w.heap.size, 1, none⟩ = some (.int .i64 0) ∧ w'.cell? ⟨w.heap.size, 2, none⟩ = some (.slice none 0 0) ∧ w'.cell? ⟨B, 0, none⟩ = some (.slice A1 out.length c1)) := fun w' hb =>
    ⟨(HBG.out.belowS hb).cellV rfl, (HBG.out.belowS hb).cellV rfl, (HBG.out.belowS hb).cellV rfl, (HBR.out.belowS hb).cellV rfl⟩
  have HKSH := Lib.hid hks
  clear hX hB bg1 bX bg br hbb hks HB1 HR1
  go_region_held3 (fun w' => w'.cell? ⟨w.heap.size, 0, none⟩ = some (.int .i64 0) ∧ w'.cell? ⟨w.heap.size, 1, none⟩ = some (.int .i64 0) ∧ w'.cell? ⟨w.heap.size, 2, none⟩ = some (.slice none 0 0) ∧ w'.cell? ⟨B, 0, none⟩ = some (.slice A1 out.length c1))
    (first | with_reducible exact K5.out | with_reducible exact K4.out | with_reducible exact K3.out | with_reducible exact K2.out | go_keep)
    (first | (go_at_call 21; refine (set_zero _ _ _).mono ?_; rintro e w2 ⟨A2, c2, rfl, b2'⟩; have b2 := undrewX (w := X) b2' rfl rfl rfl rfl; have HB2 := Lib.hid b2; have K2 := Lib.hid (HKSH.out _ b2); clear b2 b2') | (go_at_call 27; refine (fill_zero _ _ _ _ _ _ hol (by exact HRX.out.below HB2.out) HCN.out).mono ?_; rintro e w3 ⟨A3, c3, rfl, b3⟩; have HB3 := Lib.hid (bstep HB2.out b3); have K3 := Lib.hid (HKSH.out _ (bstep HB2.out b3)); clear b3) | (go_at_call 31; refine (lay_zero _ _ _ _ _ _ _ _ hol (by exact HRX.out.below HB3.out) HCN.out).mono ?_; rintro e w4 ⟨A4, c4, rfl, b4⟩; have HB4 := Lib.hid (bstep HB3.out b4); have K4 := Lib.hid (HKSH.out _ (bstep HB3.out b4)); clear b4) | (go_at_call 12; refine (size_any _ _ _ _ _ _).mono ?_; rintro e w5 ⟨rfl, b5⟩; have HB5 := Lib.hid (bstep HB4.out b5); have K5 := Lib.hid (HKSH.out _ (bstep HB4.out b5)); clear b5))
  clear g0 g1 g2 r0
  obtain ⟨g0, g1, g2, r0⟩ := K5.out
  go_upto_region 5 with (go_at_call 18; refine (crop_zero _ _ _).mono ?_; rintro e w6 ⟨A6, c6, rfl, r6, b6⟩; have HR6 := Lib.hid r6; have HB6 := Lib.hid (bstep HB5.out b6); clear r6 b6)
  have bX := bal (bre w6) (.cells #[.int .i64 1, .int .i64 1, .slice A6 1 c6] 25)
  have bc := Blk.new w6 25 #[.int .i64 1, .int .i64 1, .slice A6 1 c6]
  have HB7 := Lib.hid (bstep HB6.out bX)
  have HR7 := Lib.hid (HR6.out.below bX)
  obtain ⟨Y, hY⟩ : ∃ Y, w6.alloc (.cells #[.int .i64 1, .int .i64 1, .slice A6 1 c6] 25) = Y := ⟨_, rfl⟩
  obtain ⟨D, hD⟩ : ∃ D, w6.heap.size = D := ⟨_, rfl⟩
  rw [hY] at bc HB7 HR7 ⊢
  rw [hD] at bc ⊢
  have HBC := Lib.hid bc
  clear hY hD bX bc g0 g1 g2 r0
  obtain ⟨g0, g1, g2, r0⟩ := HKSH.out _ HB7.out
  go_wp2_with (first
    | (go_at_call 14; with_reducible refine (at_zero _ _ _).mono ?_; rintro e w8 ⟨rfl, b8⟩; have HB8 := Lib.hid (bstep HB7.out b8); have HD8 := Lib.hid b8; obtain ⟨h80, h81, h82, _⟩ := HKSH.out _ (bstep HB7.out b8); clear b8)
    | (go_at_call 24; refine (row_zero _ _ _).mono ?_; rintro e w9 ⟨rfl, b9⟩; have HB9 := Lib.hid (bstep HB8.out b9); have HD9 := Lib.hid (bstep HD8.out b9); obtain ⟨h90, h91, h92, _⟩ := HKSH.out _ (bstep HB8.out b9); clear b9)
    | (go_at_call 25; refine (same_zero _ _ _ _ _).mono ?_; rintro e w10 ⟨rfl, b10⟩; have HB10 := Lib.hid (bstep HB9.out b10); have HD10 := Lib.hid (bstep HD9.out b10); have u0 := (HBC.out.belowS HD10.out).cellV (i := 0) (v := .int .i64 1) rfl; have u1 := (HBC.out.belowS HD10.out).cellV (i := 1) (v := .int .i64 1) rfl; have u2 := (HBC.out.belowS HD10.out).cellV (i := 2) (v := .slice A6 1 c6) rfl; clear b10)
    | (go_at_call 14; refine (at_one _ _ _ (HR7.out.below HD10.out)).mono ?_; rintro e w11 ⟨rfl, b11⟩; have HB11 := Lib.hid (bstep HB10.out b11); clear b11)
    | (go_at_call 13; refine (awake_any _).mono ?_; rintro e w12 ⟨rfl, b12⟩; have HB12 := Lib.hid (bstep HB11.out b12); clear b12))
  go_ret
  exact ⟨rfl, bstep HBB.out HB12.out⟩

end Go.Proofs.Ytcdecglbkcllaab
