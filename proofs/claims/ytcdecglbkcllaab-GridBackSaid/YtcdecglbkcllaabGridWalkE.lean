/-
  The walk of a grid's Crop.
-/
import Derived.Test.YtcdecglbkcllaabGridWalkD
namespace Go.Proofs.Ytcdecglbkcllaab
open Go.RowKit

/-- the i-th pixel of what is cropped. -/
def cpx (W H : Nat) (px : List Int) (X Y : Int) (w : Nat) (out : Int) (i : Nat) : Int :=
  if hasB W H (X + (i % w : Nat)) (Y + (i / w : Nat)) then gat W H px (X + (i % w : Nat)) (Y + (i / w : Nat)) else out
def cropL (W H : Nat) (px : List Int) (X Y : Int) (w h : Nat) (out : Int) : List Int := (List.range (w * h)).map (cpx W H px X Y w out)

set_option maxHeartbeats 1000000 in
theorem crop_size (W H : Nat) (X Y rw rh out : Int) (A : Option Addr) (n c : Nat) (w : World) (h : (sideB rw && sideB rh) = false) :
    Calls Try.prog 18 #[.agg #[.int .i64 W, .int .i64 H, .slice A n c], .agg #[.int .i64 X, .int .i64 Y, .int .i64 rw, .int .i64 rh], .int .u8 out] w fun e w' => e = .returned (.tuple #[.agg #[.int .i64 0, .int .i64 0, .slice none 0 0], .int .i64 17]) ∧ Below w.heap.size w w' := by
  cases h1 : sideB rw
  · clear h
    go_enter Try.func18, Try.ntmps18
    go_wp2_with (go_at_call 34; refine (side_any _ _).mono ?_; rintro e w' ⟨rfl, rfl⟩)
    exact bodyPost_ret (v := .tuple #[.agg #[.int .i64 0, .int .i64 0, .slice none 0 0], .int .i64 17]) (by simp [results, Try.results18, go_sem]) rfl ⟨rfl, bal (bal (bal (bre w) _) _) _⟩
  · have h2 : sideB rh = false := by simpa [h1] using h
    clear h
    go_enter Try.func18, Try.ntmps18
    go_wp2_with (go_at_call 34; refine (side_any _ _).mono ?_; rintro e w' ⟨rfl, rfl⟩)
    exact bodyPost_ret (v := .tuple #[.agg #[.int .i64 0, .int .i64 0, .slice none 0 0], .int .i64 17]) (by simp [results, Try.results18, go_sem]) rfl ⟨rfl, bal (bal (bal (bre w) _) _) _⟩
set_option maxHeartbeats 1000000 in
theorem crop_range (W H : Nat) (X Y rw rh out : Int) (A : Option Addr) (n c : Nat) (w : World) (h1 : sideB rw = true) (h2 : sideB rh = true) (h : (coordB X && coordB Y) = false) :
    Calls Try.prog 18 #[.agg #[.int .i64 W, .int .i64 H, .slice A n c], .agg #[.int .i64 X, .int .i64 Y, .int .i64 rw, .int .i64 rh], .int .u8 out] w fun e w' => e = .returned (.tuple #[.agg #[.int .i64 0, .int .i64 0, .slice none 0 0], .int .i64 1]) ∧ Below w.heap.size w w' := by
  cases h3 : coordB X
  · clear h
    go_enter Try.func18, Try.ntmps18
    go_wp2_with (first
      | (go_at_call 34; refine (side_any _ _).mono ?_; rintro e w' ⟨rfl, rfl⟩)
      | (go_at_call 36; refine (coord_any _ _).mono ?_; rintro e w' ⟨rfl, rfl⟩))
    exact bodyPost_ret (v := .tuple #[.agg #[.int .i64 0, .int .i64 0, .slice none 0 0], .int .i64 1]) (by simp [results, Try.results18, go_sem]) rfl ⟨rfl, bal (bal (bal (bre w) _) _) _⟩
  · have h4 : coordB Y = false := by simpa [h3] using h
    clear h
    go_enter Try.func18, Try.ntmps18
    go_wp2_with (first
      | (go_at_call 34; refine (side_any _ _).mono ?_; rintro e w' ⟨rfl, rfl⟩)
      | (go_at_call 36; refine (coord_any _ _).mono ?_; rintro e w' ⟨rfl, rfl⟩))
    exact bodyPost_ret (v := .tuple #[.agg #[.int .i64 0, .int .i64 0, .slice none 0 0], .int .i64 1]) (by simp [results, Try.results18, go_sem]) rfl ⟨rfl, bal (bal (bal (bre w) _) _) _⟩

set_option maxRecDepth 100000 in
set_option maxHeartbeats 4000000 in
theorem crop_any (W H : Nat) (px : List Int) (X Y : Int) (cw ch : Nat) (out : Int) (A : Option Addr) (n c : Nat) (w : World) (hn : n = W * H) (hW : W ≤ 128) (hH : H ≤ 128) (hr : Rd w A n (U8 px))
    (hX : -1048576 ≤ X ∧ X ≤ 1048576) (hY : -1048576 ≤ Y ∧ Y ≤ 1048576) (hcw : 1 ≤ cw ∧ cw ≤ 128) (hch : 1 ≤ ch ∧ ch ≤ 128) :
    Calls Try.prog 18 #[.agg #[.int .i64 W, .int .i64 H, .slice A n c], .agg #[.int .i64 X, .int .i64 Y, .int .i64 cw, .int .i64 ch], .int .u8 out] w fun e w' => ∃ A' c', e = .returned (.tuple #[.agg #[.int .i64 cw, .int .i64 ch, .slice A' (cw * ch) c'], .int .i64 0]) ∧ Rd w' A' (cw * ch) (U8 (cropL W H px X Y cw ch out)) ∧ cw * ch ≤ c' ∧ Fr w.heap.size A' ∧ Below w.heap.size w w' := by
  have hnm := mul_le_128 hcw.2 hch.2
  have s1 : sideB (cw : Int) = true := by simp [sideB]; omega
  have s2 : sideB (ch : Int) = true := by simp [sideB]; omega
  have s3 : coordB X = true := by simp [coordB]; omega
  have s4 : coordB Y = true := by simp [coordB]; omega
  have m0 : (cw : Int) * (ch : Int) = ((cw * ch : Nat) : Int) := (Int.natCast_mul cw ch).symm
  have m1 : 0 ≤ (cw : Int) * (ch : Int) := by rw [m0]; omega
  have m2 : (cw : Int) * (ch : Int) ≤ 16384 := by rw [m0]; omega
  have M0 := Lib.hid m0
  have HR := Lib.hid hr
  have HN := Lib.hid hn
  clear m0 hr hn
  obtain ⟨i0, hi0, hz0, hz1, hz2⟩ := info_parts Try.infoPx
  obtain ⟨N, hN⟩ : ∃ N, cw * ch = N := ⟨_, rfl⟩
  have HNN := Lib.hid hN
  have hN1 : N ≤ 16384 := by omega
  clear hN hnm
  go_enter Try.func18, Try.ntmps18
  go_wp2_with (first
    | (go_at_call 34; refine (side_any _ _).mono ?_; rintro e w' ⟨rfl, rfl⟩)
    | (go_at_call 36; refine (coord_any _ _).mono ?_; rintro e w' ⟨rfl, rfl⟩)
    | (at_make; refine wpList_make_own _ rfl _ _ 23 rfl (w.heap.size + 3) 22 i0 _ 1 Try.underlying23 hi0 hz0 hz1 _ _ _ N rfl rfl (by rw [M0.out, HNN.out]) (by rw [hz2]; omega) (by simp only [maxLen]; omega) (by simp) ?_; intro w1 hown hg1; have HO := Lib.hid hown; have hB1 : Below (w.heap.size + 3) (((w.alloc (.cells #[.int .i64 W, .int .i64 H, .slice A n c] 25)).alloc (.cells #[.int .i64 X, .int .i64 Y, .int .i64 cw, .int .i64 ch] 43)).alloc (.cells #[.int .i64 0, .int .i64 0, .slice none 0 0] 25)) w1 := (Below.refl _ _).grown hg1 (by simp) (by simp); clear hown hg1; have q3 : w1.cell? ⟨w.heap.size + 1, 3, none⟩ = some (.int .i64 ch) := (hB1.cell (p := ⟨w.heap.size + 1, 3, none⟩) (by dsimp only; omega)).trans (by go_simp)))
  have bg : Blk w1 w.heap.size 25 #[.int .i64 W, .int .i64 H, .slice A n c] := Blk.below (((Blk.new w _ _).alloc _).alloc _) hB1 (by omega)
  have br : Blk w1 (w.heap.size + 1) 43 #[.int .i64 X, .int .i64 Y, .int .i64 cw, .int .i64 ch] := by
    refine Blk.below (Blk.alloc ?_ _) hB1 (by omega)
    have := Blk.new (w.alloc (.cells #[.int .i64 W, .int .i64 H, .slice A n c] 25)) 43 #[.int .i64 X, .int .i64 Y, .int .i64 cw, .int .i64 ch]
    rw [World.size_alloc] at this
    exact this
  have bz : Blk w1 (w.heap.size + 2) 25 #[.int .i64 0, .int .i64 0, .slice none 0 0] := by
    refine Blk.below ?_ hB1 (by omega)
    have := Blk.new ((w.alloc (.cells #[.int .i64 W, .int .i64 H, .slice A n c] 25)).alloc (.cells #[.int .i64 X, .int .i64 Y, .int .i64 cw, .int .i64 ch] 43)) 25 #[.int .i64 0, .int .i64 0, .slice none 0 0]
    rw [World.size_alloc, World.size_alloc] at this
    exact this
  have hbw : Below w.heap.size w w1 := (bal (bal (bal (bre w) _) _) _).trans (hB1.mono (by omega))
  have hst : w1.ownsRow (w.heap.size + 3) 22 1 (.slice (some ⟨w.heap.size + 1 + 1 + 1, 0, none⟩) 0 N) 0 [] := by simpa using HO.out
  have hz1' := hB1.size
  simp only [World.size_alloc] at hz1'
  have HST := Lib.hid hst
  have BG := Lib.hid bg
  have BR := Lib.hid br
  have BZ := Lib.hid bz
  have HBW := Lib.hid hbw
  clear hst HO hB1 bg br bz hbw q3
  go_loopw [8, 42] (fun v i wr => ∃ (k : Nat) (B : Option Addr) (cap : Nat), i = .int .i64 k ∧ k ≤ ch ∧ v = .slice B (k * cw) cap ∧ wr.ownsRow (w.heap.size + 3) 22 1 (.slice B (k * cw) cap) (k * cw) (U8 ((List.range (k * cw)).map (cpx W H px X Y cw out))) ∧ Below (w.heap.size + 3) w1 wr) (fun _ i _ => ch - (intOf i).toNat)
  case atStart => exact ⟨0, _, _, rfl, by omega, by rw [Nat.zero_mul], by rw [Nat.zero_mul]; simpa [U8] using HST.out, Below.refl _ _⟩
  case round =>
    obtain ⟨k, B, cap, rfl, hk, rfl, hown, hB⟩ := hrel
    obtain ⟨wo, hwo⟩ : ∃ wo : World, wr = wo := ⟨_, rfl⟩
    subst hwo
    have HO := Lib.hid hown
    have HB := Lib.hid hB
    clear hown hB
    by_cases hlt : k < ch
    · have br := BR.out.below HB.out (by omega)
      have r2 := br.cellV (i := 2) rfl
      clear br
      have k0 : (0 : Int) ≤ (k : Int) := by omega
      have k1 : (k : Int) < (ch : Int) := by omega
      go_wp2_with fail
      go_loopw [8, 47] (fun v i wi => ∃ (m : Nat) (B : Option Addr) (cap : Nat), i = .int .i64 m ∧ m ≤ cw ∧ v = .slice B (k * cw + m) cap ∧ wi.ownsRow (w.heap.size + 3) 22 1 (.slice B (k * cw + m) cap) (k * cw + m) (U8 ((List.range (k * cw + m)).map (cpx W H px X Y cw out))) ∧ Below (w.heap.size + 3) w1 wi) (fun _ i _ => cw - (intOf i).toNat)
      case atStart => exact ⟨0, _, _, rfl, by omega, rfl, HO.out, HB.out⟩
      case round =>
        obtain ⟨m, B', cap', rfl, hm, rfl, hown', hB'⟩ := hrel
        have HO' := Lib.hid hown'
        have HB' := Lib.hid hB'
        clear hown' hB'
        by_cases hltm : m < cw
        · have bg := BG.out.below HB'.out (by omega)
          have br := BR.out.below HB'.out (by omega)
          have g0 := bg.cellV (i := 0) rfl
          have g1 := bg.cellV (i := 1) rfl
          have g2 := bg.cellV (i := 2) rfl
          have x0 := br.cellV (i := 0) rfl
          have x1 := br.cellV (i := 1) rfl
          have zi := HB'.out.size
          have y0 : w.heap.size < wr.heap.size := by omega
          have y1 : w.heap.size + 1 < wr.heap.size := by omega
          have HRi := Lib.hid (HR.out.below (HBW.out.trans (HB'.out.mono (by omega))) : Rd wr A n (U8 px))
          have j0 : (0 : Int) ≤ (m : Int) := by omega
          have j1 : (m : Int) < (cw : Int) := by omega
          have hdiv : (k * cw + m) / cw = k := by rw [Nat.mul_comm, Nat.mul_add_div (by omega), Nat.div_eq_of_lt hltm, Nat.add_zero]
          have hmod : (k * cw + m) % cw = m := by rw [Nat.mul_comm, Nat.mul_add_mod, Nat.mod_eq_of_lt hltm]
          have hkm : k * cw + m < N := by
            have h1 : (k + 1) * cw ≤ ch * cw := Nat.mul_le_mul_right cw (by omega)
            rw [Nat.add_mul, Nat.one_mul, Nat.mul_comm ch cw, HNN.out] at h1
            omega
          cases hh : hasB W H (X + m) (Y + k)
          · have hval : cpx W H px X Y cw out (k * cw + m) = out := by unfold cpx; rw [hdiv, hmod, if_neg (by rw [hh]; simp)]
            have HVAL := Lib.hid hval
            clear hval hdiv hmod bg br
            go_wp2_with (first
              | (go_at_call 35; refine (has_any _ _ _ _ _ _ _ _).mono ?_; rintro e w' ⟨rfl, rfl⟩)
              | (at_builtin; refine wpList_append_own _ rfl _ _ 23 rfl (w.heap.size + 3) 22 i0 _ 1 1 Try.underlying23 hi0 hz0 hz1 hz2 rfl (by decide) _ _ _ rfl ((HO'.out.alloc _).alloc _) ⟨wr.heap.size + 1, 0, none⟩ 1 1 [.int .u8 out] rfl rfl (by have := cell_one_new (wr.alloc (.cells #[.int .i64 W, .int .i64 H, .slice A n c] 25)) (.int .u8 out) 22; rw [World.size_alloc] at this; exact this) (by simp [Value.oneCell']) (by simp only [maxLen]; omega) (by omega) (by simp; omega) ?_; intro v' w2 hown' hgrow _; obtain ⟨A', cap2, rfl, _⟩ := own_form hown'))
            have hlast : w2.ownsRow (w.heap.size + 3) 22 1 (.slice A' (k * cw + m + 1) cap2) (k * cw + m + 1) (U8 ((List.range (k * cw + m + 1)).map (cpx W H px X Y cw out))) := by
              rw [List.range_succ, List.map_append, List.map_singleton, HVAL.out]
              simpa [U8] using hown'
            have hB4 : Below (w.heap.size + 3) w1 w2 := ((HB'.out.alloc (by omega) _).alloc (by simp; omega) _).grown hgrow (by simp; omega) (own_ge HO'.out)
            go_roundw
            case rel => exact ⟨m + 1, A', cap2, by go_num, by omega, rfl, hlast, hB4⟩
            case measure => simp [intOf]; omega
          · have hval : cpx W H px X Y cw out (k * cw + m) = gat W H px (X + m) (Y + k) := by unfold cpx; rw [hdiv, hmod, if_pos hh]
            have HVAL := Lib.hid hval
            clear hval hdiv hmod bg br
            go_wp2_with (first
              | (go_at_call 35; refine (has_any _ _ _ _ _ _ _ _).mono ?_; rintro e w' ⟨rfl, rfl⟩)
              | (go_at_call 14; refine (at_any _ _ px _ _ _ _ _ _ HN.out hW hH (HRi.out.below (bal (bre wr) _))).mono ?_; rintro e w3 ⟨rfl, hb3⟩; have HB3 := Lib.hid hb3; have z3 := hb3.size; simp only [World.size_alloc] at z3; clear hb3)
              | (at_builtin; refine wpList_append_own _ rfl _ _ 23 rfl (w.heap.size + 3) 22 i0 _ 1 1 Try.underlying23 hi0 hz0 hz1 hz2 rfl (by decide) _ _ _ rfl ((ownsRow_below (HO'.out.alloc _) HB3.out).alloc _) ⟨w3.heap.size, 0, none⟩ 1 1 [.int .u8 (gat W H px (X + m) (Y + k))] rfl rfl (cell_one_new _ _ _) (by simp [Value.oneCell']) (by simp only [maxLen]; omega) (by omega) (by simp; omega) ?_; intro v' w2 hown' hgrow _; obtain ⟨A', cap2, rfl, _⟩ := own_form hown'))
            have hlast : w2.ownsRow (w.heap.size + 3) 22 1 (.slice A' (k * cw + m + 1) cap2) (k * cw + m + 1) (U8 ((List.range (k * cw + m + 1)).map (cpx W H px X Y cw out))) := by
              rw [List.range_succ, List.map_append, List.map_singleton, HVAL.out]
              simpa [U8] using hown'
            have hB4 : Below (w.heap.size + 3) w1 w2 := (((HB'.out.alloc (by omega) _).trans (HB3.out.mono (by simp; omega))).alloc (by omega) _).grown hgrow (by simp; omega) (own_ge HO'.out)
            go_roundw
            case rel => exact ⟨m + 1, A', cap2, by go_num, by omega, rfl, hlast, hB4⟩
            case measure => simp [intOf]; omega
        · obtain rfl : m = cw := by omega
          have e : k * m + m = (k + 1) * m := by rw [Nat.add_mul, Nat.one_mul]
          have hfin := HO'.out
          rw [e] at hfin
          have HF := Lib.hid hfin
          have HE := Lib.hid e
          clear hfin e
          go_wp2_with fail
          go_roundw
          case rel => exact ⟨k + 1, B', cap', by go_num, by omega, by rw [HE.out], HF.out, HB'.out⟩
          case measure => simp [intOf]; omega
    · obtain rfl : k = ch := by omega
      have br := BR.out.below HB.out (by omega)
      have bz := BZ.out.below HB.out (by omega)
      have x2 := br.cellV (i := 2) rfl
      have x3 := br.cellV (i := 3) rfl
      have d0 := bz.cellV (i := 0) rfl
      have d1 := bz.cellV (i := 1) rfl
      have d2 := bz.cellV (i := 2) rfl
      have f0 := bz.frozen 0
      have f1 := bz.frozen 1
      have f2 := bz.frozen 2
      have e : k * cw = cw * k := Nat.mul_comm _ _
      have hfin := HO.out
      rw [e] at hfin
      rw [e]
      have HF := Lib.hid hfin
      clear hfin e br bz
      go_wp2_with fail
      refine bodyPost_ret (v := .tuple #[.agg #[.int .i64 cw, .int .i64 k, .slice B (cw * k) cap], .int .i64 0]) (by simp [results, Try.results18, go_sem, d0, d1, d2]) rfl ⟨B, cap, rfl, ?_, ?_, (Fr.own HF.out).mono (by omega), ?_⟩
      · have hr := Rd.of_own HF.out
        have hne : ∀ a : Addr, B = some a → a.block ≠ w.heap.size + 2 := fun a ea => by
          subst ea
          rcases HF.out.2 with ⟨e1, _⟩ | ⟨g, _, _, e1, hg, _⟩
          · cases e1
          · injection e1 with e1 _ _
            injection e1 with e1
            subst e1
            dsimp only
            omega
        exact ((hr.far (p := ⟨w.heap.size + 2, 0, none⟩) hne _).far (p := ⟨w.heap.size + 2, 1, none⟩) hne _).far (p := ⟨w.heap.size + 2, 2, none⟩) hne _
      · obtain ⟨_, _, e1, h1⟩ := own_form HF.out
        injection e1 with _ _ e1
        omega
      · exact bset (p := ⟨_, _, _⟩) (bset (p := ⟨_, _, _⟩) (bset (p := ⟨_, _, _⟩) (HBW.out.trans (HB.out.mono (by omega))) (by dsimp only; omega) _) (by dsimp only; omega) _) (by dsimp only; omega) _

end Go.Proofs.Ytcdecglbkcllaab
