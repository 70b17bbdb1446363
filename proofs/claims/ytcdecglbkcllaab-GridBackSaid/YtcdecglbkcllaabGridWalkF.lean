/-
  The walk of the laws' Is, where a grid is the document's.
-/
import Derived.Test.YtcdecglbkcllaabGridWalkC
namespace Go.Proofs.Ytcdecglbkcllaab
open Go.RowKit

theorem Rd.alike {w w' : World} {A : Option Addr} {n : Nat} {vs : List Value} (h : Rd w A n vs) (hh : w'.heap = w.heap) : Rd w' A n vs :=
  h.keep (by rw [hh]; exact Nat.le_refl _) (fun b o v hc => by rw [← hc]; simp [World.cell?, hh])

set_option maxRecDepth 100000 in
set_option maxHeartbeats 2000000 in
theorem is_any (W H : Nat) (px : List Int) (A A' : Option Addr) (n c c' : Nat) (w : World) (hn : n = W * H) (hW : W ≤ 128) (hH : H ≤ 128) (hr : Rd w A n (U8 px)) (hr' : Rd w A' n (U8 px)) :
    Calls Try.prog 15 #[.agg #[.int .i64 W, .int .i64 H, .slice A n c], .agg #[.int .i64 W, .int .i64 H, .slice A' n c']] w fun e w' => e = .returned (.bool true) ∧ Below w.heap.size w w' := by
  have HR := Lib.hid hr
  have HR' := Lib.hid hr'
  have HN := Lib.hid hn
  clear hr hr' hn
  go_enter Try.func15, Try.ntmps15
  go_wp2_with (go_at_call 12; refine (size_any _ _ _ _ _ _).mono ?_; rintro e w1 ⟨rfl, hb1⟩; have HB1 := Lib.hid hb1; have b0 := (Blk.new w 25 #[.int .i64 W, .int .i64 H, .slice A n c]).alloc (.cells #[.int .i64 W, .int .i64 H, .slice A' n c'] 36); have b0 := b0.belowS hb1; have b1 := Blk.new (w.alloc (.cells #[.int .i64 W, .int .i64 H, .slice A n c] 25)) 36 #[.int .i64 W, .int .i64 H, .slice A' n c']; rw [World.size_alloc] at b1; have b1 := b1.belowS hb1; have BG := Lib.hid b0; have BD := Lib.hid b1; have d0 := b1.cellV (i := 0) rfl; have d1 := b1.cellV (i := 1) rfl; have hz := hb1.size; simp only [World.size_alloc] at hz; clear hb1 b0 b1)
  have HBW : Hid (Below w.heap.size w w1) := bstep (bal (bal (bre w) _) _) HB1.out
  clear d0 d1 HB1
  go_loopw [7] (fun i wr => ∃ k : Nat, i = .int .i64 (-1 + k) ∧ k ≤ H + 2 ∧ Below w1.heap.size w1 wr) (fun i _ => (H + 1 - intOf i).toNat)
  case atStart => exact ⟨0, rfl, by omega, Below.refl _ _⟩
  case round =>
    obtain ⟨k, rfl, hk, hB⟩ := hrel
    obtain ⟨wo, hwo⟩ : ∃ wo : World, wr = wo := ⟨_, rfl⟩
    subst hwo
    have HB := Lib.hid hB
    have bd := BD.out.belowS hB
    have d0 := bd.cellV (i := 0) rfl
    have d1 := bd.cellV (i := 1) rfl
    clear hB bd
    by_cases hlt : k < H + 2
    · have k1 : -1 + (k : Int) ≤ (H : Int) := by omega
      go_wp2_with fail
      go_loopw [8] (fun i wi => ∃ m : Nat, i = .int .i64 (-1 + m) ∧ m ≤ W + 2 ∧ Below w1.heap.size w1 wi) (fun i _ => (W + 1 - intOf i).toNat)
      case atStart => exact ⟨0, rfl, by omega, HB.out⟩
      case round =>
        obtain ⟨m, rfl, hm, hB'⟩ := hrel
        have HB' := Lib.hid hB'
        have bg := BG.out.belowS hB'
        have bd := BD.out.belowS hB'
        have g0 := bg.cellV (i := 0) rfl
        have g1 := bg.cellV (i := 1) rfl
        have g2 := bg.cellV (i := 2) rfl
        have e0 := bd.cellV (i := 0) rfl
        have e1 := bd.cellV (i := 1) rfl
        have e2 := bd.cellV (i := 2) rfl
        have zi := hB'.size
        clear hB' bg bd d0 d1
        by_cases hltm : m < W + 2
        · have j1 : -1 + (m : Int) ≤ (W : Int) := by omega
          have y0 : w.heap.size < wr.heap.size := by omega
          have y1 : w.heap.size + 1 < wr.heap.size := by omega
          have HRi : Hid (Rd wr A n (U8 px)) := HR.out.below (bstep HBW.out HB'.out)
          have HRi' : Hid (Rd wr A' n (U8 px)) := HR'.out.below (bstep HBW.out HB'.out)
          go_wp2_with fail
          go_region_held3 (fun w' => w'.cell? ⟨w.heap.size, 0, none⟩ = some (.int .i64 W) ∧ w'.cell? ⟨w.heap.size, 1, none⟩ = some (.int .i64 H) ∧ w'.cell? ⟨w.heap.size, 2, none⟩ = some (.slice A n c) ∧ w'.cell? ⟨w.heap.size + 1, 0, none⟩ = some (.int .i64 W) ∧ w'.cell? ⟨w.heap.size + 1, 1, none⟩ = some (.int .i64 H) ∧ w'.cell? ⟨w.heap.size + 1, 2, none⟩ = some (.slice A' n c'))
            (first | go_keep | exact ⟨(hb4.cell (p := ⟨w.heap.size, 0, none⟩) y0).trans g0, (hb4.cell (p := ⟨w.heap.size, 1, none⟩) y0).trans g1, (hb4.cell (p := ⟨w.heap.size, 2, none⟩) y0).trans g2, (hb4.cell (p := ⟨w.heap.size + 1, 0, none⟩) y1).trans e0, (hb4.cell (p := ⟨w.heap.size + 1, 1, none⟩) y1).trans e1, (hb4.cell (p := ⟨w.heap.size + 1, 2, none⟩) y1).trans e2⟩ | exact ⟨(hb5.cell (p := ⟨w.heap.size, 0, none⟩) (Nat.lt_of_lt_of_le y0 hb4.size)).trans ((hb4.cell (p := ⟨w.heap.size, 0, none⟩) y0).trans g0), (hb5.cell (p := ⟨w.heap.size, 1, none⟩) (Nat.lt_of_lt_of_le y0 hb4.size)).trans ((hb4.cell (p := ⟨w.heap.size, 1, none⟩) y0).trans g1), (hb5.cell (p := ⟨w.heap.size, 2, none⟩) (Nat.lt_of_lt_of_le y0 hb4.size)).trans ((hb4.cell (p := ⟨w.heap.size, 2, none⟩) y0).trans g2), (hb5.cell (p := ⟨w.heap.size + 1, 0, none⟩) (Nat.lt_of_lt_of_le y1 hb4.size)).trans ((hb4.cell (p := ⟨w.heap.size + 1, 0, none⟩) y1).trans e0), (hb5.cell (p := ⟨w.heap.size + 1, 1, none⟩) (Nat.lt_of_lt_of_le y1 hb4.size)).trans ((hb4.cell (p := ⟨w.heap.size + 1, 1, none⟩) y1).trans e1), (hb5.cell (p := ⟨w.heap.size + 1, 2, none⟩) (Nat.lt_of_lt_of_le y1 hb4.size)).trans ((hb4.cell (p := ⟨w.heap.size + 1, 2, none⟩) y1).trans e2)⟩)
            (first | (go_at_call 14; refine (at_any _ _ px _ _ _ _ _ _ HN.out hW hH (by exact HRi.out.alike rfl)).mono ?_; rintro e w4 ⟨rfl, hb4⟩) | (go_at_call 23; refine (rat_any _ _ px _ _ _ _ _ _ HN.out hW hH (HRi'.out.below (undrewX hb4 rfl rfl rfl rfl))).mono ?_; rintro e w5 ⟨rfl, hb5⟩))
          have hb6 : Below wr.heap.size wr w5 := bstep (undrewX hb4 rfl rfl rfl rfl) hb5
          have hB6 : Below w1.heap.size w1 w5 := bstep HB'.out hb6
          clear hb4 hb5 hb6
          go_wp2_with fail
          go_roundw
          case rel => exact ⟨m + 1, by go_num, by omega, hB6⟩
          case measure => simp [intOf]; omega
        · have j2 : (W : Int) < -1 + (m : Int) := by omega
          have dj : decide (-1 + (m : Int) ≤ (W : Int)) = false := by simp; omega
          go_wp2_with fail
          go_roundw
          case rel => exact ⟨k + 1, by go_num, by omega, HB'.out⟩
          case measure => simp [intOf]; omega
    · have k2 : (H : Int) < -1 + (k : Int) := by omega
      have dk : decide (-1 + (k : Int) ≤ (H : Int)) = false := by simp; omega
      go_wp2_with fail
      go_ret
      exact ⟨rfl, bstep HBW.out HB.out⟩

end Go.Proofs.Ytcdecglbkcllaab
