/-
  The walk of the laws' example (awake), and of the law GridNew.
-/
import Derived.Test.YtcdecglbkcllaabGridWalkE
import Derived.Test.YtcdecglbkcllaabGridWalkF
namespace Go.Proofs.Ytcdecglbkcllaab
open Go.RowKit

theorem row_any (W H : Nat) (px : List Int) (y : Int) (A : Option Addr) (n c : Nat) (w : World) (hn : n = W * H) (hW : 1 ≤ W ∧ W ≤ 128) (hH : H ≤ 128) (hc : n ≤ c) (hr : Rd w A n (U8 px)) (hp : Pix px) :
    Calls Try.prog 24 #[.agg #[.int .i64 W, .int .i64 H, .slice A n c], .int .i64 y] w fun e w' => e = .returned (.string ⟨(rowB W H px y).toArray⟩) ∧ Below w.heap.size w w' := by
  by_cases h : 0 ≤ y ∧ y < H
  · exact row_in W H px y A n c w hn hW hH hc hr hp h
  · exact row_no W H px y A n c w h

theorem new32 (w : World) : Calls Try.prog 10 #[.int .i64 3, .int .i64 2, .int .u8 7] w fun e w' => ∃ A cap, e = .returned (.tuple #[.agg #[.int .i64 3, .int .i64 2, .slice A 6 cap], .int .i64 0]) ∧ Rd w' A 6 (U8 [7, 7, 7, 7, 7, 7]) ∧ 6 ≤ cap ∧ Fr w.heap.size A ∧ Below w.heap.size w w' :=
  new_any 3 2 7 w (by omega) (by omega)
theorem set32 (A : Option Addr) (c : Nat) (w : World) (hc : 6 ≤ c) (hr : Rd w A 6 (U8 [7, 7, 7, 7, 7, 7])) :
    Calls Try.prog 21 #[.agg #[.int .i64 3, .int .i64 2, .slice A 6 c], .int .i64 1, .int .i64 0, .int .u8 9] w fun e w' => ∃ A' c', e = .returned (.agg #[.int .i64 3, .int .i64 2, .slice A' 6 c']) ∧ Rd w' A' 6 (U8 [7, 9, 7, 7, 7, 7]) ∧ 6 ≤ c' ∧ (A' = A ∨ Fr w.heap.size A') ∧ Below w.heap.size w w' :=
  set_any 3 2 [7, 7, 7, 7, 7, 7] 1 0 9 A 6 c w rfl (by omega) (by omega) hc hr
theorem crop32 (A : Option Addr) (c : Nat) (w : World) (hr : Rd w A 6 (U8 [7, 9, 7, 7, 7, 7])) :
    Calls Try.prog 18 #[.agg #[.int .i64 3, .int .i64 2, .slice A 6 c], .agg #[.int .i64 2, .int .i64 0, .int .i64 2, .int .i64 1], .int .u8 0] w fun e w' => ∃ A' c', e = .returned (.tuple #[.agg #[.int .i64 2, .int .i64 1, .slice A' 2 c'], .int .i64 0]) ∧ Rd w' A' 2 (U8 [7, 0]) ∧ 2 ≤ c' ∧ Fr w.heap.size A' ∧ Below w.heap.size w w' := by
  have h := crop_any 3 2 [7, 9, 7, 7, 7, 7] 2 0 2 1 0 A 6 c w rfl (by omega) (by omega) hr (by omega) (by omega) (by omega) (by omega)
  have e : cropL 3 2 [7, 9, 7, 7, 7, 7] 2 0 2 1 0 = [7, 0] := by decide
  rw [e] at h
  exact h
theorem row32 (y : Int) (l : List UInt8) (A : Option Addr) (c : Nat) (w : World) (hc : 6 ≤ c) (hr : Rd w A 6 (U8 [7, 9, 7, 7, 7, 7])) (h : rowB 3 2 [7, 9, 7, 7, 7, 7] y = l) :
    Calls Try.prog 24 #[.agg #[.int .i64 3, .int .i64 2, .slice A 6 c], .int .i64 y] w fun e w' => e = .returned (.string ⟨l.toArray⟩) ∧ Below w.heap.size w w' := by
  have h1 := row_any 3 2 [7, 9, 7, 7, 7, 7] y A 6 c w rfl (by omega) (by omega) hc hr (by intro p hp; simp at hp; omega)
  rw [h] at h1
  exact h1
theorem row21 (l : List UInt8) (A : Option Addr) (c : Nat) (w : World) (hc : 2 ≤ c) (hr : Rd w A 2 (U8 [7, 0])) (h : rowB 2 1 [7, 0] 0 = l) :
    Calls Try.prog 24 #[.agg #[.int .i64 2, .int .i64 1, .slice A 2 c], .int .i64 0] w fun e w' => e = .returned (.string ⟨l.toArray⟩) ∧ Below w.heap.size w w' := by
  have h1 := row_any 2 1 [7, 0] 0 A 2 c w rfl (by omega) (by omega) hc hr (by intro p hp; simp at hp; omega)
  rw [h] at h1
  exact h1

set_option maxRecDepth 100000 in
set_option maxHeartbeats 2000000 in
theorem awake_any (w : World) : Calls Try.prog 13 #[] w fun e w' => e = .returned (.bool true) ∧ Below w.heap.size w w' := by
  have h1 : rowB 3 2 [7, 9, 7, 7, 7, 7] 0 = [7, 9, 7] := by decide
  have h2 : rowB 3 2 [7, 9, 7, 7, 7, 7] 1 = [7, 7, 7] := by decide
  have h3 : rowB 2 1 [7, 0] 0 = [7, 0] := by decide
  have H1 := Lib.hid h1
  have H2 := Lib.hid h2
  have H3 := Lib.hid h3
  clear h1 h2 h3
  go_enter Try.func13, Try.ntmps13
  go_wp2_with fail
  refine (new32 _).mono ?_
  rintro e w1 ⟨A1, c1, rfl, r1, k1, _, b1⟩
  have R1 := Lib.hid r1
  have B1 := Lib.hid b1
  clear r1 b1
  go_wp2_with fail
  refine (set32 _ _ _ k1 (R1.out.below (bal (bre w1) _))).mono ?_
  rintro e w2 ⟨A2, c2, rfl, r2, k2, hfr, b2⟩
  have bx := (Blk.new w1 25 #[.int .i64 3, .int .i64 2, .slice A1 6 c1]).belowS b2
  have x0 := bx.cellV (i := 0) rfl
  have x1 := bx.cellV (i := 1) rfl
  have x2 := bx.cellV (i := 2) rfl
  have f0 := bx.frozen 0
  have f1 := bx.frozen 1
  have f2 := bx.frozen 2
  have hne : 0 < 6 → ∀ a : Addr, A2 = some a → a.block ≠ w1.heap.size := fun _ a ea => by
    rcases hfr with rfl | hfr
    · have := R1.out.lt (by omega) a ea
      omega
    · have := hfr a ea
      simp at this
      omega
  have hX : Blk (((w2.setCell ⟨w1.heap.size, 0, none⟩ (.int .i64 3)).setCell ⟨w1.heap.size, 1, none⟩ (.int .i64 2)).setCell ⟨w1.heap.size, 2, none⟩ (.slice A2 6 c2)) w1.heap.size 25 #[.int .i64 3, .int .i64 2, .slice A2 6 c2] := ((bx.set_ 0 _).set_ 1 _).set_ 2 _
  have rX := ((r2.far' (p := ⟨w1.heap.size, 0, none⟩) hne (.int .i64 3)).far' (p := ⟨w1.heap.size, 1, none⟩) hne (.int .i64 2)).far' (p := ⟨w1.heap.size, 2, none⟩) hne (.slice A2 6 c2)
  have zb := B1.out.size
  have bX : Below w.heap.size w _ := bset (p := ⟨w1.heap.size, 2, none⟩) (bset (p := ⟨w1.heap.size, 1, none⟩) (bset (p := ⟨w1.heap.size, 0, none⟩) (bstep (bal B1.out _) b2) zb (.int .i64 3)) zb (.int .i64 2)) zb (.slice A2 6 c2)
  clear hne hfr bx r2 b2
  have HX := Lib.hid hX
  have RX := Lib.hid rX
  have BX := Lib.hid bX
  clear hX rX bX
  go_upto_region 3 with fail
  have hX := HX.out
  have rX := RX.out
  have bX := BX.out
  obtain ⟨X, eX⟩ : ∃ X, ((w2.setCell ⟨w1.heap.size, 0, none⟩ (.int .i64 3)).setCell ⟨w1.heap.size, 1, none⟩ (.int .i64 2)).setCell ⟨w1.heap.size, 2, none⟩ (.slice A2 6 c2) = X := ⟨_, rfl⟩
  obtain ⟨g, eg⟩ : ∃ g, w1.heap.size = g := ⟨_, rfl⟩
  rw [eX] at hX rX bX ⊢
  rw [eg] at hX zb ⊢
  clear eX eg HX RX BX x0 x1 x2 f0 f1 f2 R1 B1
  have x0 := hX.cellV (i := 0) rfl
  have x1 := hX.cellV (i := 1) rfl
  have x2 := hX.cellV (i := 2) rfl
  have HX := Lib.hid hX
  have RX := Lib.hid rX
  have BX := Lib.hid bX
  clear hX rX bX
  go_wp2_with fail
  refine (crop32 _ _ _ RX.out).mono ?_
  rintro e w3 ⟨A3, c3, rfl, r3, k3, _, b3⟩
  have bg := HX.out.belowS b3
  have zg := bg.lt
  have x0' := bg.cellV (i := 0) rfl
  have x1' := bg.cellV (i := 1) rfl
  have x2' := bg.cellV (i := 2) rfl
  have R3 := Lib.hid r3
  have RX3 := Lib.hid (RX.out.below b3)
  have BG := Lib.hid bg
  have B3 : Hid (Below w.heap.size w w3) := bstep BX.out b3
  clear r3 b3 x0 x1 x2 bg RX BX HX
  go_wp2_with fail
  refine (row32 0 _ _ _ _ k2 (RX3.out.below (bal (bre w3) _)) H1.out).mono ?_
  rintro e w4 ⟨rfl, b4⟩
  have bg := (BG.out.alloc (.cells #[.int .i64 2, .int .i64 1, .slice A3 2 c3] 25)).belowS b4
  have bc := (Blk.new w3 25 #[.int .i64 2, .int .i64 1, .slice A3 2 c3]).belowS b4
  have y0 := bg.cellV (i := 0) rfl
  have y1 := bg.cellV (i := 1) rfl
  have y2 := bg.cellV (i := 2) rfl
  have BG4 := Lib.hid bg
  have BC4 := Lib.hid bc
  have B4 := Lib.hid b4
  clear bg bc b4 x0' x1' x2'
  go_wp2_with fail
  refine (row32 1 _ _ _ _ k2 ((RX3.out.below (bal (bre w3) _)).below B4.out) H2.out).mono ?_
  rintro e w5 ⟨rfl, b5⟩
  have bc := BC4.out.belowS b5
  have z0 := bc.cellV (i := 0) rfl
  have z1 := bc.cellV (i := 1) rfl
  have z2 := bc.cellV (i := 2) rfl
  have B5 := Lib.hid b5
  clear bc b5 y0 y1 y2
  go_wp2_with fail
  refine (row21 _ _ _ _ k3 (((R3.out.below (bal (bre w3) _)).below B4.out).below B5.out) H3.out).mono ?_
  rintro e w6 ⟨rfl, b6⟩
  clear z0 z1 z2
  go_wp2_with fail
  go_ret
  exact ⟨rfl, bstep (bstep (bstep (bal B3.out _) B4.out) B5.out) b6⟩

end Go.Proofs.Ytcdecglbkcllaab
