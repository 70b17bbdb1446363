/-
  The walk of the law LineMoves: moved points have moved places; turned about its long way a line is the other one's.
-/
import Derived.Deep.DeepCutAuto
import Derived.Test.YtcdecglbkcllaaaLineWalkH
namespace Go.Proofs.Ytcdecglbkcllaaa.Ln
open Go.RowKit Go.Shelf
attribute [local go_sem ↓] run_eql_pt run_neq_pt

set_option maxRecDepth 100000 in
set_option maxHeartbeats 4000000 in
theorem lineMoves_any (ax ay bx by' dx dy : Int) (w : World) (hax : -32768 ≤ ax ∧ ax ≤ 32767) (hay : -32768 ≤ ay ∧ ay ≤ 32767) (hbx : -32768 ≤ bx ∧ bx ≤ 32767) (hby : -32768 ≤ by' ∧ by' ≤ 32767) (hdx : -32768 ≤ dx ∧ dx ≤ 32767) (hdy : -32768 ≤ dy ∧ dy ≤ 32767) :
    Calls Try.prog 5 #[.agg #[.int .i16 ax, .int .i16 ay, .int .i16 bx, .int .i16 by'], .agg #[.int .i16 dx, .int .i16 dy]] w fun e w' => e = .returned (.bool true) ∧ Below w.heap.size w w' := by
  have r1 : rightB ax ay = true := right_mk (by omega)
  have r2 : rightB bx by' = true := right_mk (by omega)
  have r3 : rightB (ax + dx) (ay + dy) = true := right_mk (by omega)
  have r4 : rightB (bx + dx) (by' + dy) = true := right_mk (by omega)
  have r5 : rightB ay ax = true := right_mk (by omega)
  have r6 : rightB by' bx = true := right_mk (by omega)
  obtain ⟨n, hn⟩ : ∃ n, stp ax ay bx by' = n := ⟨_, rfl⟩
  have hn65 : n ≤ 65535 := by
    rw [← hn]; unfold stp; split <;> omega
  have hn2 : stp (ax + dx) (ay + dy) (bx + dx) (by' + dy) = n := (pt_move ax ay bx by' dx dy 0).2.2.trans hn
  have hn3 : stp ay ax by' bx = n := (pt_turn ax ay bx by' 0).2.2.trans hn
  have R1 := Lib.hid r1
  have R2 := Lib.hid r2
  have R3 := Lib.hid r3
  have R4 := Lib.hid r4
  have R5 := Lib.hid r5
  have R6 := Lib.hid r6
  have N1 := Lib.hid hn
  have N2 := Lib.hid hn2
  have N3 := Lib.hid hn3
  clear r1 r2 r3 r4 r5 r6 hn hn2 hn3
  have w1 : IntKind.i64.wrap ax = ax := IntWalk.i64_in _ (by omega)
  have w2 : IntKind.i64.wrap ay = ay := IntWalk.i64_in _ (by omega)
  have w3 : IntKind.i64.wrap bx = bx := IntWalk.i64_in _ (by omega)
  have w4 : IntKind.i64.wrap by' = by' := IntWalk.i64_in _ (by omega)
  have w5 : IntKind.i64.wrap dx = dx := IntWalk.i64_in _ (by omega)
  have w6 : IntKind.i64.wrap dy = dy := IntWalk.i64_in _ (by omega)
  go_enter Try.func5, Try.ntmps5
  go_upto_region 1 with fail
  go_cut [5, 6] (fun s5 s6 wx => ∃ g5 g6 : Nat, s5 = .pointer (some ⟨g5, 0, none⟩) ∧ s6 = .pointer (some ⟨g6, 0, none⟩) ∧ wx.cell? ⟨g5, 0, none⟩ = some (.int .i64 ax) ∧ wx.cell? ⟨g5, 1, none⟩ = some (.int .i64 ay) ∧ wx.cell? ⟨g6, 0, none⟩ = some (.int .i64 bx) ∧ wx.cell? ⟨g6, 1, none⟩ = some (.int .i64 by') ∧ g5 < wx.heap.size ∧ g6 < wx.heap.size
    ∧ wx.cell? ⟨w.heap.size + 1, 0, none⟩ = some (.int .i16 dx) ∧ wx.cell? ⟨w.heap.size + 1, 1, none⟩ = some (.int .i16 dy) ∧ Below w.heap.size w wx)
  case first =>
    go_region
    all_goals
      go_wp2_with fail
      go_meet
      refine ⟨_, _, rfl, rfl, ?_, ?_, ?_, ?_, ?_, ?_, ?_, ?_, ?_⟩
      all_goals first | exact below_drewN (bal (bal (bal (bal (bre w) _) _) _) _) 1 | (simp; omega) | (go_simp; done)
  case rest =>
    obtain ⟨g5, g6, rfl, rfl, a0, a1, b0, b1, z5, z6, c0, c1, hbc⟩ := hcut
    have HBC := Lib.hid hbc
    have zc := hbc.size
    clear hbc
    go_wp2_with fail
    go_quiet (fail)
    clear w1 w2 w3 w4 w5 w6 c0 c1
    go_wp2_with fail
    refine (pixels_n _ _ _ _ _ R1.out R2.out n N1.out hn65).mono ?_
    rintro e v1 ⟨gl, capl, rfl, hgl, hl, hb1⟩
    have HL := Lib.hid hl
    have HB1 := Lib.hid (undrewX hb1 rfl rfl rfl rfl : Below wc.heap.size wc v1)
    clear hl hb1
    have a0' := (HB1.out.cell (p := ⟨g5, 0, none⟩) z5).trans a0
    have a1' := (HB1.out.cell (p := ⟨g5, 1, none⟩) z5).trans a1
    have b0' := (HB1.out.cell (p := ⟨g6, 0, none⟩) z6).trans b0
    have b1' := (HB1.out.cell (p := ⟨g6, 1, none⟩) z6).trans b1
    clear a0 a1 b0 b1
    have zv1 := HB1.out.size
    go_wp2_with fail
    refine (pixels_n _ _ _ _ _ R3.out R4.out n N2.out hn65).mono ?_
    rintro e v2 ⟨gm, capm, rfl, hgm, hm, hb2⟩
    have HM := Lib.hid hm
    have HB2 := Lib.hid hb2
    clear hm hb2
    have a0 := (HB2.out.cell (p := ⟨g5, 0, none⟩) (by dsimp only; omega)).trans a0'
    have a1 := (HB2.out.cell (p := ⟨g5, 1, none⟩) (by dsimp only; omega)).trans a1'
    have b0 := (HB2.out.cell (p := ⟨g6, 0, none⟩) (by dsimp only; omega)).trans b0'
    have b1 := (HB2.out.cell (p := ⟨g6, 1, none⟩) (by dsimp only; omega)).trans b1'
    clear a0' a1' b0' b1'
    go_wp2_with fail
    refine (pixels_n _ _ _ _ _ R5.out R6.out n N3.out hn65).mono ?_
    rintro e v3 ⟨gt, capt, rfl, hgt, ht, hb3⟩
    have hcl : ∀ k : Nat, k ≤ n → v3.cell? ⟨gl, k * 2, none⟩ = some (.int .i64 (ptx ax ay bx by' k)) ∧ v3.cell? ⟨gl, k * 2 + 1, none⟩ = some (.int .i64 (pty ax ay bx by' k)) := fun k hk =>
      ⟨(hb3.cell (p := ⟨gl, k * 2, none⟩) (by have := HB2.out.size; dsimp only; omega)).trans ((HB2.out.cell (p := ⟨gl, k * 2, none⟩) hgl).trans (HL.out k hk).1), (hb3.cell (p := ⟨gl, k * 2 + 1, none⟩) (by have := HB2.out.size; dsimp only; omega)).trans ((HB2.out.cell (p := ⟨gl, k * 2 + 1, none⟩) hgl).trans (HL.out k hk).2)⟩
    have hcm : ∀ k : Nat, k ≤ n → v3.cell? ⟨gm, k * 2, none⟩ = some (.int .i64 (ptx ax ay bx by' k + dx)) ∧ v3.cell? ⟨gm, k * 2 + 1, none⟩ = some (.int .i64 (pty ax ay bx by' k + dy)) := fun k hk => by
      have := HM.out k hk
      rw [(pt_move ax ay bx by' dx dy k).1, (pt_move ax ay bx by' dx dy k).2.1] at this
      exact ⟨(hb3.cell (p := ⟨gm, k * 2, none⟩) hgm).trans this.1, (hb3.cell (p := ⟨gm, k * 2 + 1, none⟩) hgm).trans this.2⟩
    have hct : ∀ k : Nat, k ≤ n → v3.cell? ⟨gt, k * 2, none⟩ = some (.int .i64 (pty ax ay bx by' k)) ∧ v3.cell? ⟨gt, k * 2 + 1, none⟩ = some (.int .i64 (ptx ax ay bx by' k)) := fun k hk => by
      have := ht k hk
      rw [(pt_turn ax ay bx by' k).1, (pt_turn ax ay bx by' k).2.1] at this
      exact this
    have HB3 : Hid (Below w.heap.size w v3) := bstep (bstep (bstep HBC.out HB1.out) HB2.out) hb3
    have HCL := Lib.hid hcl
    have HCM := Lib.hid hcm
    have HCT := Lib.hid hct
    clear hcl hcm hct ht hb3 a0 a1 b0 b1 HL HM
    go_wp2_with fail
    go_loopw [15] (fun i wr => ∃ k : Nat, i = .int .i64 k ∧ k ≤ n + 1 ∧ ∃ m, wr = v3.drewN m) (fun i _ => n + 1 - (intOf i).toNat)
    case atStart => exact ⟨0, rfl, by omega, 0, rfl⟩
    case round =>
      obtain ⟨k, rfl, hk, m, rfl⟩ := hrel
      by_cases hlt : k < n + 1
      · obtain ⟨l1, l2⟩ := HCL.out k (by omega)
        obtain ⟨m1, m2⟩ := HCM.out k (by omega)
        obtain ⟨t1, t2⟩ := HCT.out k (by omega)
        have hr := right_bd (pt_right R1.out R2.out (k : Int) (by omega) (by rw [N1.out]; omega))
        have e1 : IntKind.i64.wrap (ptx ax ay bx by' k + dx) = ptx ax ay bx by' k + dx := IntWalk.i64_in _ (by omega)
        have e2 : IntKind.i64.wrap (pty ax ay bx by' k + dy) = pty ax ay bx by' k + dy := IntWalk.i64_in _ (by omega)
        have k0 : (0 : Int) ≤ (k : Int) := by omega
        have k1 : (k : Int) < (n : Int) + 1 := by omega
        go_wp2_with fail
        go_quiet (fail)
        clear e1 e2
        go_wp2_with fail
        go_roundw
        case rel => exact ⟨k + 1, by go_num, by omega, _, rfl⟩
        case measure => simp [intOf]; omega
      · have d2 : decide (k < n + 1) = false := by simp; omega
        have d3 : decide ((k : Int) < (n : Int) + 1) = false := by simp; omega
        go_wp2_with (go_at_call 12; refine (awake_any _).mono ?_; rintro e w5 ⟨rfl, hb5⟩)
        go_ret
        exact ⟨rfl, bstep HB3.out (undrewX hb5 rfl rfl rfl rfl)⟩

end Go.Proofs.Ytcdecglbkcllaaa.Ln
