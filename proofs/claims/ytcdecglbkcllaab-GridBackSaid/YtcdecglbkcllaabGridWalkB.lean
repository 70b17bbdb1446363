/-
  The walks of grid.New and of the document's New.
-/
import Derived.Test.YtcdecglbkcllaabGridWalkA
namespace Go.Proofs.Ytcdecglbkcllaab
open Go.RowKit

theorem Try.infoPx : (Try.prog.info? 22).map (fun i => (i.zero, i.size, i.bytes)) = some (some (.int .u8 0), 1, 1) := by kernel_rfl

set_option maxHeartbeats 400000 in
theorem new_no (a b p : Int) (w : World) (h : (sideB a && sideB b) = false) :
    Calls Try.prog 10 #[.int .i64 a, .int .i64 b, .int .u8 p] w fun e w' => e = .returned (.tuple #[.agg #[.int .i64 0, .int .i64 0, .slice none 0 0], .int .i64 17]) ∧ Below w.heap.size w w' := by
  cases ha : sideB a
  · clear h
    go_enter Try.func10, Try.ntmps10
    go_wp2_with (go_at_call 34; refine (side_any _ _).mono ?_; rintro e w' ⟨rfl, rfl⟩)
    exact bodyPost_ret (v := .tuple #[.agg #[.int .i64 0, .int .i64 0, .slice none 0 0], .int .i64 17]) (by simp [results, Try.results10, go_sem]) rfl ⟨rfl, bal (bre w) _⟩
  · have hb : sideB b = false := by simpa [ha] using h
    clear h
    go_enter Try.func10, Try.ntmps10
    go_wp2_with (go_at_call 34; refine (side_any _ _).mono ?_; rintro e w' ⟨rfl, rfl⟩)
    exact bodyPost_ret (v := .tuple #[.agg #[.int .i64 0, .int .i64 0, .slice none 0 0], .int .i64 17]) (by simp [results, Try.results10, go_sem]) rfl ⟨rfl, bal (bre w) _⟩

theorem mul_le_128 {W H : Nat} (hW : W ≤ 128) (hH : H ≤ 128) : W * H ≤ 16384 := Nat.mul_le_mul hW hH

set_option maxHeartbeats 1000000 in
theorem new_any (W H : Nat) (p : Int) (w : World) (hW : 1 ≤ W ∧ W ≤ 128) (hH : 1 ≤ H ∧ H ≤ 128) :
    Calls Try.prog 10 #[.int .i64 W, .int .i64 H, .int .u8 p] w fun e w' => ∃ A cap, e = .returned (.tuple #[.agg #[.int .i64 W, .int .i64 H, .slice A (W * H) cap], .int .i64 0]) ∧ Rd w' A (W * H) (U8 (List.replicate (W * H) p)) ∧ W * H ≤ cap ∧ Fr w.heap.size A ∧ Below w.heap.size w w' := by
  have hWH := mul_le_128 hW.2 hH.2
  have sW : sideB (W : Int) = true := by simp [sideB]; omega
  have sH : sideB (H : Int) = true := by simp [sideB]; omega
  have m0 : (W : Int) * (H : Int) = ((W * H : Nat) : Int) := (Int.natCast_mul W H).symm
  have m1 : 0 ≤ (W : Int) * (H : Int) := by rw [m0]; omega
  have m2 : (W : Int) * (H : Int) ≤ 16384 := by rw [m0]; omega
  have M0 := Lib.hid m0
  clear m0
  obtain ⟨i0, hi, hz0, hz1, hz2⟩ := info_parts Try.infoPx
  obtain ⟨n, hn⟩ : ∃ n, W * H = n := ⟨_, rfl⟩
  have HN := Lib.hid hn
  have hn1 : n ≤ 16384 := by omega
  clear hn hWH
  go_enter Try.func10, Try.ntmps10
  go_wp2_with (first
    | (go_at_call 34; refine (side_any _ _).mono ?_; rintro e w' ⟨rfl, rfl⟩)
    | (at_make; refine wpList_make_full _ rfl _ _ 23 rfl (w.heap.size + 1) 22 i0 _ 1 Try.underlying23 hi hz0 hz1 _ _ _ _ n rfl rfl (by rw [M0.out, HN.out]) (by rw [M0.out, HN.out]) (by rw [hz2]; omega) (by simp only [maxLen]; omega) (by simp) ?_; intro w1 hown hg1; have HO := Lib.hid hown; have hB1 : Below (w.heap.size + 1) (w.alloc (.cells #[.int .i64 0, .int .i64 0, .slice none 0 0] 25)) w1 := (Below.refl _ _).grown hg1 (by simp) (by simp); clear hown hg1))
  have hst : w1.ownsRow (w.heap.size + 1) 22 1 (.slice (some ⟨w.heap.size + 1, 0, none⟩) n n) n (madeCells (Value.int .u8 0).cells (n * 1)).toList := by simpa using HO.out
  have HST := Lib.hid hst
  clear hst
  go_loopw [25] (fun i wr => ∃ k : Nat, i = .int .i64 k ∧ k ≤ n ∧ (∃ vs, wr.ownsRow (w.heap.size + 1) 22 1 (.slice (some ⟨w.heap.size + 1, 0, none⟩) n n) n vs ∧ vs.take k = List.replicate k (.int .u8 p)) ∧ Below (w.heap.size + 1) (w.alloc (.cells #[.int .i64 0, .int .i64 0, .slice none 0 0] 25)) wr) (fun i _ => n - (intOf i).toNat)
  case atStart => exact ⟨0, rfl, by omega, ⟨_, HST.out, by simp⟩, hB1⟩
  case round =>
    obtain ⟨k, rfl, hk, ⟨vs, hown, htk⟩, hB⟩ := hrel
    have HT := Lib.hid htk
    have HOW := Lib.hid hown
    have hlen : vs.length = n := by simpa using hown.1
    by_cases hlt : k < n
    · obtain ⟨v, hv⟩ : ∃ v, vs[k]? = some v := ⟨_, List.getElem?_eq_getElem (by omega)⟩
      have hc : wr.cell? ⟨w.heap.size + 1, k, none⟩ = some v := (hown.cellAt k (by omega)).trans hv
      have hf : wr.frozen? ⟨w.heap.size + 1, k, none⟩ = false := hown.frozenAt k
      have k0 : (0 : Int) ≤ (k : Int) := by omega
      have k1 : (k : Int) < (n : Int) := by omega
      have HB := Lib.hid hB
      have HV := Lib.hid hv
      have HLN := Lib.hid hlen
      clear hB hown htk hv hlen
      go_wp2_with fail
      go_roundw
      case rel =>
        refine ⟨k + 1, by go_num, by omega, ⟨_, (HOW.out.stored k _).1, ?_⟩, HB.out.setCell (p := ⟨w.heap.size + 1, k, none⟩) (Nat.le_refl _) _⟩
        rw [List.take_set, List.take_add_one, HT.out, HV.out, List.replicate_succ', List.set_append_right _ _ (by simp)]
        simp
      case measure => simp [intOf]; omega
    · obtain rfl : k = n := by omega
      have hall : vs = List.replicate k (.int .u8 p) := by rw [← htk, List.take_of_length_le (by omega)]
      have q0 : wr.cell? ⟨w.heap.size, 0, none⟩ = some (.int .i64 0) := (hB.cell (p := ⟨w.heap.size, 0, none⟩) (by dsimp only; omega)).trans (by go_simp)
      have q1 : wr.cell? ⟨w.heap.size, 1, none⟩ = some (.int .i64 0) := (hB.cell (p := ⟨w.heap.size, 1, none⟩) (by dsimp only; omega)).trans (by go_simp)
      have q2 : wr.cell? ⟨w.heap.size, 2, none⟩ = some (.slice none 0 0) := (hB.cell (p := ⟨w.heap.size, 2, none⟩) (by dsimp only; omega)).trans (by go_simp)
      have f0 : wr.frozen? ⟨w.heap.size, 0, none⟩ = false := (hB.frozen (p := ⟨w.heap.size, 0, none⟩) (by dsimp only; omega)).trans (by go_simp)
      have f1 : wr.frozen? ⟨w.heap.size, 1, none⟩ = false := (hB.frozen (p := ⟨w.heap.size, 1, none⟩) (by dsimp only; omega)).trans (by go_simp)
      have f2 : wr.frozen? ⟨w.heap.size, 2, none⟩ = false := (hB.frozen (p := ⟨w.heap.size, 2, none⟩) (by dsimp only; omega)).trans (by go_simp)
      have HB := Lib.hid hB
      have HA := Lib.hid hall
      clear hB hown htk hlen hall
      go_wp2_with fail
      refine bodyPost_ret (v := .tuple #[.agg #[.int .i64 W, .int .i64 H, .slice (some ⟨w.heap.size + 1, 0, none⟩) k k], .int .i64 0]) (by simp [results, Try.results10, go_sem, q0, q1, q2]) rfl ⟨some ⟨w.heap.size + 1, 0, none⟩, k, by rw [HN.out], ?_, by rw [HN.out]; omega, fun a ea => by cases ea; dsimp only; omega, ?_⟩
      · rw [HN.out]
        have hr := Rd.of_own HOW.out
        rw [HA.out] at hr
        have hne : ∀ a : Addr, some (⟨w.heap.size + 1, 0, none⟩ : Addr) = some a → a.block ≠ w.heap.size := fun a e => by cases e; dsimp only; omega
        have hu : U8 (List.replicate k p) = List.replicate k (.int .u8 p) := by simp [U8]
        rw [hu]
        exact ((hr.far (p := ⟨w.heap.size, 0, none⟩) hne _).far (p := ⟨w.heap.size, 1, none⟩) hne _).far (p := ⟨w.heap.size, 2, none⟩) hne _
      · exact bset (p := ⟨_, _, _⟩) (bset (p := ⟨_, _, _⟩) (bset (p := ⟨_, _, _⟩) ((bal (bre w) _).trans (HB.out.mono (by omega))) (Nat.le_refl _) _) (Nat.le_refl _) _) (Nat.le_refl _) _

set_option maxHeartbeats 1000000 in
theorem rnew_any (W H : Nat) (p : Int) (w : World) (hW : W ≤ 128) (hH : H ≤ 128) :
    Calls Try.prog 16 #[.int .i64 W, .int .i64 H, .int .u8 p] w fun e w' => ∃ A cap, e = .returned (.agg #[.int .i64 W, .int .i64 H, .slice A (W * H) cap]) ∧ w'.ownsRow w.heap.size 22 1 (.slice A (W * H) cap) (W * H) (U8 (List.replicate (W * H) p)) ∧ Below w.heap.size w w' := by
  have hWH := mul_le_128 hW hH
  have m0 : (W : Int) * (H : Int) = ((W * H : Nat) : Int) := (Int.natCast_mul W H).symm
  have m1 : 0 ≤ (W : Int) * (H : Int) := by rw [m0]; omega
  have m2 : (W : Int) * (H : Int) ≤ 16384 := by rw [m0]; omega
  obtain ⟨i0, hi, hz0, hz1, hz2⟩ := info_parts Try.infoPx
  have M0 := Lib.hid m0
  clear m0
  go_enter Try.func16, Try.ntmps16
  go_wp2_with fail
  go_loopw [8] (fun i wr => ∃ (k : Nat) (A : Option Addr) (cap : Nat), i = .int .i64 k ∧ k ≤ W * H ∧ Blk wr (w.heap.size + 1) 36 #[.int .i64 W, .int .i64 H, .slice A k cap] ∧ Blk wr w.heap.size 36 #[.int .i64 0, .int .i64 0, .slice none 0 0]
      ∧ wr.ownsRow (w.heap.size + 2) 22 1 (.slice A k cap) k (U8 (List.replicate k p)) ∧ Below w.heap.size w wr ∧ w.heap.size + 2 ≤ wr.heap.size) (fun i _ => W * H - (intOf i).toNat)
  case atStart =>
    exact ⟨0, none, 0, rfl, by omega, by have := Blk.new (w.alloc (.cells #[.int .i64 0, .int .i64 0, .slice none 0 0] 36)) 36 #[.int .i64 W, .int .i64 H, .slice none 0 0]; simpa using this, (Blk.new w _ _).alloc _, World.ownsRow_nil _ _ _ _, bal (bal (bre w) _) _, by simp⟩
  case round =>
    obtain ⟨k, A, cap, rfl, hk, hb1, hb0, hown, hB, hsz⟩ := hrel
    have HO := Lib.hid hown
    have HB := Lib.hid hB
    have HB1 := Lib.hid hb1
    have HB0 := Lib.hid hb0
    by_cases hlt : k < W * H
    · have c2 := hb1.cellV (i := 2) rfl
      have t1 : (k : Int) < (W : Int) * (H : Int) := by rw [M0.out]; omega
      have d1 : decide ((k : Int) < (W : Int) * (H : Int)) = true := by simp [t1]
      clear hown hB hb1 hb0
      go_wp2_with (at_builtin; refine wpList_append_own _ rfl _ _ 23 rfl (w.heap.size + 2) 22 i0 _ 1 1 Try.underlying23 hi hz0 hz1 hz2 rfl (by decide) _ _ _ rfl (HO.out.alloc _) ⟨wr.heap.size, 0, none⟩ 1 1 [.int .u8 p] rfl rfl (cell_one_new _ _ _) (by simp [Value.oneCell']) (by simp only [maxLen]; omega) (by omega) (by simp; omega) ?_; intro v' w1 hown' hgrow _; obtain ⟨A', cap', rfl, _⟩ := own_form hown'; have n1 := (HB1.out.alloc (.cells #[.int .u8 p] 22)).grown hgrow (own_ne HO.out (by omega)); have n0 := (HB0.out.alloc (.cells #[.int .u8 p] 22)).grown hgrow (own_ne HO.out (by omega)); have c2' := n1.cellV (i := 2) rfl; have f2' := n1.frozen 2)
      have hB4 : Below w.heap.size w (w1.setCell ⟨w.heap.size + 1, 2, none⟩ (.slice A' (k + 1) cap')) :=
        bset (p := ⟨w.heap.size + 1, 2, none⟩) ((bal HB.out _).grown hgrow (by have := HB.out.size; simp; omega) (fun g hg => by have := own_ge HO.out g hg; omega)) (by dsimp only; omega) _
      have hsz4 : w.heap.size + 2 ≤ (w1.setCell ⟨w.heap.size + 1, 2, none⟩ (.slice A' (k + 1) cap')).heap.size := by
        have := hgrow.size
        simp [World.setCell] at this ⊢
        omega
      have hlast : w1.ownsRow (w.heap.size + 2) 22 1 (.slice A' (k + 1) cap') (k + 1) (U8 (List.replicate (k + 1) p)) := by
        have e : U8 (List.replicate (k + 1) p) = U8 (List.replicate k p) ++ [.int .u8 p] := by simp [U8, List.replicate_succ']
        rw [e]; exact hown'
      go_roundw
      case rel => exact ⟨k + 1, A', cap', by go_num, by omega, n1.set_ 2 _, n0.far (p := ⟨w.heap.size + 1, 2, none⟩) (by dsimp only; omega) _, own_far hlast (p := ⟨w.heap.size + 1, 2, none⟩) (by dsimp only; omega) _, hB4, hsz4⟩
      case measure => simp [intOf]; omega
    · obtain rfl : k = W * H := by omega
      have c0 := hb1.cellV (i := 0) rfl
      have c1 := hb1.cellV (i := 1) rfl
      have c2 := hb1.cellV (i := 2) rfl
      have d0 := hb0.cellV (i := 0) rfl
      have d1 := hb0.cellV (i := 1) rfl
      have d2 := hb0.cellV (i := 2) rfl
      have g0 := hb0.frozen 0
      have g1 := hb0.frozen 1
      have g2 := hb0.frozen 2
      have t1 : (W : Int) * (H : Int) ≤ ((W * H : Nat) : Int) := by rw [M0.out]; exact Int.le_refl _
      have t2 : decide (((W * H : Nat) : Int) < (W : Int) * (H : Int)) = false := by rw [M0.out]; simp
      have t3 : decide ((W : Int) * (H : Int) < (W : Int) * (H : Int)) = false := by simp
      clear hown hB hb1 hb0
      go_wp2_with fail
      refine bodyPost_ret (v := .agg #[.int .i64 W, .int .i64 H, .slice A (W * H) cap]) (by simp [results, Try.results16, go_sem, d0, d1, d2]) rfl ⟨A, cap, rfl, ?_, ?_⟩
      · exact ownsRow_base (own_far (p := ⟨w.heap.size, 2, none⟩) (own_far (p := ⟨w.heap.size, 1, none⟩) (own_far (p := ⟨w.heap.size, 0, none⟩) HO.out (by dsimp only; omega) _) (by dsimp only; omega) _) (by dsimp only; omega) _) (by omega)
      · exact bset (p := ⟨_, _, _⟩) (bset (p := ⟨_, _, _⟩) (bset (p := ⟨_, _, _⟩) HB.out (Nat.le_refl _) _) (Nat.le_refl _) _) (Nat.le_refl _) _

end Go.Proofs.Ytcdecglbkcllaab
