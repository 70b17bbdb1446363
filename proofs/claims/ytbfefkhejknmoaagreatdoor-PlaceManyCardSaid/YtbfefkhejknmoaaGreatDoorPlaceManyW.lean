/-
  The walk of the law PlaceMany.
-/
import Derived.Test.YtbfefkhejknmoaaGreatDoorAw
namespace Go.Proofs.YtbfefkhejknmoaaGreatDoor
open Go.RowKit Go.Maps Go.Shelf

def mBX (i : Int) : BX := ⟨i, 0, 1, 1, false, 0, 0, false, none, 0, 0⟩
/-- the boxes behind k settings. -/
def bsM (k : Nat) : Bxs := fun j => if j = 1 then some (rootBX 5 5) else if 1048577 ≤ j ∧ j ≤ 1048576 + (k : Int) then some (mBX (j - 1048576)) else none
theorem bsM_zero : bsM 0 = fun i => if i = 1 then some (rootBX 5 5) else none := by
  funext j
  unfold bsM
  by_cases h : j = 1
  · rw [if_pos h, if_pos h]
  · rw [if_neg h, if_neg h, if_neg (by omega)]
theorem bsM_put (k : Nat) : (fun j => if j = 1048576 + ((k : Int) + 1) then some (mBX ((k : Int) + 1)) else bsM k j) = bsM (k + 1) := by
  funext j
  unfold bsM
  by_cases h : j = 1048576 + ((k : Int) + 1)
  · subst h
    rw [if_pos rfl, if_neg (by omega), if_pos (by omega)]
    congr 2
    omega
  · rw [if_neg h]
    by_cases h1 : j = 1
    · rw [if_pos h1, if_pos h1]
    · rw [if_neg h1, if_neg h1]
      by_cases h2 : 1048577 ≤ j ∧ j ≤ 1048576 + (k : Int)
      · rw [if_pos h2, if_pos (by omega)]
      · rw [if_neg h2, if_neg (by omega)]
theorem bsM_has (k : Nat) (i : Int) : (bsM k (1048576 + i)).isSome = decide (i = -1048575 ∨ (1 ≤ i ∧ i ≤ (k : Int))) := by
  unfold bsM
  by_cases h : i = -1048575
  · subst h; simp
  · rw [if_neg (by omega)]
    by_cases h2 : 1 ≤ i ∧ i ≤ (k : Int)
    · rw [if_pos (by omega)]; simp [h2]
    · rw [if_neg (by omega)]; simp [h, h2]
theorem idC_many (i : Int) (h : 1 ≤ i ∧ i ≤ 1000) : idC (1048576 + i) = 0 := by
  have h1 : (1048576 + i) % 1048576 = i := by omega
  have h2 : (1048576 + i) / 1048576 = 1 := by omega
  unfold idC clientB
  rw [if_neg (by omega), h1, h2]
  have : ¬ i = 0 := by omega
  simp [this]
theorem many_codes (j : Nat) (h1 : 1 ≤ j) (h2 : j ≤ 68) : setC (bsM (min (j - 1) 63)) (min (j - 1) 63 + 1) (1048576 + (j : Int)) (mBX (j : Int)) = (if j < 64 then 0 else 5) ∧ setN (bsM (min (j - 1) 63)) (min (j - 1) 63 + 1) (1048576 + (j : Int)) (mBX (j : Int)) = min j 63 + 1 ∧ setB (bsM (min (j - 1) 63)) (min (j - 1) 63 + 1) (1048576 + (j : Int)) (mBX (j : Int)) = bsM (min j 63) := by
  have hno : (bsM (min (j - 1) 63) (1048576 + (j : Int))).isSome = false := by
    rw [bsM_has]
    exact decide_eq_false (by omega)
  have hc : setC (bsM (min (j - 1) 63)) (min (j - 1) 63 + 1) (1048576 + (j : Int)) (mBX (j : Int)) = if j < 64 then 0 else 5 := by
    unfold setC
    rw [if_neg (by omega), if_neg (by rw [idC_many _ (by omega)]; decide), if_neg (by
      show ¬ (coordB (j : Int) && coordB 0) = false
      unfold coordB
      rw [decide_eq_true (by omega : -32768 ≤ (j : Int)), decide_eq_true (by omega : (j : Int) ≤ 32767)]
      decide), if_neg (by show ¬ (sideB 1 && sideB 1) = false; decide), if_neg (by show ¬ (gravC 0 = 10 ∨ gravC 0 = 10); decide), if_neg (by show ¬ (false = false ∧ 0 ≠ 0); decide)]
    by_cases hj : j < 64
    · rw [if_pos hj, if_neg (by omega), if_neg (by omega)]
    · rw [if_neg hj, if_pos ⟨hno, by omega⟩]
  refine ⟨hc, ?_, ?_⟩
  · unfold setN
    rw [hc, hno]
    by_cases hj : j < 64
    · rw [if_pos hj, if_pos rfl, if_neg (by decide)]; omega
    · rw [if_neg hj, if_neg (by decide)]; omega
  · unfold setB
    rw [hc]
    by_cases hj : j < 64
    · rw [if_pos hj, if_pos rfl, show min (j - 1) 63 = j - 1 from by omega, show min j 63 = (j - 1) + 1 from by omega, ← bsM_put, show ((j - 1 : Nat) : Int) + 1 = (j : Int) from by omega]
    · rw [if_neg hj, if_neg (by decide), show min (j - 1) 63 = 63 from by omega, show min j 63 = 63 from by omega]
theorem many_put (mb : Option Nat) (j : Nat) (w : World) (h1 : 1 ≤ j) (h2 : j ≤ 68) (hp : PlaceIs w (.agg #[.map mb]) (min (j - 1) 63 + 1) (bsM (min (j - 1) 63))) :
    Calls Tryz.prog 15 #[.agg #[.map mb], .int .u32 (1048576 + (j : Int)), .agg #[.int .i64 (j : Int), .int .i64 0, .int .i64 1, .int .i64 1, .bool false, .int .i64 0, .int .i64 0, .bool false, .slice none 0 0]] w fun e w' => ∃ mb', e = .returned (.tuple #[.agg #[.map mb'], .int .i64 (if j < 64 then 0 else 5)]) ∧ PlaceIs w' (.agg #[.map mb']) (min j 63 + 1) (bsM (min j 63)) ∧ Below w.heap.size w w' := by
  refine (pset_any (.agg #[.map mb]) _ _ (1048576 + (j : Int)) (mBX (j : Int)) w (by omega) (by omega) hp (by omega)).mono ?_
  rintro e w' ⟨pv', rfl, hp', hb'⟩
  obtain ⟨e1, e2, e3⟩ := many_codes j h1 h2
  rw [e2, e3] at hp'
  obtain ⟨mb', rfl, h⟩ := hp'
  exact ⟨mb', by rw [e1], ⟨mb', rfl, h⟩, hb'⟩
def lastBX : BX := ⟨7, 0, 2, 2, false, 0, 0, false, none, 0, 0⟩
def bsL (m : Nat) : Bxs := fun x => if x = 1048581 then some lastBX else bsM m x
theorem many_last (mb : Option Nat) (m : Nat) (w : World) (h1 : 60 ≤ m ∧ m ≤ 63) (hp : PlaceIs w (.agg #[.map mb]) (m + 1) (bsM m)) :
    Calls Tryz.prog 15 #[.agg #[.map mb], .int .u32 1048581, .agg #[.int .i64 7, .int .i64 0, .int .i64 2, .int .i64 2, .bool false, .int .i64 0, .int .i64 0, .bool false, .slice none 0 0]] w fun e w' => ∃ mb', e = .returned (.tuple #[.agg #[.map mb'], .int .i64 0]) ∧ PlaceIs w' (.agg #[.map mb']) (m + 1) (bsL m) ∧ Below w.heap.size w w' := by
  have hs : (bsM m 1048581).isSome = true := by
    have := bsM_has m 5
    rw [show (1048576 : Int) + 5 = 1048581 from rfl] at this
    rw [this]
    exact decide_eq_true (by omega)
  refine (pset_ok (.agg #[.map mb]) (m + 1) (bsM m) 1048581 lastBX w (by decide) (by omega) hp (by decide) (by decide) (by decide) (by decide) (by decide) (by decide) (by decide) (by decide) (.inr ⟨rfl, rfl⟩) (.inl hs) (by simp; omega)).mono ?_
  rintro e w' ⟨pv', rfl, hp', hb'⟩
  rw [hs, if_pos rfl] at hp'
  obtain ⟨mb', rfl, h⟩ := hp'
  exact ⟨mb', rfl, ⟨mb', rfl, h⟩, hb'⟩
theorem many_new (w : World) :
    Calls Tryz.prog 14 #[.int .i64 5, .int .i64 5] w fun e w' => ∃ mb, e = .returned (.tuple #[.agg #[.map mb], .int .i64 0]) ∧ PlaceIs w' (.agg #[.map mb]) 1 (bsM 0) ∧ Below w.heap.size w w' := by
  refine (pnew_any 5 5 w (by decide) (by decide)).mono ?_
  rintro e w' ⟨pv', rfl, hp', hb'⟩
  rw [← bsM_zero] at hp'
  obtain ⟨mb, rfl, h⟩ := hp'
  exact ⟨mb, rfl, ⟨mb, rfl, h⟩, hb'⟩

set_option maxRecDepth 100000 in
set_option maxHeartbeats 8000000 in
theorem many_any (n : Int) (w : World) (hn0 : 0 ≤ n) (hn1 : n ≤ 255) (hH : Halves w) : Calls Tryz.prog 4 #[.int .u8 n] w fun e w' => e = .returned (.bool true) ∧ Below w.heap.size w w' := by
  have HH := Lib.hid hH
  clear hH
  go_enter Tryz.func4, Tryz.ntmps4
  go_wp2_with fail
  with_reducible refine (awake_any _ HH.out).mono ?_
  rintro e w1 ⟨rfl, hb⟩
  have HB := Lib.hid (bstep (bre w) hb)
  clear hb
  obtain ⟨N, hN⟩ : ∃ N : Nat, 60 + n % 8 = (N : Int) := ⟨(60 + n % 8).toNat, by omega⟩
  have hN1 : 60 ≤ N ∧ N ≤ 67 := by omega
  have HN := Lib.hid hN
  clear hN
  go_wp2_with fail
  with_reducible refine (many_new _).mono ?_
  rintro e w4 ⟨mp, rfl, hp, hb⟩
  rw [HN.out]
  have HB := Lib.hid (bstep HB.out hb)
  have HP := Lib.hid hp
  clear hb hp
  go_upto_region 5 with fail
  have hsz := HB.out.size
  have HL4 := Lib.hid hsz
  have bn := Blk.new w4 38 #[.map mp]
  have hbe := bal HB.out (.cells #[.map mp] 38)
  have cp := HP.out.below (bal (bre w4) (.cells #[.map mp] 38))
  obtain ⟨X4, hX4⟩ : ∃ X4, w4.alloc (.cells #[.map mp] 38) = X4 := ⟨_, rfl⟩
  rw [hX4] at bn hbe cp ⊢
  have HB := Lib.hid hbe
  have HP := Lib.hid cp
  have K4 := Lib.hid bn
  clear hbe cp bn hsz hX4
  go_wp2_with fail
  go_loopw [6, 7, 8] (fun i _ _ wr => ∃ (j : Nat) (mb : Option Nat), i = .int .i64 (j : Int) ∧ 1 ≤ j ∧ j ≤ N + 1 ∧ Blk wr w4.heap.size 38 #[.map mb] ∧ PlaceIs wr (.agg #[.map mb]) (min (j - 1) 63 + 1) (bsM (min (j - 1) 63)) ∧ Below w.heap.size w wr) (fun i _ _ _ => N + 1 - (intOf i).toNat)
  case atStart => exact ⟨1, mp, rfl, by omega, by omega, K4.out, HP.out, HB.out⟩
  case round =>
    obtain ⟨j, mb, rfl, hj1, hj2, hk, hp, hb⟩ := hrel
    have HP := Lib.hid hp
    have HB := Lib.hid hb
    have K4 := Lib.hid hk
    have k4 := hk.cellV (i := 0) (v := .map mb) rfl
    clear hk hp hb
    by_cases hjn : j ≤ N
    · have d1 : (j : Int) ≤ (N : Int) := by omega
      by_cases hlt : j < 64
      · have d2 : decide ((j : Int) < 64) = true := decide_eq_true (by omega)
        go_wp2_with fail
        with_reducible refine (many_put mb j _ hj1 (by omega) HP.out).mono ?_
        rintro e w5 ⟨mb', rfl, hp, hb⟩
        rw [if_pos hlt]
        have HB := Lib.hid (bal (bstep HB.out hb) (.cells #[.map mb'] 38))
        have HP := Lib.hid (hp.below (bal (bre w5) (.cells #[.map mb'] 38)))
        have b4 := (K4.out.belowS hb).alloc (.cells #[.map mb'] 38)
        have K5 := Lib.hid (Blk.new w5 38 #[.map mb'])
        have hbx := HB.out
        have hpx := HP.out
        have k5x := K5.out
        clear hp hb k4
        go_upto_region 9 with fail
        obtain ⟨X5, hX5⟩ : ∃ X5, w5.alloc (.cells #[.map mb'] 38) = X5 := ⟨_, rfl⟩
        rw [hX5] at b4 hbx hpx k5x ⊢
        have HB := Lib.hid hbx
        have HP := Lib.hid hpx
        have K4 := Lib.hid b4
        have K5 := Lib.hid k5x
        clear b4 hbx hpx k5x hX5
        have k4 := K4.out.cellV (i := 0) (v := .map mb) rfl
        have f4 := K4.out.frozen 0
        have l4 := K4.out.lt
        have k5 := K5.out.cellV (i := 0) (v := .map mb') rfl
        go_wp2_with fail
        go_roundw
        case rel =>
          refine ⟨j + 1, mb', by go_num, by omega, by omega, K4.out.set_ 0 (.map mb'), ?_, bset (p := ⟨w4.heap.size, 0, none⟩) HB.out HL4.out (.map mb')⟩
          exact HP.out.setBlk K4.out 0 (.map mb')
        case measure => simp [intOf]; omega
      · have d2 : decide ((j : Int) < 64) = false := decide_eq_false (by omega)
        go_wp2_with fail
        with_reducible refine (many_put mb j _ hj1 (by omega) HP.out).mono ?_
        rintro e w5 ⟨mb', rfl, hp, hb⟩
        rw [if_neg hlt]
        have HB := Lib.hid (bal (bstep HB.out hb) (.cells #[.map mb'] 38))
        have HP := Lib.hid (hp.below (bal (bre w5) (.cells #[.map mb'] 38)))
        have b4 := (K4.out.belowS hb).alloc (.cells #[.map mb'] 38)
        have K5 := Lib.hid (Blk.new w5 38 #[.map mb'])
        have hbx := HB.out
        have hpx := HP.out
        have k5x := K5.out
        clear hp hb k4
        go_upto_region 9 with fail
        obtain ⟨X5, hX5⟩ : ∃ X5, w5.alloc (.cells #[.map mb'] 38) = X5 := ⟨_, rfl⟩
        rw [hX5] at b4 hbx hpx k5x ⊢
        have HB := Lib.hid hbx
        have HP := Lib.hid hpx
        have K4 := Lib.hid b4
        have K5 := Lib.hid k5x
        clear b4 hbx hpx k5x hX5
        have k4 := K4.out.cellV (i := 0) (v := .map mb) rfl
        have f4 := K4.out.frozen 0
        have l4 := K4.out.lt
        have k5 := K5.out.cellV (i := 0) (v := .map mb') rfl
        go_wp2_with fail
        go_roundw
        case rel =>
          refine ⟨j + 1, mb', by go_num, by omega, by omega, K4.out.set_ 0 (.map mb'), ?_, bset (p := ⟨w4.heap.size, 0, none⟩) HB.out HL4.out (.map mb')⟩
          exact HP.out.setBlk K4.out 0 (.map mb')
        case measure => simp [intOf]; omega
    · have d1 : ¬ (j : Int) ≤ (N : Int) := by omega
      obtain rfl : j = N + 1 := by omega
      obtain ⟨m, hm⟩ : ∃ m, min N 63 = m := ⟨_, rfl⟩
      have HP := Lib.hid (show PlaceIs wr (.agg #[.map mb]) (m + 1) (bsM m) by have := HP.out; rwa [Nat.add_sub_cancel, hm] at this)
      have hm1 : 60 ≤ m ∧ m ≤ 63 := by omega
      have HS := Lib.hid (show (bsL m (1048576 + (N : Int))).isSome = decide ((N : Int) < 64) by
        unfold bsL
        rw [if_neg (by omega), bsM_has]
        rw [Bool.eq_iff_iff, decide_eq_true_eq, decide_eq_true_eq]
        omega)
      clear hm
      go_wp2_with fail
      with_reducible refine (many_last mb m _ hm1 HP.out).mono ?_
      rintro e w5 ⟨mb', rfl, hp, hb⟩
      have hbx := bal (bstep HB.out hb) (.cells #[.map mb'] 38)
      have hpx := hp.below (bal (bre w5) (.cells #[.map mb'] 38))
      have k5x := Blk.new w5 38 #[.map mb']
      clear hp hb k4
      go_upto_region 13 with fail
      obtain ⟨X5, hX5⟩ : ∃ X5, w5.alloc (.cells #[.map mb'] 38) = X5 := ⟨_, rfl⟩
      rw [hX5] at hbx hpx k5x ⊢
      have HB := Lib.hid hbx
      have HP := Lib.hid hpx
      have K5 := Lib.hid k5x
      clear hbx hpx k5x hX5
      have k5 := K5.out.cellV (i := 0) (v := .map mb') rfl
      go_wp2_with fail
      with_reducible refine (box_any _ (m + 1) _ 1048581 _ (by decide) HP.out).mono ?_
      rintro e w6 ⟨rfl, hb⟩
      rw [show bsL m 1048581 = some lastBX from if_pos rfl]
      have hbx := bal (bstep HB.out hb) (.cells #[.int .i64 7, .int .i64 0, .int .i64 2, .int .i64 2, .bool false, .int .i64 0, .int .i64 0, .bool false, .slice none 0 0] 46)
      have hpx := (HP.out.below hb).below (bal (bre w6) (.cells #[.int .i64 7, .int .i64 0, .int .i64 2, .int .i64 2, .bool false, .int .i64 0, .int .i64 0, .bool false, .slice none 0 0] 46))
      have k5x := (K5.out.belowS hb).alloc (.cells #[.int .i64 7, .int .i64 0, .int .i64 2, .int .i64 2, .bool false, .int .i64 0, .int .i64 0, .bool false, .slice none 0 0] 46)
      have k6x := Blk.new w6 46 #[.int .i64 7, .int .i64 0, .int .i64 2, .int .i64 2, .bool false, .int .i64 0, .int .i64 0, .bool false, .slice none 0 0]
      clear hb k5
      simp only [Option.getD_some, Option.isSome_some, lastBX, BX.v]
      go_upto_region 14 with fail
      obtain ⟨X6, hX6⟩ : ∃ X6, w6.alloc (.cells #[.int .i64 7, .int .i64 0, .int .i64 2, .int .i64 2, .bool false, .int .i64 0, .int .i64 0, .bool false, .slice none 0 0] 46) = X6 := ⟨_, rfl⟩
      rw [hX6] at hbx hpx k5x k6x ⊢
      have HB := Lib.hid hbx
      have HP := Lib.hid hpx
      have K5 := Lib.hid k5x
      have K6 := Lib.hid k6x
      clear hbx hpx k5x k6x hX6
      have k5 := K5.out.cellV (i := 0) (v := .map mb') rfl
      go_wp2_with fail
      with_reducible refine (box_any _ (m + 1) _ (1048576 + (N : Int)) _ (by omega) HP.out).mono ?_
      rintro e w7 ⟨rfl, hb⟩
      rw [HS.out]
      obtain ⟨b7, hb7⟩ : ∃ b7, (bsL m (1048576 + (N : Int))).getD zBX = b7 := ⟨_, rfl⟩
      rw [hb7]
      unfold BX.v
      have HB := Lib.hid (bal (bstep HB.out hb) (.cells #[.int .i64 b7.X, .int .i64 b7.Y, .int .i64 b7.W, .int .i64 b7.H, .bool b7.M, .int .i64 b7.G, .int .i64 b7.B, .bool b7.S, .slice b7.A b7.n b7.c] 46))
      have k6 := ((K6.out.belowS hb).alloc (.cells #[.int .i64 b7.X, .int .i64 b7.Y, .int .i64 b7.W, .int .i64 b7.H, .bool b7.M, .int .i64 b7.G, .int .i64 b7.B, .bool b7.S, .slice b7.A b7.n b7.c] 46)).cellV (i := 2) (v := .int .i64 2) rfl
      clear hb k5 hb7
      by_cases hlt : N < 64
      · have d2 : decide ((N : Int) < 64) = true := decide_eq_true (by omega)
        go_wp2_with fail
        go_ret
        exact ⟨rfl, HB.out⟩
      · have d2 : decide ((N : Int) < 64) = false := decide_eq_false (by omega)
        go_wp2_with fail
        go_ret
        exact ⟨rfl, HB.out⟩

end Go.Proofs.YtbfefkhejknmoaaGreatDoor
