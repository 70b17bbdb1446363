/-
  The walks of a region's Empty and Area.
-/
import Derived.Test.YtbfefkhejknmoaaGreatDoorBandWalkB
namespace Go.Proofs.YtbfefkhejknmoaaGreatDoor
open Go.RowKit

/-- how many places rectangles have, one by one. -/
def areaL (rs : List RC) : Int := rs.foldl (fun s r => s + r.W * r.H) 0
theorem areaL_nil : areaL [] = 0 := rfl
theorem areaL_snoc (rs : List RC) (r : RC) : areaL (rs ++ [r]) = areaL rs + r.W * r.H := by simp [areaL]
theorem areaL_take {rs : List RC} {k : Nat} {r : RC} (h : rs[k]? = some r) : areaL (rs.take (k + 1)) = areaL (rs.take k) + r.W * r.H := by
  rw [List.take_add_one, h]
  exact areaL_snoc _ _
theorem prod_bd {r : RC} (h : r.cnt = true) : 0 ≤ r.W * r.H ∧ r.W * r.H ≤ 4398046511104 := by
  unfold RC.cnt at h
  rw [Bool.and_eq_true, fits_iff, fits_iff] at h
  refine ⟨Int.mul_nonneg (by omega) (by omega), ?_⟩
  have h1 : r.W * r.H ≤ 2097152 * r.H := Int.mul_le_mul_of_nonneg_right (by omega) (by omega)
  omega
theorem areaL_bd {rs : List RC} (h : ∀ r ∈ rs, r.cnt = true) : ∀ k, 0 ≤ areaL (rs.take k) ∧ areaL (rs.take k) ≤ (k : Int) * 4398046511104 := by
  intro k
  induction k with
  | zero => simp [areaL]
  | succ k ih =>
    cases hr : rs[k]? with
    | none =>
      have : rs.take (k + 1) = rs.take k := by rw [List.take_add_one, hr]; simp
      rw [this]
      omega
    | some r =>
      have := prod_bd (h r (List.mem_of_getElem? hr))
      rw [areaL_take hr]
      omega

set_option maxHeartbeats 1000000 in
theorem empty_any (A : Option Addr) (n c : Nat) (w : World) :
    Calls Tryz.prog 20 #[.agg #[.slice A n c]] w fun e w' => e = .returned (.bool (decide (n = 0))) ∧ Below w.heap.size w w' := by
  have t : ((n : Int) == 0) = decide (n = 0) := by
    by_cases h : n = 0
    · subst h; rfl
    · have : ¬ ((n : Int) = 0) := by omega
      simp [h]
  have HT := Lib.hid t
  clear t
  go_enter Tryz.func20, Tryz.ntmps20
  go_wp2_with fail
  go_ret
  exact ⟨ret_bool HT.out, bal (bre w) _⟩

set_option maxRecDepth 100000 in
set_option maxHeartbeats 1000000 in
theorem area_any (A : Option Addr) (n c : Nat) (rs : List RC) (w : World) (hn : n ≤ 1000000) (hr : RdR w A n rs) (hc : ∀ r ∈ rs, r.cnt = true) :
    Calls Tryz.prog 22 #[.agg #[.slice A n c]] w fun e w' => e = .returned (.int .i64 (areaL rs)) ∧ Below w.heap.size w w' := by
  have HR := Lib.hid hr
  have HC := Lib.hid hc
  have HA := Lib.hid (areaL_bd hc)
  have HL := Lib.hid hr.1
  clear hr hc
  go_enter Tryz.func22, Tryz.ntmps22
  go_wp2_with fail
  have HB0 := Lib.hid (bal (bre w) (.cells #[.slice A n c] 44))
  go_loopw [3, 9] (fun s i wr => ∃ k : Nat, i = .int .i64 k ∧ k ≤ n ∧ s = .int .i64 (areaL (rs.take k)) ∧ Below w.heap.size w wr) (fun _ i _ => n - (intOf i).toNat)
  case atStart => exact ⟨0, rfl, by omega, by simp [areaL], HB0.out⟩
  case round =>
    obtain ⟨k, rfl, hk, rfl, hB⟩ := hrel
    have HB := Lib.hid hB
    have ha := HA.out k
    by_cases hlt : k < n
    · obtain ⟨r, hr⟩ : ∃ r, rs[k]? = some r := ⟨_, List.getElem?_eq_getElem (by have := HL.out; omega)⟩
      have hp := prod_bd (HC.out r (List.mem_of_getElem? hr))
      obtain ⟨b, off, rfl, hb, hcl⟩ := (HR.out.below hB).2 (by omega)
      obtain ⟨c0, c1, c2, c3⟩ := hcl k r hr
      have HT := Lib.hid (areaL_take hr)
      obtain ⟨s, hs⟩ : ∃ s, areaL (rs.take k) = s := ⟨_, rfl⟩
      obtain ⟨p, hpp⟩ : ∃ p, r.W * r.H = p := ⟨_, rfl⟩
      have HP := Lib.hid hpp
      rw [hs] at HT ha
      rw [hpp] at HT hp
      rw [hs]
      have k1 : (k : Int) < (n : Int) := by omega
      have k0 : (0 : Int) ≤ (k : Int) := by omega
      have hw : IntKind.i64.wrap (r.W * r.H) = p := by rw [hpp]; exact IntWalk.i64_in _ (by omega)
      clear hB hr hcl hs hpp
      go_wp2_with fail
      go_roundw
      case rel =>
        refine ⟨k + 1, by go_num, by omega, ?_, bal HB.out _⟩
        rw [HT.out]
      case measure => simp [intOf]; omega
    · obtain rfl : k = n := by omega
      go_wp2_with fail
      go_ret
      exact ⟨ret_int (by rw [List.take_of_length_le (by rw [HL.out]; exact Nat.le_refl _)]), HB.out⟩

end Go.Proofs.YtbfefkhejknmoaaGreatDoor
