/-
  The walk of line.length: how many places a path has.
-/
import Derived.Test.YtcdecglbkcllaaaLineWalkQ

namespace Go.Proofs.Ytcdecglbkcllaaa.Ln
open Go.RowKit Go.Shelf

/-- how many steps the first k parts of a path have. -/
def lenK (l : List PtR) : Nat → Int
  | 0 => 0
  | k + 1 => lenK l k + match l[k]?, l[k + 1]? with
    | some p, some q => max ((q.1.1 - p.1.1).natAbs : Int) (q.1.2 - p.1.2).natAbs
    | _, _ => 0
/-- how many places a path has. -/
def lenP (l : List PtR) : Int := if l.length = 0 then 0 else 1 + lenK l (l.length - 1)
theorem lenK_succ {l : List PtR} {k : Nat} {p q : PtR} (hp : l[k]? = some p) (hq : l[k + 1]? = some q) : lenK l (k + 1) = lenK l k + max ((q.1.1 - p.1.1).natAbs : Int) (q.1.2 - p.1.2).natAbs := by
  simp [lenK, hp, hq]
theorem lenK_bd (l : List PtR) (k : Nat) : 0 ≤ lenK l k ∧ lenK l k ≤ (k : Int) * 2097152 := by
  induction k with
  | zero => simp [lenK]
  | succ k ih =>
    cases hp : l[k]? with
    | none => simp only [lenK, hp]; omega
    | some p =>
      cases hq : l[k + 1]? with
      | none => simp only [lenK, hp, hq]; omega
      | some q =>
        have a := right_bd p.2
        have b := right_bd q.2
        rw [lenK_succ hp hq]
        omega

set_option maxRecDepth 100000 in
set_option maxHeartbeats 2000000 in
theorem length_go (g c : Nat) (l : List PtR) (w : World) (hl : 1 ≤ l.length ∧ l.length ≤ 4096)
    (hc : ∀ k p, (unR l)[k]? = some p → w.cell? ⟨g, k * 2, none⟩ = some (.int .i64 p.1) ∧ w.cell? ⟨g, k * 2 + 1, none⟩ = some (.int .i64 p.2)) :
    Calls Try.prog 41 #[.slice (some ⟨g, 0, none⟩) l.length c] w fun e w' => e = .returned (.int .i64 (lenP l)) ∧ Below w.heap.size w w' := by
  obtain ⟨n, hn⟩ : ∃ n, l.length = n := ⟨_, rfl⟩
  have hlp : lenP l = 1 + lenK l (n - 1) := by simp [lenP, hn]; omega
  have HLP := Lib.hid hlp
  have HN := Lib.hid hn
  rw [hn] at hl ⊢
  have HC := Lib.hid hc
  clear hc hn hlp
  have hn0 : ((n : Int) == 0) = false := by simp; omega
  go_enter Try.func41, Try.ntmps41
  go_wp2_with fail
  go_loopw [3, 4] (fun s i wr => ∃ k : Nat, 1 ≤ k ∧ k ≤ n ∧ i = .int .i64 k ∧ s = .int .i64 (1 + lenK l (k - 1)) ∧ Below w.heap.size w wr) (fun _ i _ => n - (intOf i).toNat)
  case atStart => exact ⟨1, by omega, by omega, rfl, rfl, Below.refl _ _⟩
  case round =>
    obtain ⟨k, hk1, hk, rfl, rfl, hB⟩ := hrel
    have HB := Lib.hid hB
    have hlb := lenK_bd l (k - 1)
    by_cases hlt : k < n
    · obtain ⟨m, rfl⟩ : ∃ m, k = m + 1 := ⟨k - 1, by omega⟩
      obtain ⟨p, hp⟩ : ∃ p, l[m]? = some p := ⟨_, List.getElem?_eq_getElem (by have := HN.out; omega)⟩
      obtain ⟨q, hq⟩ : ∃ q, l[m + 1]? = some q := ⟨_, List.getElem?_eq_getElem (by have := HN.out; omega)⟩
      have hp1 := HC.out m p.1 (by simp [unR, hp])
      have hq1 := HC.out (m + 1) q.1 (by simp [unR, hq])
      have a0 := (hB.cell (p := ⟨g, m * 2, none⟩) (block_lt_of_cell hp1.1)).trans hp1.1
      have a1 := (hB.cell (p := ⟨g, m * 2 + 1, none⟩) (block_lt_of_cell hp1.2)).trans hp1.2
      have c0 := (hB.cell (p := ⟨g, (m + 1) * 2, none⟩) (block_lt_of_cell hq1.1)).trans hq1.1
      have c1 := (hB.cell (p := ⟨g, (m + 1) * 2 + 1, none⟩) (block_lt_of_cell hq1.2)).trans hq1.2
      have bp := right_bd p.2
      have bq := right_bd q.2
      have HS := Lib.hid (lenK_succ hp hq)
      obtain ⟨px, hpx⟩ : ∃ z, p.1.1 = z := ⟨_, rfl⟩
      obtain ⟨py, hpy⟩ : ∃ z, p.1.2 = z := ⟨_, rfl⟩
      obtain ⟨qx, hqx⟩ : ∃ z, q.1.1 = z := ⟨_, rfl⟩
      obtain ⟨qy, hqy⟩ : ∃ z, q.1.2 = z := ⟨_, rfl⟩
      rw [hpx, hpy, hqx, hqy] at HS
      rw [hpx] at a0 bp
      rw [hpy] at a1 bp
      rw [hqx] at c0 bq
      rw [hqy] at c1 bq
      clear hB hp hq hp1 hq1 hpx hpy hqx hqy
      rw [show m + 1 - 1 = m from by omega] at hlb ⊢
      have k0 : (0 : Int) ≤ (m : Int) := by omega
      have k1 : ((m : Int) + 1) < (n : Int) := by omega
      have k2 : (m : Int) < (n : Int) := by omega
      obtain ⟨s, hs⟩ : ∃ s, lenK l m = s := ⟨_, rfl⟩
      rw [hs] at hlb HS ⊢
      have w1 : IntKind.i64.wrap ((m : Int) + 1 - 1) = m := by rw [show (m : Int) + 1 - 1 = m from by omega]; exact IntWalk.i64_in _ (by omega)
      go_wp2_with fail
      go_quiet ((go_at_call 50; exact Calls.quiet_of_same (same_of (abs_any _ _ (by omega) (by omega)))))
      go_wp2_with fail
      refine ⟨⟨m + 2, by omega, by omega, by go_num, ?_, below_drewN HB.out _⟩, by simp [intOf]; omega⟩
      rw [show m + 2 - 1 = m + 1 from by omega, HS.out]
      congr 1
      split <;> omega
    · obtain rfl : k = n := by omega
      go_wp2_with fail
      go_ret
      exact ⟨by rw [HLP.out]; rfl, HB.out⟩

set_option maxHeartbeats 1000000 in
theorem length_any (v : Value) (l : List PtR) (w : World) (hl : l.length ≤ 4096) (hr : RdP w v (unR l)) :
    Calls Try.prog 41 #[v] w fun e w' => e = .returned (.int .i64 (lenP l)) ∧ Below w.heap.size w w' := by
  rcases Nat.eq_zero_or_pos l.length with h0 | h0
  · obtain rfl : l = [] := List.eq_nil_of_length_eq_zero h0
    obtain ⟨A, c, rfl⟩ := hr.form
    clear hr hl
    go_enter Try.func41, Try.ntmps41
    go_wp2_with fail
    go_ret
    exact ⟨rfl, Below.refl _ _⟩
  · rcases hr with ⟨e, _⟩ | ⟨g, c, rfl, _, hc⟩
    · simp [unR] at e; subst e; simp at h0
    · rw [show (unR l).length = l.length from by simp [unR]]
      exact length_go g c l w ⟨h0, hl⟩ hc

end Go.Proofs.Ytcdecglbkcllaaa.Ln
