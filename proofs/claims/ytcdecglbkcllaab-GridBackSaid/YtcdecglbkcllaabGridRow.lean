/-
  Arguments of the laws of the grid, opened: a plane by value (two bytes and a slice of bytes).
-/
import Derived.Test.YtcdecglbkcllaabLawKit
import Derived.Test.YtcdecglbkcllaabGridWalkA
namespace Go.Proofs.Ytcdecglbkcllaab
open Go.ChangeShapes Go.WideShapes Go.ChangeAt Go.RowKit Go.Joins

section
variable {H : Type} {enc : TypeId × Value → H} {P : Program} {w : World} {base : Nat} {spare : Nat → Bool} {held : Bool}
/-- a slice of bytes that came in reads as numbers. -/
theorem open_u8s {t e : TypeId} {fuel : Nat} {v : Value} {x : DataW H × List MemPlace} (ht : P.underlying t = some (.slice e)) (he : P.underlying e = some (.int .u8)) (hc : P.cellsOf e = 1)
    (h : DataW.trod enc P w base spare held fuel t [v] = some x) :
    ∃ (A : Option Addr) (m c : Nat) (zs : List Int), v = .slice A m c ∧ m ≤ c ∧ Rd w A m (U8 zs) ∧ ∀ z ∈ zs, 0 ≤ z ∧ z < 256 := by
  rcases open_ints ht he hc h with ⟨h0, _⟩ | ⟨a, len, cap, zs, hcs, _, hl, _, hz, _, hcell, hwf⟩
  · simp at h0
    exact ⟨none, 0, 0, [], h0, Nat.le_refl _, Rd.nil _ _, by simp⟩
  · simp at hcs
    have hlz : len ≤ zs.length := by rw [hz]; split <;> omega
    refine ⟨some a, len, cap, zs.take len, hcs, hl, ⟨by simp [U8]; omega, fun hn => ?_⟩, fun z hz' => ?_⟩
    · have h0 := hcell 0 (by omega)
      have hs : a.spot = none := by simpa [Addr.add] using World.cell?_spot h0
      obtain ⟨b, off, spot⟩ := a
      simp only at hs
      subst hs
      refine ⟨b, off, rfl, block_lt_of_cell (by simpa [Addr.add] using h0), fun k u hk => ?_⟩
      simp only [U8, List.getElem?_map, Option.map_eq_some_iff] at hk
      obtain ⟨z, hz1, rfl⟩ := hk
      have hkl : k < len := by have := (List.getElem?_eq_some_iff.1 hz1).1; simp at this; omega
      have h1 := hcell k (by omega)
      rw [List.getElem?_take_of_lt hkl] at hz1
      rw [List.getD_eq_getElem?_getD, hz1] at h1
      simp only [Addr.add] at h1
      split at h1
      · rename_i h0'; subst h0'; exact h1
      · exact h1
    · have := bounds_u8 (hwf z (List.mem_of_mem_take hz'))
      omega
end
theorem Try.cellsPl : Try.prog.cellsOf 41 = 3 := by kernel_rfl
theorem Try.cellsU8 : Try.prog.cellsOf 5 = 1 := by kernel_rfl
theorem Try.cellsRc : Try.prog.cellsOf 43 = 4 := by kernel_rfl

end Go.Proofs.Ytcdecglbkcllaab
