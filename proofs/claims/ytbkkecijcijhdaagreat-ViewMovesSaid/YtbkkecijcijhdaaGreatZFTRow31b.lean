/-
  An array of six numbers, and a pane, that came in, opened.
-/
import Derived.Test.YtbkkecijcijhdaaGreatZF27
section
namespace Go.Proofs.YtbkkecijcijhdaaGreat
open Go.ChangeShapes Go.WideShapes Go.ChangeAt Go.RowKit Go.Joins

theorem okWide_arr {P : Program} {w : World} {r : Reach} {base : Nat} {t : TypeId} {v : Value} {n : Nat} {e : TypeId} (ht : P.underlying t = some (.array n e)) (h : Value.okWide P w r base t v) : ∃ cs, v = .agg cs ∧ cs.size = P.cellsOf t := by
  simp only [Value.okWide, ht] at h
  obtain ⟨cs, h1, h2, _⟩ := h
  exact ⟨cs, h1, h2⟩
section
variable {H : Type} {enc : TypeId × Value → H} {w : World} {base : Nat} {spare : Nat → Bool} {held : Bool}
set_option maxRecDepth 100000 in
theorem Tryz.cellsQ6 : Tryz.prog.cellsOf 62 = 6 := by kernel_rfl
set_option maxRecDepth 100000 in
theorem open_six {cs : List Value} {n : Nat} {z : DataW H × List MemPlace} (hl : cs.length = 6) (hz : DataW.trod enc Tryz.prog w base spare held n 62 cs = some z) :
    ∃ x0 x1 x2 x3 x4 x5 : Int, cs = [.int .u8 x0, .int .u8 x1, .int .u8 x2, .int .u8 x3, .int .u8 x4, .int .u8 x5] ∧ ((0 ≤ x0 ∧ 0 ≤ x1) ∧ (0 ≤ x2 ∧ 0 ≤ x3) ∧ 0 ≤ x4 ∧ 0 ≤ x5) ∧ (x0 ≤ 255 ∧ x1 ≤ 255) ∧ (x2 ≤ 255 ∧ x3 ≤ 255) ∧ x4 ≤ 255 ∧ x5 ≤ 255 := by
  obtain ⟨ys, m, _, _, _, hyl, hye⟩ := DataW.trod_array Tryz.underlying62 hz
  match cs, hl, hye with
  | [c0, c1, c2, c3, c4, c5], _, hye =>
    have j0 := hye 0 (by decide)
    rw [show ys[0]? = some ys[0] from List.getElem?_eq_getElem (by omega), Tryz.cellsU8] at j0
    obtain ⟨x0, e0, _, w0⟩ := DataW.trod_int Tryz.underlying5 (show DataW.trod enc Tryz.prog w base spare held m 5 [c0] = some ys[0] from j0)
    have j1 := hye 1 (by decide)
    rw [show ys[1]? = some ys[1] from List.getElem?_eq_getElem (by omega), Tryz.cellsU8] at j1
    obtain ⟨x1, e1, _, w1⟩ := DataW.trod_int Tryz.underlying5 (show DataW.trod enc Tryz.prog w base spare held m 5 [c1] = some ys[1] from j1)
    have j2 := hye 2 (by decide)
    rw [show ys[2]? = some ys[2] from List.getElem?_eq_getElem (by omega), Tryz.cellsU8] at j2
    obtain ⟨x2, e2, _, w2⟩ := DataW.trod_int Tryz.underlying5 (show DataW.trod enc Tryz.prog w base spare held m 5 [c2] = some ys[2] from j2)
    have j3 := hye 3 (by decide)
    rw [show ys[3]? = some ys[3] from List.getElem?_eq_getElem (by omega), Tryz.cellsU8] at j3
    obtain ⟨x3, e3, _, w3⟩ := DataW.trod_int Tryz.underlying5 (show DataW.trod enc Tryz.prog w base spare held m 5 [c3] = some ys[3] from j3)
    have j4 := hye 4 (by decide)
    rw [show ys[4]? = some ys[4] from List.getElem?_eq_getElem (by omega), Tryz.cellsU8] at j4
    obtain ⟨x4, e4, _, w4⟩ := DataW.trod_int Tryz.underlying5 (show DataW.trod enc Tryz.prog w base spare held m 5 [c4] = some ys[4] from j4)
    have j5 := hye 5 (by decide)
    rw [show ys[5]? = some ys[5] from List.getElem?_eq_getElem (by omega), Tryz.cellsU8] at j5
    obtain ⟨x5, e5, _, w5⟩ := DataW.trod_int Tryz.underlying5 (show DataW.trod enc Tryz.prog w base spare held m 5 [c5] = some ys[5] from j5)
    simp at e0 e1 e2 e3 e4 e5
    subst e0 e1 e2 e3 e4 e5
    have b0 := bounds_u8 w0
    have b1 := bounds_u8 w1
    have b2 := bounds_u8 w2
    have b3 := bounds_u8 w3
    have b4 := bounds_u8 w4
    have b5 := bounds_u8 w5
    exact ⟨x0, x1, x2, x3, x4, x5, rfl, by omega, by omega⟩
end
end Go.Proofs.YtbkkecijcijhdaaGreat
end
