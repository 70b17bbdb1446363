/-
  What the tied variable's condition gives the walks: the table of halves.
-/
import Derived.Test.YtbfefkhejknmoaaGreatDoorCh34
import Derived.Test.YtbfefkhejknmoaaGreatDoorCh49
import Derived.LaidMore
import Derived.Stop.Joined
namespace Go.Proofs.YtbfefkhejknmoaaGreatDoor
open Go.ChangeShapes Go.WideShapes Go.ChangeAt Go.RowKit

theorem Tryz.gHalves : Tryz.prog.globalNamed "glazier/gravity.halves" = some 0 := by kernel_rfl
theorem Tryz.tHalves : (Tryz.prog.globals[0]?).map (·.type) = some 112 := by kernel_rfl
theorem Tryz.cellsPair : Tryz.prog.cellsOf 111 = 2 := by kernel_rfl
theorem Tryz.cellsInt1 : Tryz.prog.cellsOf 3 = 1 := by kernel_rfl
abbrev laidHalves : List (String × DataW Unit) := [("glazier/gravity.halves", Rows.laid_glazier_gravity_halves)]

theorem laid_list : (Rows.laid_glazier_gravity_halves : DataW Unit) = .agg (halvesL.map fun h => .agg [.lit (.int .i64 h.1), .lit (.int .i64 h.2)]) := rfl

section
variable {H : Type} {enc : TypeId × Value → H} {w : World} {spare : Nat → Bool} {held : Bool}
set_option maxRecDepth 100000 in
/-- a pair of numbers, read, is these two cells. -/
theorem pair_cells {fuel base : Nat} {l : List Value} {x : DataW H × List MemPlace} {a b : Int} (h : DataW.trod enc Tryz.prog w base spare held fuel 111 l = some x) (hx : x.1 = .agg [.lit (.int .i64 a), .lit (.int .i64 b)]) : l[0]? = some (.int .i64 a) ∧ l[1]? = some (.int .i64 b) := by
  obtain ⟨ys, m, rfl, rfl, hl, hn, hel⟩ := DataW.trod_array Tryz.underlying111 h
  dsimp only at hx
  injection hx with hx
  match ys, hn, hx, hel with
  | [y0, y1], _, hx, hel =>
    simp only [List.map_cons, List.map_nil, List.cons.injEq, and_true] at hx
    have h0 := hel 0 (by decide)
    have h1 := hel 1 (by decide)
    rw [Tryz.cellsInt1] at h0 h1
    obtain ⟨k0, e0, f0, _⟩ := DataW.trod_int Tryz.underlying3 (show DataW.trod enc Tryz.prog w base spare held m 3 _ = some y0 from h0)
    obtain ⟨k1, e1, f1, _⟩ := DataW.trod_int Tryz.underlying3 (show DataW.trod enc Tryz.prog w base spare held m 3 _ = some y1 from h1)
    rw [f0, f1] at hx
    obtain ⟨hx0, hx1⟩ := hx
    injection hx0 with hx0
    injection hx0 with _ hx0
    injection hx1 with hx1
    injection hx1 with _ hx1
    subst hx0 hx1
    have g0 := congrArg (·[0]?) e0
    have g1 := congrArg (·[0]?) e1
    simp [List.getElem?_take, List.getElem?_drop] at g0 g1
    exact ⟨g0, g1⟩
end

set_option maxRecDepth 100000 in
theorem halves_of_laid {W : World} (h : laidMetH Tryz.prog laidHalves W) : Halves W := by
  rw [MakeChecks.laidMetH_plain _ _ _ (by kernel_rfl)] at h
  obtain ⟨ps, ⟨g, t, cs, fuel, p, q, hg, ht, hv, hd, _⟩, _⟩ := h
  obtain rfl := Option.some.inj (Tryz.gHalves.symm.trans hg)
  obtain rfl := Option.some.inj (Tryz.tHalves.symm.trans ht)
  obtain ⟨xs, m, rfl, hx, hl, hn, hel⟩ := DataW.trod_array Tryz.underlying112 hd
  simp only [Prod.mk.injEq] at hx
  obtain ⟨hx, _⟩ := hx
  rw [laid_list] at hx
  injection hx with hx
  have key : ∀ k h, halvesL[k]? = some h → W.cell? ⟨0, k * 2, none⟩ = some (.int .i64 h.1) ∧ W.cell? ⟨0, k * 2 + 1, none⟩ = some (.int .i64 h.2) := by
    intro k h hk
    have hk10 : k < 10 := by
      have := (List.getElem?_eq_some_iff.1 hk).1
      simpa [halvesL] using this
    have e := congrArg (·[k]?) hx
    simp only [List.getElem?_map, hk, Option.map_some] at e
    have hxk := hel k hk10
    rw [Tryz.cellsPair] at hxk
    cases hxs : xs[k]? with
    | none => rw [hxs] at e; cases e
    | some x =>
      rw [hxs] at e hxk
      simp only [Option.map_some, Option.some.injEq] at e
      obtain ⟨c0, c1⟩ := pair_cells hxk e.symm
      rw [List.getElem?_take, if_pos (by decide), List.getElem?_drop] at c0 c1
      rw [World.var?_cell hg hv, World.var?_cell hg hv, ← Array.getElem?_toList, ← Array.getElem?_toList]
      exact ⟨c0, c1⟩
  have h0 := (key 0 (0, 0) rfl).1
  exact ⟨Nat.lt_of_le_of_lt (Nat.zero_le _) (block_lt_of_cell h0), key⟩

end Go.Proofs.YtbfefkhejknmoaaGreatDoor
