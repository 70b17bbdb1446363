/-
  The walk of glazierlaw31.awake: the document's example.
-/
import Derived.Test.YtbkkecijcijhdaaGreatZD29
import Derived.Test.YtbkkecijcijhdaaGreatZD02
section
namespace Go.Proofs.YtbkkecijcijhdaaGreat
open Go.RowKit Go.Maps Go.Shelf

theorem RdF.of_blk {α : Type} {f : α → List Value} {m : Nat} (hm : ∀ x, (f x).length = m) {w : World} {g : Nat} {t : TypeId} {l : List α} {n : Nat} (h : Blk w g t (l.flatMap f).toArray) (hl : l.length = n) : RdF f m w (some ⟨g, 0, none⟩) n l := by
  refine ⟨hl, fun hn => ⟨g, 0, rfl, h.lt, fun k x hk i u hu => ?_⟩⟩
  have hi : i < m := by have := (List.getElem?_eq_some_iff.1 hu).1; rwa [hm] at this
  have hg := flat_get f m hm l k x i hk hi
  rw [hu] at hg
  rw [Nat.zero_add]
  exact h.cellV (by simpa using hg)
def awL : List DW := [⟨-1, 1, 1, 4, 3, true, false, none, 0, 0, []⟩, ⟨-1, 3, 2, 4, 3, true, false, none, 0, 0, []⟩, ⟨0, 0, 0, 2, 1, true, false, none, 0, 0, []⟩]
/-- a struct is built. -/
theorem wpList_bld {P : Program} {ops : Array Oper} {rest : List Oper} {o : Oper} {a : Act} {w : World} {Q : Exit → Act → World → Prop} (hg : o.guard = none) (cells : Array Value) (hb : bldOf P a.eval o = some cells) (h : wpList P ops Q rest (a.put o.dst (.agg cells)) w) : wpList P ops Q (o :: rest) a w := by
  refine wpList_plain hg fun K hK => ?_
  unfold Oper.wp
  rw [y_build hb]
  exact hK _ _ h
end Go.Proofs.YtbkkecijcijhdaaGreat
end
