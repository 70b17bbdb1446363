/-
  The walk of screen.there: a window's own area at a place of its parent's.
-/
import Derived.Test.YtdaedkolpfkdjaaGreatZV32
import Derived.Test.YtdaedkolpfkdjaaGreatZV17
import Derived.Test.YtdaedkolpfkdjaaGreatZV22
section
namespace Go.Proofs.YtdaedkolpfkdjaaGreat
open Go.RowKit Go.Maps Go.Shelf

theorem hasReg_any {A : Option Addr} {out : List RC} {c : Nat} {w : World} (h : RegAt w (.agg #[.slice A out.length c]) out) (x y : Int) :
    Calls Tryz.prog 44 #[.agg #[.slice A out.length c], .int .i64 x, .int .i64 y] w fun e w' => e = .returned (.bool (inB out x y)) ∧ Below w.heap.size w w' := by
  obtain ⟨A', c', e, hr, hc, hl, hn⟩ := h
  simp only [Value.agg.injEq, Array.mk.injEq, List.cons.injEq, Value.slice.injEq, and_true] at e
  obtain ⟨rfl, _, rfl⟩ := e
  refine (hasR_any A out.length c out x y w hl hr hn).mono ?_
  rintro e w' ⟨rfl, hb⟩
  rw [hasL_inB (canon_down hc)]
  exact ⟨rfl, hb⟩
end Go.Proofs.YtdaedkolpfkdjaaGreat
end
