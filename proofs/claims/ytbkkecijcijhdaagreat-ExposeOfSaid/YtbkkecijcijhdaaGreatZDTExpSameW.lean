/-
  The walk of the law ExposeSame.
-/
import Derived.Test.YtbkkecijcijhdaaGreatZD35
import Derived.Test.YtbkkecijcijhdaaGreatZDTExpOneK
import Derived.Test.YtbkkecijcijhdaaGreatZDTExpG
section
namespace Go.Proofs.YtbkkecijcijhdaaGreat
open Go.RowKit Go.Maps Go.Shelf

theorem SeenG.wins {w : World} {v : Value} {RW RH : Nat} {ns : Nodes} {bx : Int → Option VB} {og : Int → Int × Int} (h : SeenG w v RW RH ns bx og) :
    (∀ W : World, Below w.heap.size w W → Calls Tryz.prog 26 #[v] W fun e w' => ∃ u, e = .returned u ∧ w'.ownsRow W.heap.size 49 1 u (ordW ns bx 1).length (U32 (ordW ns bx 1)) ∧ Below W.heap.size W w') ∧ (∀ i ∈ ordW ns bx 1, 0 ≤ i ∧ i ≤ 4294967295) ∧ (ordW ns bx 1).length ≤ 1001 := by
  obtain ⟨A, n, c, mv, nm, f, h1⟩ := h.is
  have e : n = (ordW ns bx 1).length := by
    have := h1.order.1
    simpa [U32] using this.symm
  refine ⟨fun W hW => ?_, h1.ids, by rw [← e]; exact h1.few⟩
  rw [← e]
  exact vwindows_any (h1.below hW)
end Go.Proofs.YtbkkecijcijhdaaGreat
end
