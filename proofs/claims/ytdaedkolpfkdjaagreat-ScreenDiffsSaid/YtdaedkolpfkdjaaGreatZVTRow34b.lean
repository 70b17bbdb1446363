/-
  Five arguments, one by one.
-/
import Derived.Deep.Slices
import Derived.Test.YtdaedkolpfkdjaaGreatZV00
import Derived.Test.YtdaedkolpfkdjaaGreatZV27
section
namespace Go.Proofs.YtdaedkolpfkdjaaGreat
open Go.ChangeShapes Go.WideShapes Go.ChangeAt Go.RowKit Go.Joins

section
variable {H : Type} {enc : TypeId × Value → H} {P : Program} {w : World} {base : Nat} {spare : Nat → Bool} {held : Bool}
theorem trodAll_five {t0 t1 t2 t3 t4 : TypeId} {args : Array Value} {ds : List (DataW H)} {ps : List MemPlace} (h : DataW.TrodAll enc P w base spare held [t0, t1, t2, t3, t4] args.toList ds ps) :
    ∃ v0 v1 v2 v3 v4 d0 d1 d2 d3 d4 p0 p1 p2 p3 p4, args = #[v0, v1, v2, v3, v4] ∧ ds = [d0, d1, d2, d3, d4] ∧ ps = p0 ++ (p1 ++ (p2 ++ (p3 ++ (p4 ++ [])))) ∧ DataW.Trod enc P w base spare held t0 v0 d0 p0 ∧ DataW.Trod enc P w base spare held t1 v1 d1 p1 ∧ DataW.Trod enc P w base spare held t2 v2 d2 p2 ∧ DataW.Trod enc P w base spare held t3 v3 d3 p3 ∧ DataW.Trod enc P w base spare held t4 v4 d4 p4 := by
  obtain ⟨v0, l0, d0, e0, p0, q0, a0, b0, c0, h0, r0⟩ := trodAll_cons h
  obtain ⟨v1, l1, d1, e1, p1, q1, a1, b1, c1, h1, r1⟩ := trodAll_cons r0
  obtain ⟨v2, l2, d2, e2, p2, q2, a2, b2, c2, h2, r2⟩ := trodAll_cons r1
  obtain ⟨v3, l3, d3, e3, p3, q3, a3, b3, c3, h3, r3⟩ := trodAll_cons r2
  obtain ⟨v4, l4, d4, e4, p4, q4, a4, b4, c4, h4, r4⟩ := trodAll_cons r3
  obtain ⟨a5, b5, c5⟩ := trodAll_nil r4
  subst a5 b5 c5 a4 b4 c4 a3 b3 c3 a2 b2 c2 a1 b1 c1 b0 c0
  exact ⟨v0, v1, v2, v3, v4, d0, d1, d2, d3, d4, p0, p1, p2, p3, p4, Array.toList_inj.1 a0, rfl, rfl, h0, h1, h2, h3, h4⟩
end
end Go.Proofs.YtdaedkolpfkdjaaGreat
end
