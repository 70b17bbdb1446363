/-
  The windows and the focus of glazierlaw37 that came in, opened.
-/
import Derived.Test.YtbkkecijcijhdaaGreatZF27
import Derived.Test.YtbkkecijcijhdaaGreatZF30
section
namespace Go.Proofs.YtbkkecijcijhdaaGreat
open Go.ChangeShapes Go.WideShapes Go.ChangeAt Go.RowKit Go.Joins

instance : Inhabited FW := ⟨⟨0, false, false⟩⟩
section
variable {H : Type} {enc : TypeId × Value → H} {P : Program} {w : World} {base : Nat} {spare : Nat → Bool} {held : Bool}
theorem trodAll_six {t0 t1 t2 t3 t4 t5 : TypeId} {args : Array Value} {ds : List (DataW H)} {ps : List MemPlace} (h : DataW.TrodAll enc P w base spare held [t0, t1, t2, t3, t4, t5] args.toList ds ps) :
    ∃ v0 v1 v2 v3 v4 v5 d0 d1 d2 d3 d4 d5 p0 p1 p2 p3 p4 p5, args = #[v0, v1, v2, v3, v4, v5] ∧ ds = [d0, d1, d2, d3, d4, d5] ∧ ps = p0 ++ (p1 ++ (p2 ++ (p3 ++ (p4 ++ (p5 ++ []))))) ∧ DataW.Trod enc P w base spare held t0 v0 d0 p0 ∧ DataW.Trod enc P w base spare held t1 v1 d1 p1 ∧ DataW.Trod enc P w base spare held t2 v2 d2 p2 ∧ DataW.Trod enc P w base spare held t3 v3 d3 p3 ∧ DataW.Trod enc P w base spare held t4 v4 d4 p4 ∧ DataW.Trod enc P w base spare held t5 v5 d5 p5 := by
  obtain ⟨v0, l0, d0, e0, p0, q0, a0, b0, c0, h0, r0⟩ := trodAll_cons h
  obtain ⟨v1, l1, d1, e1, p1, q1, a1, b1, c1, h1, r1⟩ := trodAll_cons r0
  obtain ⟨v2, l2, d2, e2, p2, q2, a2, b2, c2, h2, r2⟩ := trodAll_cons r1
  obtain ⟨v3, l3, d3, e3, p3, q3, a3, b3, c3, h3, r3⟩ := trodAll_cons r2
  obtain ⟨v4, l4, d4, e4, p4, q4, a4, b4, c4, h4, r4⟩ := trodAll_cons r3
  obtain ⟨v5, l5, d5, e5, p5, q5, a5, b5, c5, h5, r5⟩ := trodAll_cons r4
  obtain ⟨a6, b6, c6⟩ := trodAll_nil r5
  subst a6 b6 c6 a5 b5 c5 a4 b4 c4 a3 b3 c3 a2 b2 c2 a1 b1 c1 b0 c0
  exact ⟨v0, v1, v2, v3, v4, v5, d0, d1, d2, d3, d4, d5, p0, p1, p2, p3, p4, p5, Array.toList_inj.1 a0, rfl, rfl, h0, h1, h2, h3, h4, h5⟩
end
section
variable {H : Type} {enc : TypeId × Value → H} {w : World} {base : Nat} {spare : Nat → Bool} {held : Bool}
set_option maxRecDepth 100000 in
theorem Tryz.cellsB1 : Tryz.prog.cellsOf 4 = 1 := by kernel_rfl
set_option maxRecDepth 100000 in
theorem Tryz.cellsFw : Tryz.prog.cellsOf 201 = 3 := by kernel_rfl
set_option maxRecDepth 100000 in
theorem Tryz.cellsFo : Tryz.prog.cellsOf 122 = 3 := by kernel_rfl
set_option maxRecDepth 100000 in
theorem open_fwin {cs : List Value} {n : Nat} {z : DataW H × List MemPlace} (hl : cs.length = 3) (hz : DataW.trod enc Tryz.prog w base spare held n 201 cs = some z) : ∃ f : FW, cs = f.cells ∧ f.ok := by
  obtain ⟨xs, n', _, _, _, hxl, hel⟩ := DataW.trod_struct Tryz.underlying201 hz
  match cs, hl, hel with
  | [c0, c1, c2], _, hel =>
    have hxl' : xs.length = 3 := hxl
    have k0 : DataW.trod enc Tryz.prog w base spare held n' 5 (([c0, c1, c2].drop 0).take (Tryz.prog.cellsOf 5)) = xs[0]? := hel 0 _ rfl
    have k1 : DataW.trod enc Tryz.prog w base spare held n' 4 (([c0, c1, c2].drop 1).take (Tryz.prog.cellsOf 4)) = xs[1]? := hel 1 _ rfl
    have k2 : DataW.trod enc Tryz.prog w base spare held n' 4 (([c0, c1, c2].drop 2).take (Tryz.prog.cellsOf 4)) = xs[2]? := hel 2 _ rfl
    rw [show xs[0]? = some xs[0] from List.getElem?_eq_getElem (by omega), Tryz.cellsU8] at k0
    rw [show xs[1]? = some xs[1] from List.getElem?_eq_getElem (by omega), Tryz.cellsB1] at k1
    rw [show xs[2]? = some xs[2] from List.getElem?_eq_getElem (by omega), Tryz.cellsB1] at k2
    obtain ⟨x0, e0, _, w0⟩ := DataW.trod_int Tryz.underlying5 k0
    obtain ⟨x1, e1, _⟩ := DataW.trod_bool Tryz.underlying4 k1
    obtain ⟨x2, e2, _⟩ := DataW.trod_bool Tryz.underlying4 k2
    simp at e0 e1 e2
    subst e0 e1 e2
    exact ⟨⟨x0, x1, x2⟩, rfl, bounds_u8 w0⟩
/-- a slice of windows. -/
theorem open_fwins {fuel : Nat} {v : Value} {y : DataW H × List MemPlace} (h : DataW.trod enc Tryz.prog w base spare held fuel 120 [v] = some y) :
    ∃ (A : Option Addr) (n c : Nat) (l : List FW), v = .slice A n c ∧ n ≤ maxLen ∧ RdF FW.cells 3 w A n l ∧ ∀ f ∈ l, f.ok :=
  open_recs FW.cells 3 (by decide) FW.ok Tryz.underlying120 Tryz.cellsFw (fun _ => rfl) (fun _ _ _ hl hz => open_fwin hl hz) h
end
end Go.Proofs.YtbkkecijcijhdaaGreat
end
