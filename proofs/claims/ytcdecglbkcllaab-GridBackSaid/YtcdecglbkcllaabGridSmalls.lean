/-
  Arguments of the laws of the grid, opened: a slice of small rectangles.
-/
import Derived.Deep.Slices
import Derived.Test.YtcdecglbkcllaabGridRow
import Derived.Test.YtcdecglbkcllaabGridFillD
namespace Go.Proofs.Ytcdecglbkcllaab
open Go.ChangeShapes Go.WideShapes Go.ChangeAt Go.RowKit Go.Joins Go.Deep

section
variable {H : Type} {enc : TypeId × Value → H} {P : Program} {w : World} {base : Nat} {spare : Nat → Bool} {held : Bool}
instance : Inhabited Sm := ⟨⟨0, 0, 0, 0⟩⟩
theorem trod_small {t i u : TypeId} {f0 f1 f2 f3 : Field} {fuel : Nat} {c0 c1 c2 c3 : Value} {x : DataW H × List MemPlace} (hs : P.underlying t = some (.struct #[f0, f1, f2, f3])) (hone : oneCellFields P #[f0, f1, f2, f3] = true)
    (t0 : f0.type = i) (t1 : f1.type = i) (t2 : f2.type = u) (t3 : f3.type = u) (hi : P.underlying i = some (.int .i8)) (hu : P.underlying u = some (.int .u8))
    (h : DataW.trod enc P w base spare held fuel t [c0, c1, c2, c3] = some x) : ∃ s : Sm, c0 = .int .i8 s.x ∧ c1 = .int .i8 s.y ∧ c2 = .int .u8 s.w ∧ c3 = .int .u8 s.h ∧ s.ok := by
  obtain ⟨y0, y1, y2, y3, n, hx, _, h0, h1, h2, h3⟩ := trod_struct4 hs h
  obtain ⟨o0, k0⟩ := hone_of hone 0 f0 rfl
  obtain ⟨o1, k1⟩ := hone_of hone 1 f1 rfl
  obtain ⟨o2, k2⟩ := hone_of hone 2 f2 rfl
  obtain ⟨o3, k3⟩ := hone_of hone 3 f3 rfl
  have g0 : DataW.trod enc P w base spare held n i [c0] = some y0 := by rw [← t0]; simpa [o0, k0] using h0
  have g1 : DataW.trod enc P w base spare held n i [c1] = some y1 := by rw [← t1]; simpa [o1, k1] using h1
  have g2 : DataW.trod enc P w base spare held n u [c2] = some y2 := by rw [← t2]; simpa [o2, k2] using h2
  have g3 : DataW.trod enc P w base spare held n u [c3] = some y3 := by rw [← t3]; simpa [o3, k3] using h3
  obtain ⟨x0, e0, _, w0⟩ := DataW.trod_int hi g0
  obtain ⟨x1, e1, _, w1⟩ := DataW.trod_int hi g1
  obtain ⟨x2, e2, _, w2⟩ := DataW.trod_int hu g2
  obtain ⟨x3, e3, _, w3⟩ := DataW.trod_int hu g3
  simp at e0 e1 e2 e3
  exact ⟨⟨x0, x1, x2, x3⟩, e0, e1, e2, e3, bounds_i8 w0, bounds_i8 w1, bounds_u8 w2, bounds_u8 w3⟩
/-- a slice of small rectangles that came in reads as a list. -/
theorem open_smalls {t e i u : TypeId} {f0 f1 f2 f3 : Field} {v : Value} {d : DataW H} {p : List MemPlace} (ht : P.underlying t = some (.slice e)) (he : P.underlying e = some (.struct #[f0, f1, f2, f3])) (hone : oneCellFields P #[f0, f1, f2, f3] = true) (hc : P.cellsOf e = 4)
    (t0 : f0.type = i) (t1 : f1.type = i) (t2 : f2.type = u) (t3 : f3.type = u) (hi : P.underlying i = some (.int .i8)) (hu : P.underlying u = some (.int .u8))
    {A : Option Addr} {len cap : Nat} (hv : v = .slice A len cap) (h : DataW.Trod enc P w base spare held t v d p) :
    ∃ ss : List Sm, RdS w A len ss ∧ ∀ s ∈ ss, s.ok := by
  subst hv
  obtain ⟨fuel, hf⟩ := h
  rcases Deep.open_slice ht hf with ⟨h0, _⟩ | ⟨a, len', cap', m, n, D, Pl, hcs, _, hl, _, hm, _, hx⟩
  · simp [Value.cells] at h0
    obtain ⟨rfl, rfl, rfl⟩ := h0
    exact ⟨[], ⟨rfl, fun h => absurd h (by omega)⟩, by simp⟩
  · simp [Value.cells] at hcs
    obtain ⟨rfl, rfl, rfl⟩ := hcs
    have hlm : len ≤ m := by rw [hm]; split <;> omega
    have each : ∀ k, k < len → ∃ s : Sm, (w.cell? (a.add (k * 4)) = some (.int .i8 s.x) ∧ w.cell? ((a.add (k * 4)).add 1) = some (.int .i8 s.y) ∧ w.cell? ((a.add (k * 4)).add 2) = some (.int .u8 s.w) ∧ w.cell? ((a.add (k * 4)).add 3) = some (.int .u8 s.h)) ∧ s.ok := fun k hk => by
      obtain ⟨cs', h1, h2⟩ := hx k (by omega)
      rw [hc] at h1
      obtain ⟨_, hlen, hat⟩ := World.cells?_some h1
      match cs', hlen, h2 with
      | [c0, c1, c2, c3], _, h2 =>
        obtain ⟨s, e0, e1, e2, e3, hok⟩ := trod_small he hone t0 t1 t2 t3 hi hu h2
        subst e0 e1 e2 e3
        refine ⟨s, ⟨?_, ?_, ?_, ?_⟩, hok⟩
        · simpa [Addr.add] using hat 0 (by omega)
        · simpa using hat 1 (by omega)
        · simpa using hat 2 (by omega)
        · simpa using hat 3 (by omega)
    obtain ⟨f, hf'⟩ := Deep.choose_lt each
    refine ⟨(List.range len).map f, ⟨by simp, fun hn => ?_⟩, fun s hs => ?_⟩
    · have h0 := (hf' 0 hn).1.1
      have hs : a.spot = none := by simpa [Addr.add] using World.cell?_spot h0
      obtain ⟨b, off, spot⟩ := a
      simp only at hs
      subst hs
      have hadd : ∀ k, (⟨b, off, none⟩ : Addr).add k = ⟨b, off + k, none⟩ := fun k => by
        unfold Addr.add
        split
        · rename_i h; subst h; rfl
        · rfl
      refine ⟨b, off, rfl, block_lt_of_cell (by rw [hadd] at h0; exact h0), fun k s hk => ?_⟩
      have hkl : k < len := by have := (List.getElem?_eq_some_iff.1 hk).1; simpa using this
      have hx' : f k = s := by simpa [List.getElem?_range hkl] using hk
      obtain ⟨⟨g0, g1, g2, g3⟩, _⟩ := hf' k hkl
      rw [hx', hadd] at g0 g1 g2 g3
      rw [show ((⟨b, off + k * 4, none⟩ : Addr).add 1) = ⟨b, off + k * 4 + 1, none⟩ from rfl] at g1
      rw [show ((⟨b, off + k * 4, none⟩ : Addr).add 2) = ⟨b, off + k * 4 + 2, none⟩ from rfl] at g2
      rw [show ((⟨b, off + k * 4, none⟩ : Addr).add 3) = ⟨b, off + k * 4 + 3, none⟩ from rfl] at g3
      exact ⟨g0, g1, g2, g3⟩
    · obtain ⟨k, hk, rfl⟩ := List.mem_map.1 hs
      exact (hf' k (List.mem_range.1 hk)).2
end
theorem Try.cellsSm : Try.prog.cellsOf 72 = 4 := by kernel_rfl

end Go.Proofs.Ytcdecglbkcllaab
