/-
  Scenes that came in, opened: two numbers, and a slice of panes.
-/
import Derived.Deep.Slices
import Derived.Test.YtdaedkolpfkdjaaGreatZE00
import Derived.Test.YtdaedkolpfkdjaaGreatZE29
section
namespace Go.Proofs.YtdaedkolpfkdjaaGreat
open Go.ChangeShapes Go.WideShapes Go.ChangeAt Go.RowKit Go.Joins

section
variable {H : Type} {enc : TypeId × Value → H} {P : Program} {w : World} {base : Nat} {spare : Nat → Bool} {held : Bool} {α : Type}
theorem open_recs [Inhabited α] (f : α → List Value) (m : Nat) (hm : 0 < m) (Q : α → Prop) {t e : TypeId} {fuel : Nat} {v : Value} {y : DataW H × List MemPlace} (ht : P.underlying t = some (.slice e)) (hc : P.cellsOf e = m) (hfl : ∀ x, (f x).length = m)
    (hone : ∀ (cs : List Value) (n : Nat) (z : DataW H × List MemPlace), cs.length = m → DataW.trod enc P w base spare held n e cs = some z → ∃ x, cs = f x ∧ Q x) (h : DataW.trod enc P w base spare held fuel t [v] = some y) :
    ∃ (A : Option Addr) (n c : Nat) (l : List α), v = .slice A n c ∧ n ≤ maxLen ∧ RdF f m w A n l ∧ ∀ x ∈ l, Q x := by
  rcases Deep.open_slice ht h with ⟨h0, _⟩ | ⟨a, len, cap, mm, n, D, Pl, hcs, _, hl, hcap, hmm, _, hx⟩
  · simp at h0
    exact ⟨none, 0, 0, [], h0, Nat.zero_le _, RdF.nil _ _ _ _, by simp⟩
  · simp at hcs
    have hlm : len ≤ mm := by rw [hmm]; split <;> omega
    have each : ∀ k, k < len → ∃ x : α, (∀ i u, (f x)[i]? = some u → w.cell? ((a.add (k * m)).add i) = some u) ∧ Q x := fun k hk => by
      obtain ⟨cs', h1, h2⟩ := hx k (by omega)
      rw [hc] at h1
      obtain ⟨_, hlen, hat⟩ := World.cells?_some h1
      obtain ⟨x, rfl, hq⟩ := hone cs' n _ hlen h2
      refine ⟨x, fun i u hu => ?_, hq⟩
      have hi : i < m := by have := (List.getElem?_eq_some_iff.1 hu).1; rwa [hfl] at this
      rw [hat i hi, hu]
    obtain ⟨g, hg⟩ := Deep.choose_lt each
    refine ⟨some a, len, cap, (List.range len).map g, hcs, by omega, ⟨by simp, fun hn => ?_⟩, fun x hx' => ?_⟩
    · have hf0 : ∃ u, (f (g 0))[0]? = some u := ⟨_, List.getElem?_eq_getElem (by rw [hfl]; exact hm)⟩
      obtain ⟨u0, hu0⟩ := hf0
      have h0 := (hg 0 hn).1 0 u0 hu0
      have hs : a.spot = none := by simpa [Addr.add] using World.cell?_spot h0
      obtain ⟨b, off, spot⟩ := a
      simp only at hs
      subst hs
      have hadd : ∀ o k, (⟨b, o, none⟩ : Addr).add k = ⟨b, o + k, none⟩ := fun o k => by
        unfold Addr.add
        split
        · rename_i h; subst h; rfl
        · rfl
      refine ⟨b, off, rfl, block_lt_of_cell (by rw [hadd, hadd] at h0; exact h0), fun k x hk i u hu => ?_⟩
      have hkl : k < len := by have := (List.getElem?_eq_some_iff.1 hk).1; simpa using this
      have hx' : g k = x := by simpa [List.getElem?_range hkl] using hk
      have := (hg k hkl).1 i u (by rw [hx']; exact hu)
      rwa [hadd, hadd] at this
    · obtain ⟨k, hk, rfl⟩ := List.mem_map.1 hx'
      exact (hg k (by simpa using hk)).2
end

instance : Inhabited PN := ⟨⟨0, 0, 0, 0, 0, 0, 0, 0, 0, 0, 0, 0, 0, 0⟩⟩
section
variable {H : Type} {enc : TypeId × Value → H} {w : World} {base : Nat} {spare : Nat → Bool} {held : Bool}
set_option maxRecDepth 100000 in
theorem Tryz.cellsU8 : Tryz.prog.cellsOf 5 = 1 := by kernel_rfl
set_option maxRecDepth 100000 in
theorem Tryz.cellsI8 : Tryz.prog.cellsOf 83 = 1 := by kernel_rfl
set_option maxRecDepth 100000 in
theorem Tryz.cellsQ4 : Tryz.prog.cellsOf 167 = 4 := by kernel_rfl
set_option maxRecDepth 100000 in
theorem Tryz.cellsQ8 : Tryz.prog.cellsOf 168 = 8 := by kernel_rfl
set_option maxRecDepth 100000 in
theorem Tryz.cellsPn : Tryz.prog.cellsOf 170 = 14 := by kernel_rfl
set_option maxRecDepth 100000 in
theorem and_i {a b : Bool} (h1 : a = true) (h2 : b = true) : (a && b) = true := by rw [h1, h2]; rfl
set_option maxRecDepth 100000 in
theorem Tryz.cellsSc : Tryz.prog.cellsOf 24 = 3 := by kernel_rfl
set_option maxRecDepth 100000 in
/-- a pane, opened. -/
theorem open_pane {cs : List Value} {n : Nat} {z : DataW H × List MemPlace} (hl : cs.length = 14) (hz : DataW.trod enc Tryz.prog w base spare held n 170 cs = some z) : ∃ p : PN, cs = p.cells ∧ p.ok := by
  obtain ⟨xs, n', _, _, _, hxl, hel⟩ := DataW.trod_struct Tryz.underlying170 hz
  match cs, hl, hel with
  | [c0, c1, c2, c3, c4, c5, d0, d1, d2, d3, d4, d5, d6, d7], _, hel =>
    have hxl' : xs.length = 7 := hxl
    have k0 : DataW.trod enc Tryz.prog w base spare held n' 5 (([c0, c1, c2, c3, c4, c5, d0, d1, d2, d3, d4, d5, d6, d7].drop 0).take (Tryz.prog.cellsOf 5)) = xs[0]? := hel 0 _ rfl
    rw [show xs[0]? = some xs[0] from List.getElem?_eq_getElem (by omega)] at k0
    rw [Tryz.cellsU8] at k0
    obtain ⟨x0, e0, _, w0⟩ := DataW.trod_int Tryz.underlying5 k0
    have k1 : DataW.trod enc Tryz.prog w base spare held n' 83 (([c0, c1, c2, c3, c4, c5, d0, d1, d2, d3, d4, d5, d6, d7].drop 1).take (Tryz.prog.cellsOf 83)) = xs[1]? := hel 1 _ rfl
    rw [show xs[1]? = some xs[1] from List.getElem?_eq_getElem (by omega)] at k1
    rw [Tryz.cellsI8] at k1
    obtain ⟨x1, e1, _, w1⟩ := DataW.trod_int Tryz.underlying83 k1
    have k2 : DataW.trod enc Tryz.prog w base spare held n' 83 (([c0, c1, c2, c3, c4, c5, d0, d1, d2, d3, d4, d5, d6, d7].drop 2).take (Tryz.prog.cellsOf 83)) = xs[2]? := hel 2 _ rfl
    rw [show xs[2]? = some xs[2] from List.getElem?_eq_getElem (by omega)] at k2
    rw [Tryz.cellsI8] at k2
    obtain ⟨x2, e2, _, w2⟩ := DataW.trod_int Tryz.underlying83 k2
    have k3 : DataW.trod enc Tryz.prog w base spare held n' 83 (([c0, c1, c2, c3, c4, c5, d0, d1, d2, d3, d4, d5, d6, d7].drop 3).take (Tryz.prog.cellsOf 83)) = xs[3]? := hel 3 _ rfl
    rw [show xs[3]? = some xs[3] from List.getElem?_eq_getElem (by omega)] at k3
    rw [Tryz.cellsI8] at k3
    obtain ⟨x3, e3, _, w3⟩ := DataW.trod_int Tryz.underlying83 k3
    have k4 : DataW.trod enc Tryz.prog w base spare held n' 83 (([c0, c1, c2, c3, c4, c5, d0, d1, d2, d3, d4, d5, d6, d7].drop 4).take (Tryz.prog.cellsOf 83)) = xs[4]? := hel 4 _ rfl
    rw [show xs[4]? = some xs[4] from List.getElem?_eq_getElem (by omega)] at k4
    rw [Tryz.cellsI8] at k4
    obtain ⟨x4, e4, _, w4⟩ := DataW.trod_int Tryz.underlying83 k4
    have k5 : DataW.trod enc Tryz.prog w base spare held n' 5 (([c0, c1, c2, c3, c4, c5, d0, d1, d2, d3, d4, d5, d6, d7].drop 5).take (Tryz.prog.cellsOf 5)) = xs[5]? := hel 5 _ rfl
    rw [show xs[5]? = some xs[5] from List.getElem?_eq_getElem (by omega)] at k5
    rw [Tryz.cellsU8] at k5
    obtain ⟨x5, e5, _, w5⟩ := DataW.trod_int Tryz.underlying5 k5
    have k6 : DataW.trod enc Tryz.prog w base spare held n' 168 (([c0, c1, c2, c3, c4, c5, d0, d1, d2, d3, d4, d5, d6, d7].drop 6).take (Tryz.prog.cellsOf 168)) = xs[6]? := hel 6 _ rfl
    rw [show xs[6]? = some xs[6] from List.getElem?_eq_getElem (by omega)] at k6
    rw [Tryz.cellsQ8] at k6
    obtain ⟨ys, m, _, _, _, hyl, hye⟩ := DataW.trod_array Tryz.underlying168 k6
    have j0 := hye 0 (by decide)
    rw [show ys[0]? = some ys[0] from List.getElem?_eq_getElem (by omega), Tryz.cellsQ4] at j0
    obtain ⟨y00, y01, y02, y03, m0, _, g00, g01, g02, g03⟩ := trod_array4 Tryz.underlying167 Tryz.cellsU8 (show DataW.trod enc Tryz.prog w base spare held m 167 [d0, d1, d2, d3] = some ys[0] from j0)
    obtain ⟨s0, f0, _, v0⟩ := DataW.trod_int Tryz.underlying5 g00
    obtain ⟨s1, f1, _, v1⟩ := DataW.trod_int Tryz.underlying5 g01
    obtain ⟨s2, f2, _, v2⟩ := DataW.trod_int Tryz.underlying5 g02
    obtain ⟨s3, f3, _, v3⟩ := DataW.trod_int Tryz.underlying5 g03
    have j1 := hye 1 (by decide)
    rw [show ys[1]? = some ys[1] from List.getElem?_eq_getElem (by omega), Tryz.cellsQ4] at j1
    obtain ⟨y10, y11, y12, y13, m1, _, g10, g11, g12, g13⟩ := trod_array4 Tryz.underlying167 Tryz.cellsU8 (show DataW.trod enc Tryz.prog w base spare held m 167 [d4, d5, d6, d7] = some ys[1] from j1)
    obtain ⟨s4, f4, _, v4⟩ := DataW.trod_int Tryz.underlying5 g10
    obtain ⟨s5, f5, _, v5⟩ := DataW.trod_int Tryz.underlying5 g11
    obtain ⟨s6, f6, _, v6⟩ := DataW.trod_int Tryz.underlying5 g12
    obtain ⟨s7, f7, _, v7⟩ := DataW.trod_int Tryz.underlying5 g13
    simp at e0 e1 e2 e3 e4 e5 f0 f1 f2 f3 f4 f5 f6 f7
    subst e0 e1 e2 e3 e4 e5 f0 f1 f2 f3 f4 f5 f6 f7
    exact ⟨⟨x0, x1, x2, x3, x4, x5, s0, s1, s2, s3, s4, s5, s6, s7⟩, rfl, ⟨bounds_u8 w0, bounds_i8 w1, bounds_i8 w2, bounds_i8 w3, bounds_i8 w4, bounds_u8 w5, ⟨⟨bounds_u8 v0, bounds_u8 v1, bounds_u8 v2, bounds_u8 v3⟩, bounds_u8 v4, bounds_u8 v5, bounds_u8 v6, bounds_u8 v7⟩⟩⟩
/-- a slice of panes. -/
theorem open_panes {fuel : Nat} {v : Value} {y : DataW H × List MemPlace} (h : DataW.trod enc Tryz.prog w base spare held fuel 22 [v] = some y) :
    ∃ (A : Option Addr) (n c : Nat) (l : List PN), v = .slice A n c ∧ n ≤ maxLen ∧ RdF PN.cells 14 w A n l ∧ ∀ p ∈ l, p.ok :=
  open_recs PN.cells 14 (by decide) PN.ok Tryz.underlying22 Tryz.cellsPn (fun _ => rfl) (fun _ _ _ hl hz => open_pane hl hz) h
end
end Go.Proofs.YtdaedkolpfkdjaaGreat
end
