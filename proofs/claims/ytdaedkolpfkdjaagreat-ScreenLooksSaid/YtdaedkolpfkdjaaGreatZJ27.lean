/-
  Windows that came in, opened: numbers, and a slice of rectangles.
  Five arguments, one by one.
  What a round of glazierlaw34.Make adds.
  The windows of glazierlaw37, plainly: as the document's scenes; which of them show; where a focus goes.
  What glazierlaw37.made holds while it makes windows, and how each step keeps it.
-/
import Derived.Deep.Slices
import Derived.Test.YtdaedkolpfkdjaaGreatZJ00
import Derived.Test.YtdaedkolpfkdjaaGreatZJ26
import Derived.Test.YtdaedkolpfkdjaaGreatZJ24
import Derived.Test.YtdaedkolpfkdjaaGreatZJ06
section
namespace Go.Proofs.YtdaedkolpfkdjaaGreat
open Go.ChangeShapes Go.WideShapes Go.ChangeAt Go.RowKit Go.Joins

section
variable {H : Type} {enc : TypeId × Value → H} {P : Program} {w : World} {base : Nat} {spare : Nat → Bool} {held : Bool} {α : Type}
theorem open_recs [Inhabited α] (f : α → List Value) (m : Nat) (hm : 0 < m) (Q : α → Prop) {t e : TypeId} {fuel : Nat} {v : Value} {y : DataW H × List MemPlace} (ht : P.underlying t = some (.slice e)) (hc : P.cellsOf e = m) (hfl : ∀ x, (f x).length = m)
    (hone : ∀ (cs : List Value) (n : Nat) (z : DataW H × List MemPlace), cs.length = m → DataW.trod enc P w base spare held n e cs = some z → ∃ x, cs = f x ∧ Q x) (h : DataW.trod enc P w base spare held fuel t [v] = some y) :
    ∃ (A : Option Addr) (n c : Nat) (l : List α), v = .slice A n c ∧ n ≤ maxLen ∧ RdF f m w A n l ∧ ∀ x ∈ l, Q x := by
  rcases Deep.open_slice ht h with ⟨h0, _⟩ | ⟨a, len, cap, mm, n, D, Pl, hcs, _, hl, hcap, hmm, _, hx⟩
  · simp at h0
    exact ⟨none, 0, 0, [], h0, Nat.zero_le _, RdF.nil _ _ _ _, by simp⟩
  · simp at hcs
    have hlm : len ≤ mm := by rw [hmm]; split <;> omega
    have each : ∀ k, k < len → ∃ x : α, (∀ i u, (f x)[i]? = some u → w.cell? ((a.add (k * m)).add i) = some u) ∧ Q x := fun k hk => by
      obtain ⟨cs', h1, h2⟩ := hx k (by omega)
      rw [hc] at h1
      obtain ⟨_, hlen, hat⟩ := World.cells?_some h1
      obtain ⟨x, rfl, hq⟩ := hone cs' n _ hlen h2
      refine ⟨x, fun i u hu => ?_, hq⟩
      have hi : i < m := by have := (List.getElem?_eq_some_iff.1 hu).1; rwa [hfl] at this
      rw [hat i hi, hu]
    obtain ⟨g, hg⟩ := Deep.choose_lt each
    refine ⟨some a, len, cap, (List.range len).map g, hcs, by omega, ⟨by simp, fun hn => ?_⟩, fun x hx' => ?_⟩
    · have hf0 : ∃ u, (f (g 0))[0]? = some u := ⟨_, List.getElem?_eq_getElem (by rw [hfl]; exact hm)⟩
      obtain ⟨u0, hu0⟩ := hf0
      have h0 := (hg 0 hn).1 0 u0 hu0
      have hs : a.spot = none := by simpa [Addr.add] using World.cell?_spot h0
      obtain ⟨b, off, spot⟩ := a
      simp only at hs
      subst hs
      have hadd : ∀ o k, (⟨b, o, none⟩ : Addr).add k = ⟨b, o + k, none⟩ := fun o k => by
        unfold Addr.add
        split
        · rename_i h; subst h; rfl
        · rfl
      refine ⟨b, off, rfl, block_lt_of_cell (by rw [hadd, hadd] at h0; exact h0), fun k x hk i u hu => ?_⟩
      have hkl : k < len := by have := (List.getElem?_eq_some_iff.1 hk).1; simpa using this
      have hx' : g k = x := by simpa [List.getElem?_range hkl] using hk
      have := (hg k hkl).1 i u (by rw [hx']; exact hu)
      rwa [hadd, hadd] at this
    · obtain ⟨k, hk, rfl⟩ := List.mem_map.1 hx'
      exact (hg k (by simpa using hk)).2
end

theorem rdR_ofF {w : World} {A : Option Addr} {n : Nat} {rs : List RC} (h : RdF RC.cells 4 w A n rs) : RdR w A n rs :=
  ⟨h.1, fun hn => by
    obtain ⟨b, off, e, hb, hc⟩ := h.2 hn
    exact ⟨b, off, e, hb, fun k r hk => ⟨hc k r hk 0 _ rfl, hc k r hk 1 _ rfl, hc k r hk 2 _ rfl, hc k r hk 3 _ rfl⟩⟩⟩
theorem bounds_i64 {n : Int} (h : (Lit.int .i64 n).wf = true) : n ≤ 9223372036854775807 := by
  simp [Lit.wf, IntKind.min, IntKind.max, IntKind.signed, IntKind.bits] at h
  omega
instance : Inhabited RC := ⟨⟨0, 0, 0, 0⟩⟩

instance : Inhabited PN34 := ⟨⟨0, 0, 0, 0, 0, false, false, none, 0, 0, 0, []⟩⟩
section
variable {H : Type} {enc : TypeId × Value → H} {w : World} {base : Nat} {spare : Nat → Bool} {held : Bool}
set_option maxRecDepth 100000 in
theorem and_i {a b : Bool} (h1 : a = true) (h2 : b = true) : (a && b) = true := by rw [h1, h2]; rfl
set_option maxRecDepth 100000 in
theorem Tryz.cellsRc4 : Tryz.prog.cellsOf 103 = 4 := by kernel_rfl
set_option maxRecDepth 100000 in
theorem Tryz.cellsI : Tryz.prog.cellsOf 3 = 1 := by kernel_rfl
set_option maxRecDepth 100000 in
theorem Tryz.cellsBl : Tryz.prog.cellsOf 4 = 1 := by kernel_rfl
set_option maxRecDepth 100000 in
theorem Tryz.cellsRcs : Tryz.prog.cellsOf 31 = 1 := by kernel_rfl
set_option maxRecDepth 100000 in
theorem Tryz.cellsU8 : Tryz.prog.cellsOf 5 = 1 := by kernel_rfl
set_option maxRecDepth 100000 in
theorem Tryz.cellsI8 : Tryz.prog.cellsOf 83 = 1 := by kernel_rfl
set_option maxRecDepth 100000 in
theorem Tryz.cellsW34 : Tryz.prog.cellsOf 85 = 9 := by kernel_rfl
set_option maxRecDepth 100000 in

theorem open_rects {fuel : Nat} {v : Value} {y : DataW H × List MemPlace} (h : DataW.trod enc Tryz.prog w base spare held fuel 31 [v] = some y) :
    ∃ (A : Option Addr) (n c : Nat) (rs : List RC), v = .slice A n c ∧ n ≤ maxLen ∧ RdR w A n rs ∧ ∀ r ∈ rs, r.X ≤ 9223372036854775807 ∧ r.Y ≤ 9223372036854775807 := by
  obtain ⟨A, n, c, l, e1, e2, hr, hq⟩ := open_recs RC.cells 4 (by decide) (fun r => r.X ≤ 9223372036854775807 ∧ r.Y ≤ 9223372036854775807) Tryz.underlying31 Tryz.cellsRc4 (fun _ => rfl) (fun cs m z hl hz => by
    match cs, hl, hz with
    | [c0, c1, c2, c3], _, hz =>
      obtain ⟨y0, y1, y2, y3, n', _, _, g0, g1, g2, g3⟩ := trod_struct4 Tryz.underlying103 hz
      dsimp only at g0 g1 g2 g3
      rw [Tryz.cellsI] at g0 g1 g2 g3
      obtain ⟨x0, e0, _, w0⟩ := DataW.trod_int Tryz.underlying3 g0
      obtain ⟨x1, e1, _, w1⟩ := DataW.trod_int Tryz.underlying3 g1
      obtain ⟨x2, e2, _, _⟩ := DataW.trod_int Tryz.underlying3 g2
      obtain ⟨x3, e3, _, _⟩ := DataW.trod_int Tryz.underlying3 g3
      simp at e0 e1 e2 e3
      subst e0 e1 e2 e3
      exact ⟨⟨x0, x1, x2, x3⟩, rfl, bounds_i64 w0, bounds_i64 w1⟩) h
  exact ⟨A, n, c, l, e1, e2, rdR_ofF hr, hq⟩

set_option maxRecDepth 100000 in
/-- a window, opened. -/
theorem open_win34 {cs : List Value} {n : Nat} {z : DataW H × List MemPlace} (hl : cs.length = 9) (hz : DataW.trod enc Tryz.prog w base spare held n 85 cs = some z) : ∃ p : PN34, cs = p.cells ∧ p.ok ∧ RdR w p.A p.n p.sh := by
  obtain ⟨xs, n', _, _, _, hxl, hel⟩ := DataW.trod_struct Tryz.underlying85 hz
  match cs, hl, hel with
  | [c0, c1, c2, c3, c4, c5, c6, c7, c8], _, hel =>
    have hxl' : xs.length = 9 := hxl
    have k0 : DataW.trod enc Tryz.prog w base spare held n' 5 (([c0, c1, c2, c3, c4, c5, c6, c7, c8].drop 0).take (Tryz.prog.cellsOf 5)) = xs[0]? := hel 0 _ rfl
    rw [show xs[0]? = some xs[0] from List.getElem?_eq_getElem (by omega)] at k0
    rw [Tryz.cellsU8] at k0
    have k1 : DataW.trod enc Tryz.prog w base spare held n' 83 (([c0, c1, c2, c3, c4, c5, c6, c7, c8].drop 1).take (Tryz.prog.cellsOf 83)) = xs[1]? := hel 1 _ rfl
    rw [show xs[1]? = some xs[1] from List.getElem?_eq_getElem (by omega)] at k1
    rw [Tryz.cellsI8] at k1
    have k2 : DataW.trod enc Tryz.prog w base spare held n' 83 (([c0, c1, c2, c3, c4, c5, c6, c7, c8].drop 2).take (Tryz.prog.cellsOf 83)) = xs[2]? := hel 2 _ rfl
    rw [show xs[2]? = some xs[2] from List.getElem?_eq_getElem (by omega)] at k2
    rw [Tryz.cellsI8] at k2
    have k3 : DataW.trod enc Tryz.prog w base spare held n' 5 (([c0, c1, c2, c3, c4, c5, c6, c7, c8].drop 3).take (Tryz.prog.cellsOf 5)) = xs[3]? := hel 3 _ rfl
    rw [show xs[3]? = some xs[3] from List.getElem?_eq_getElem (by omega)] at k3
    rw [Tryz.cellsU8] at k3
    have k4 : DataW.trod enc Tryz.prog w base spare held n' 5 (([c0, c1, c2, c3, c4, c5, c6, c7, c8].drop 4).take (Tryz.prog.cellsOf 5)) = xs[4]? := hel 4 _ rfl
    rw [show xs[4]? = some xs[4] from List.getElem?_eq_getElem (by omega)] at k4
    rw [Tryz.cellsU8] at k4
    have k5 : DataW.trod enc Tryz.prog w base spare held n' 4 (([c0, c1, c2, c3, c4, c5, c6, c7, c8].drop 5).take (Tryz.prog.cellsOf 4)) = xs[5]? := hel 5 _ rfl
    rw [show xs[5]? = some xs[5] from List.getElem?_eq_getElem (by omega)] at k5
    rw [Tryz.cellsBl] at k5
    have k6 : DataW.trod enc Tryz.prog w base spare held n' 4 (([c0, c1, c2, c3, c4, c5, c6, c7, c8].drop 6).take (Tryz.prog.cellsOf 4)) = xs[6]? := hel 6 _ rfl
    rw [show xs[6]? = some xs[6] from List.getElem?_eq_getElem (by omega)] at k6
    rw [Tryz.cellsBl] at k6
    have k7 : DataW.trod enc Tryz.prog w base spare held n' 31 (([c0, c1, c2, c3, c4, c5, c6, c7, c8].drop 7).take (Tryz.prog.cellsOf 31)) = xs[7]? := hel 7 _ rfl
    rw [show xs[7]? = some xs[7] from List.getElem?_eq_getElem (by omega)] at k7
    rw [Tryz.cellsRcs] at k7
    have k8 : DataW.trod enc Tryz.prog w base spare held n' 5 (([c0, c1, c2, c3, c4, c5, c6, c7, c8].drop 8).take (Tryz.prog.cellsOf 5)) = xs[8]? := hel 8 _ rfl
    rw [show xs[8]? = some xs[8] from List.getElem?_eq_getElem (by omega)] at k8
    rw [Tryz.cellsU8] at k8
    obtain ⟨x0, e0, _, w0⟩ := DataW.trod_int Tryz.underlying5 k0
    obtain ⟨x1, e1, _, w1⟩ := DataW.trod_int Tryz.underlying83 k1
    obtain ⟨x2, e2, _, w2⟩ := DataW.trod_int Tryz.underlying83 k2
    obtain ⟨x3, e3, _, w3⟩ := DataW.trod_int Tryz.underlying5 k3
    obtain ⟨x4, e4, _, w4⟩ := DataW.trod_int Tryz.underlying5 k4
    obtain ⟨x5, e5, _⟩ := DataW.trod_bool Tryz.underlying4 k5
    obtain ⟨x6, e6, _⟩ := DataW.trod_bool Tryz.underlying4 k6
    obtain ⟨A, m, c, rs, e7, hm, hr, _⟩ := open_rects (v := c7) k7
    obtain ⟨x8, e8, _, w8⟩ := DataW.trod_int Tryz.underlying5 k8
    simp at e0 e1 e2 e3 e4 e5 e6 e8
    subst e0 e1 e2 e3 e4 e5 e6 e7 e8
    exact ⟨⟨x0, x1, x2, x3, x4, x5, x6, A, m, c, x8, rs⟩, rfl, ⟨bounds_u8 w0, bounds_i8 w1, bounds_i8 w2, bounds_u8 w3, bounds_u8 w4, bounds_u8 w8, hm⟩, hr⟩
/-- a slice of windows. -/
theorem open_wins34 {fuel : Nat} {v : Value} {y : DataW H × List MemPlace} (h : DataW.trod enc Tryz.prog w base spare held fuel 64 [v] = some y) :
    ∃ (A : Option Addr) (n c : Nat) (l : List PN34), v = .slice A n c ∧ n ≤ maxLen ∧ RdP34 w A n l ∧ ∀ p ∈ l, p.ok := by
  obtain ⟨A, n, c, l, e1, e2, hr, hq⟩ := open_recs PN34.cells 9 (by decide) (fun p => p.ok ∧ RdR w p.A p.n p.sh) Tryz.underlying64 Tryz.cellsW34 (fun _ => rfl) (fun _ _ _ hl hz => open_win34 hl hz) h
  exact ⟨A, n, c, l, e1, e2, ⟨hr, fun p hp => (hq p hp).2⟩, fun p hp => (hq p hp).1⟩
end
end Go.Proofs.YtdaedkolpfkdjaaGreat
end

section
namespace Go.Proofs.YtdaedkolpfkdjaaGreat
open Go.ChangeShapes Go.WideShapes Go.ChangeAt Go.RowKit Go.Joins

section
variable {H : Type} {enc : TypeId × Value → H} {P : Program} {w : World} {base : Nat} {spare : Nat → Bool} {held : Bool}
end
end Go.Proofs.YtdaedkolpfkdjaaGreat
end

section
namespace Go.Proofs.YtdaedkolpfkdjaaGreat
open Go.RowKit Go.Maps Go.Shelf

section
variable {W : World} {l : List R34} {d : R34} {mk mu mp mc : Option Nat} {RW RH : Int}
theorem dws_snoc (hl : 1 ≤ l.length) : dws (l ++ [d]) = dws l ++ [d.dw] := by
  unfold dws
  cases l with
  | nil => simp at hl
  | cons a t => simp
theorem dws_len : (dws l).length = l.length - 1 := by simp [dws]
theorem dws_lenI (hl : 1 ≤ l.length) : (((dws l).length : Nat) : Int) = (l.length : Int) - 1 := by rw [dws_len]; omega
/-- each lies in one ahead of it. -/
def UpR (l : List R34) : Prop := ∀ (j : Nat) (d : R34), l[j]? = some d → 1 ≤ j → 0 ≤ d.U ∧ d.U < (j : Int)
theorem UpR.upOk (h : UpR l) : UpOk (dws l) := fun i e he => by
  unfold dws at he
  rw [List.getElem?_map, List.getElem?_tail] at he
  cases hd : l[i + 1]? with
  | none => rw [hd] at he; cases he
  | some d =>
    rw [hd] at he
    have e0 : d.dw = e := by simpa using he
    subst e0
    have := h (i + 1) d hd (by omega)
    show -1 ≤ d.U - 1 ∧ d.U - 1 < (i : Int)
    omega
theorem upR_of {ps : List PN34} (hl : l.length ≤ ps.length) (h : ∀ (j : Nat) (p : PN34) (d : R34), ps[j]? = some p → l[j]? = some d → Like34 j p d) : UpR l := fun j d hd hj => by
  have hlt := (List.getElem?_eq_some_iff.1 hd).1
  obtain ⟨p, hp⟩ : ∃ p, ps[j]? = some p := ⟨_, List.getElem?_eq_getElem (by omega)⟩
  have h0 := (h j p d hp hd).U
  rw [if_neg (by omega)] at h0
  have h1 := Int.emod_nonneg p.U (show (j : Int) ≠ 0 by omega)
  have h2 := Int.emod_lt_of_pos p.U (show (0 : Int) < (j : Int) by omega)
  omega
theorem get_snoc {α : Type} {l : List α} {d e : α} {j : Nat} (h : (l ++ [d])[j]? = some e) : (j < l.length ∧ l[j]? = some e) ∨ (j = l.length ∧ e = d) := by
  rw [List.getElem?_append] at h
  split at h
  · exact .inl ⟨by assumption, h⟩
  · cases hj : j - l.length with
    | zero => rw [hj] at h; simp at h; exact .inr ⟨by omega, h.symm⟩
    | succ m => rw [hj] at h; simp at h
theorem UpR.snoc (hu : UpR l) (hd : 0 ≤ d.U ∧ d.U < (l.length : Int)) : UpR (l ++ [d]) := fun j e he hj => by
  rcases get_snoc he with ⟨_, h⟩ | ⟨rfl, rfl⟩
  · exact hu j e h hj
  · exact hd
theorem set_34 {bs : Bxs} (hs : SceneIs W bs RW RH (dws l)) (hk : 1 ≤ l.length) (h7 : l.length ≤ 7) (hD : DWok d.dw) {b : BX} (hb : BoxOf W d.dw b) (hG : b.G = 0 ∧ b.B = 0) (hn : b.S = false → b.n = 0) :
    setC bs l.length (idW ((l.length : Int) - 1)) b = 0 ∧ setN bs l.length (idW ((l.length : Int) - 1)) b = l.length + 1 ∧ setB bs l.length (idW ((l.length : Int) - 1)) b = fun j => if j = idW ((dws l).length : Nat) then some b else bs j := by
  have h := setC_W hs (by rw [dws_len]; omega) hD hb hG hn
  have hf := hs.fresh
  have e : (dws l).length + 1 = l.length := by rw [dws_len]; omega
  rw [e] at h
  rw [← dws_lenI hk]
  refine ⟨h, ?_, ?_⟩
  · unfold setN
    rw [h, if_pos rfl, hf]
    rfl
  · unfold setB
    rw [h, if_pos rfl]
theorem mp_step {bs : Bxs} {b : BX} (hk : 1 ≤ l.length) (hp : PlaceIs W (.agg #[.map mp]) (l.length + 1) (fun j => if j = idW ((dws l).length : Nat) then some b else bs j)) (hs : SceneIs W bs RW RH (dws l)) (hb : BoxOf W d.dw b) : MP W (l ++ [d]) mp RW RH := by
  have h := hs.snoc hb
  rw [← dws_snoc hk] at h
  exact .inr ⟨by simp, _, by simpa using hp, h⟩
theorem idC_34 {k : Nat} (h : k ≤ 1000) : idC (idW ((k : Int) - 1)) = 0 := by
  cases k with
  | zero => rfl
  | succ k =>
    have e : ((k + 1 : Nat) : Int) - 1 = (k : Int) := by omega
    rw [e]
    exact idC_W ⟨by omega, by omega⟩
theorem mc_none {cs : Its} (h3 : ∀ k it, cs k = some it → ∃ j : Nat, j < l.length ∧ k = idW ((j : Int) - 1)) : cs (idW ((l.length : Int) - 1)) = none := by
  cases h : cs (idW ((l.length : Int) - 1)) with
  | none => rfl
  | some it =>
    obtain ⟨j, hj, e⟩ := h3 _ it h
    have := idW_inj (by omega) (by omega) e
    omega
end
theorem like_first {p : PN34} {W H c : Nat} {Ap : Option Addr} (hW : (W : Int) = p.W % 16 + 1 ∧ (H : Int) = p.H % 16 + 1) (hs : p.sh.length ≤ 6 ∧ ∀ r ∈ p.sh, SmallR r) : Like34 0 p ⟨-1, 0, 0, W, H, true, false, none, 0, 0, Ap, W * H, c, [], inkL W (W * H) p.I⟩ :=
  ⟨rfl, rfl, rfl, hW.1, hW.2, rfl, rfl, rfl, rfl, rfl, hs⟩
theorem like_next {p : PN34} {k W H c : Nat} {Ap : Option Addr} (hk : k ≠ 0) {u : Int} (hu : u = p.U % (k : Int)) (A : Option Addr) (n m : Nat) (hW : (W : Int) = p.W % 16 + 1 ∧ (H : Int) = p.H % 16 + 1) (hs : p.sh.length ≤ 6 ∧ ∀ r ∈ p.sh, SmallR r) : Like34 k p ⟨u, p.X, p.Y, W, H, p.M, p.S, A, n, m, Ap, W * H, c, if p.S then p.sh else [], inkL W (W * H) p.I⟩ :=
  ⟨by rw [if_neg hk, hu], by rw [if_neg hk], by rw [if_neg hk], hW.1, hW.2, by simp [hk], by simp [hk], rfl, rfl, rfl, hs⟩

end Go.Proofs.YtdaedkolpfkdjaaGreat
end

section
namespace Go.Proofs.YtdaedkolpfkdjaaGreat

/-- a window that is made: its parent's number, whether it is mapped, whether it lies outside. -/
structure FW where
  U : Int
  M : Bool
  O : Bool
def FW.cells (f : FW) : List Value := [.int .u8 f.U, .bool f.M, .bool f.O]
theorem FW.cells_len (f : FW) : f.cells.length = 3 := rfl
def FW.ok (f : FW) : Prop := 0 ≤ f.U ∧ f.U ≤ 255
def FW.dw (f : FW) (i : Nat) : DW := ⟨f.U % ((i : Int) + 1) - 1, if f.O then 100 else 0, 0, 8, 8, f.M, false, none, 0, 0, []⟩
def dwsF (fs : List FW) : List DW := fs.zipIdx.map fun q => q.1.dw q.2
section
variable {l : List DW}
/-- is a window of a number, the root's is 0, viewable? -/
def isAt (l : List DW) (j : Nat) : Bool := vw (nodesW l) (bxS 8 8 l) (idW ((j : Int) - 1))
def isL (l : List DW) (k : Nat) : List Bool := (List.range (k + 1)).map (isAt l)
def shL (l : List DW) (k : Nat) : List Int := ((List.range (k + 1)).filter (isAt l)).map fun (j : Nat) => idW ((j : Int) - 1)
end
end Go.Proofs.YtdaedkolpfkdjaaGreat
end

section
namespace Go.Proofs.YtdaedkolpfkdjaaGreat
open Go.RowKit Go.Maps Go.Shelf

def BL (l : List Bool) : List Value := l.map Value.bool
theorem TreeOwn.below {w w' : World} {base : Nat} {ns : Nodes} {kb ub nk : Nat} {fk : Int → Option Value} (h : TreeOwn w base ns kb ub nk fk) (hb : Below w.heap.size w w') : TreeOwn w' base ns kb ub nk fk :=
  ⟨h.kids.below hb, h.up.below hb, fun i v hv => ownsRow_below (h.own i v hv) hb, h.nil, h.lok, h.lou, h.room, h.few, h.ok, h.keys⟩
theorem TreeOwn.setBlk {w : World} {base : Nat} {ns : Nodes} {kb ub nk : Nat} {fk : Int → Option Value} (h : TreeOwn w base ns kb ub nk fk) {B : Nat} {t : TypeId} {cs : Array Value} (hB : Blk w B t cs) (ht : t ≠ 48) (i : Nat) (u : Value) : TreeOwn (w.setCell ⟨B, i, none⟩ u) base ns kb ub nk fk :=
  ⟨h.kids.setCell (h.kids.neBlk hB) u, h.up.setCell (h.up.neBlk hB) u, fun j v hv => (h.own j v hv).kept (grown_setCell w ⟨B, i, none⟩ u) (.inr (own_other (h.own j v hv) hB ht)), h.nil, h.lok, h.lou, h.room, h.few, h.ok, h.keys⟩
theorem TreeOwn.row {w w' : World} {base : Nat} {ns : Nodes} {kb ub nk : Nat} {fk : Int → Option Value} {row : Option Nat} (h : TreeOwn w base ns kb ub nk fk) (hg : w.grownBy w' row) (hr : ∀ g, row = some g → g < base) : TreeOwn w' base ns kb ub nk fk :=
  ⟨h.kids.kept hg (fun e => by have h1 := hr kb e.symm; have h2 := h.lok; omega), h.up.kept hg (fun e => by have h1 := hr ub e.symm; have h2 := h.lou; omega), fun i v hv => (h.own i v hv).kept hg (by
    cases hb : v.ownBlock with
    | none => exact .inl rfl
    | some g => exact .inr (fun e => by have h1 := hr g e.symm; have h2 := own_ge (h.own i v hv) g hb; omega)), h.nil, h.lok, h.lou, h.room, h.few, h.ok, h.keys⟩
theorem PlaceIs.row {w w' : World} {pv : Value} {n : Nat} {bs : Bxs} {base size m : Nat} {e : TypeId} {v : Value} {xs : List Value} (h : PlaceIs w pv n bs) (ho : w.ownsRow base e size v m xs) (hg : w.grownBy w' v.ownBlock) : PlaceIs w' pv n bs := by
  obtain ⟨mb, e1, h1⟩ := h
  refine ⟨mb, e1, ?_⟩
  rcases h1 with h2 | ⟨b, rfl, h2⟩
  · exact .inl h2
  · exact .inr ⟨b, rfl, h2.kept hg (fun e => h2.not_row ho e.symm)⟩
/-- windows without shapes are so in any world. -/
theorem SceneIs.any {W W' : World} {bs : Bxs} {RW RH : Int} {l : List DW} (h : SceneIs W bs RW RH l) (hs : ∀ d ∈ l, d.sh = []) : SceneIs W' bs RW RH l :=
  ⟨h.root, fun i d hd => by
    obtain ⟨b, h1, h2, out, h3, h4⟩ := h.each i d hd
    have h5 := hs d (List.mem_of_getElem? hd)
    have h6 : out = [] := by
      obtain ⟨_, _, _, _, hc, _⟩ := h3
      exact no_places hc (fun x y hxy => by
        have h7 := (inB_iff out x y).2 hxy
        rw [h4, h5] at h7
        cases h7)
    subst h6
    obtain ⟨A, c, e, _⟩ := h3
    refine ⟨b, h1, h2, [], ?_, h4⟩
    rw [e]
    exact ⟨A, c, rfl, ⟨rfl, fun h => absurd h (by decide)⟩, canon_nilV, by simp, by simp⟩, h.only⟩
/-- a row of ids of the call's own. -/
def IdsOwn (w : World) (lo : Nat) (v : Value) (zs : List Int) : Prop := w.ownsRow lo 48 1 v zs.length (U32 zs)
theorem IdsOwn.below {w w' : World} {lo : Nat} {v : Value} {zs : List Int} (h : IdsOwn w lo v zs) (hb : Below w.heap.size w w') : IdsOwn w' lo v zs := ownsRow_below h hb
theorem add_pre {l : List DW} {k : Nat} {d : DW} (h : UpOk l) (hd : l[k]? = some d) (hk : k ≤ 60) : idC (idW k) = 0 ∧ hasN (nodesW (l.take k)) (idW k) = false ∧ hasN (nodesW (l.take k)) (idW d.P) = true ∧ decide ((64 : Int) ≤ ((nodesW (l.take k)).length : Int) + 1) = false := by
  have hlt := (List.getElem?_eq_some_iff.1 hd).1
  have hlen : (l.take k).length = k := by rw [List.length_take]; omega
  have hp := h k d hd
  refine ⟨idC_W (by omega), ?_, hasW hp.1 (by rw [hlen]; exact hp.2), by rw [nodesW_len, hlen]; exact decide_eq_false (by omega)⟩
  cases hh : hasN (nodesW (l.take k)) (idW k) with
  | false => rfl
  | true =>
    obtain ⟨n, a, b, e⟩ := hasW_inv hh
    have := idW_inj (by omega) a e
    rw [hlen] at b
    omega
/-- what is held. -/
structure MK (w : World) (lo g6 g7 : Nat) (l : List DW) (k : Nat) (mk mu mp : Option Nat) (nk : Nat) (fk : Int → Option Value) (bs : Bxs) (v9 v10 : Value) : Prop where
  k6 : Blk w g6 37 #[.map mk, .map mu]
  k7 : Blk w g7 40 #[.map mp]
  tree : TreeIs w (.agg #[.map mk, .map mu]) (nodesW (l.take k)) mk mu nk fk
  place : PlaceIs w (.agg #[.map mp]) (k + 1) bs
  scene : SceneIs w bs 8 8 (l.take k)
  own9 : w.ownsRow lo 48 1 v9 (shL l k).length (U32 (shL l k))
  own10 : w.ownsRow lo 4 1 v10 (k + 1) (BL (isL l k))
theorem MK.below {w w' : World} {lo g6 g7 : Nat} {l : List DW} {k : Nat} {mk mu mp : Option Nat} {nk : Nat} {fk : Int → Option Value} {bs : Bxs} {v9 v10 : Value} (h : MK w lo g6 g7 l k mk mu mp nk fk bs v9 v10) (hb : Below w.heap.size w w') : MK w' lo g6 g7 l k mk mu mp nk fk bs v9 v10 :=
  ⟨h.k6.belowS hb, h.k7.belowS hb, h.tree.below hb, h.place.below hb, h.scene.below hb, ownsRow_below h.own9 hb, ownsRow_below h.own10 hb⟩
/-- what is held when a round's tree and place are laid down. -/
structure MN (w : World) (base g6 g7 : Nat) (l : List DW) (k : Nat) (kb ub : Nat) (mp : Option Nat) (nk : Nat) (fk : Int → Option Value) (bs : Bxs) : Prop where
  k6 : Blk w g6 37 #[.map (some kb), .map (some ub)]
  k7 : Blk w g7 40 #[.map mp]
  tree : TreeOwn w base (nodesW (l.take (k + 1))) kb ub nk fk
  place : PlaceIs w (.agg #[.map mp]) (k + 1 + 1) bs
  scene : SceneIs w bs 8 8 (l.take (k + 1))
section
variable {w w' : World} {base lo g6 g7 : Nat} {l : List DW} {k : Nat} {kb ub : Nat} {mp : Option Nat} {nk : Nat} {fk : Int → Option Value} {bs : Bxs}
theorem MN.below (h : MN w base g6 g7 l k kb ub mp nk fk bs) (hb : Below w.heap.size w w') : MN w' base g6 g7 l k kb ub mp nk fk bs :=
  ⟨h.k6.belowS hb, h.k7.belowS hb, h.tree.below hb, h.place.below hb, h.scene.below hb⟩
/-- an append to a row of the call's own leaves it. -/
theorem MN.app (h : MN w base g6 g7 l k kb ub mp nk fk bs) {o : Obj} {e size n : Nat} {v : Value} {xs : List Value} (ho : w.ownsRow lo e size v n xs) (hg : (w.alloc o).grownBy w' v.ownBlock) (hb : ∀ g, v.ownBlock = some g → g < base) (h6 : g6 < lo) (h7 : g7 < lo) (hs : ∀ d ∈ l.take (k + 1), d.sh = []) : MN w' base g6 g7 l k kb ub mp nk fk bs :=
  ⟨(h.k6.alloc o).grown hg (fun e => by have := own_ge ho _ e.symm; omega), (h.k7.alloc o).grown hg (fun e => by have := own_ge ho _ e.symm; omega), (h.tree.below (bal (bre w) o)).row hg hb, (h.place.below (bal (bre w) o)).row (ho.alloc o) hg, h.scene.any hs⟩
theorem MN.done (h : MN w base g6 g7 l k kb ub mp nk fk bs) {v9 v10 : Value} (h9 : w.ownsRow lo 48 1 v9 (shL l (k + 1)).length (U32 (shL l (k + 1)))) (h10 : w.ownsRow lo 4 1 v10 (k + 1 + 1) (BL (isL l (k + 1)))) : MK w lo g6 g7 l (k + 1) (some kb) (some ub) mp nk fk bs v9 v10 :=
  ⟨h.k6, h.k7, h.tree.tree, h.place, h.scene, h9, h10⟩
end
end Go.Proofs.YtdaedkolpfkdjaaGreat
end
