/-
  The law GridSets is true of every input: whatever plane and whatever list of triples are handed in, the call returns true. No condition.
-/
import Derived.Deep.Slices
import Derived.Laws.IdiomArrays
import Derived.Test.YtcdecglbkcllaabGridRow
import Derived.Test.YtcdecglbkcllaabGridWalkN
namespace Go.Proofs.Ytcdecglbkcllaab
open Go.ChangeShapes Go.WideShapes Go.ChangeAt Go.RowKit Go.Joins

theorem gridSets_all (a b : Int) (ps : List Int) (A : Option Addr) (m c : Nat) (L : Option Addr) (nl cl : Nat) (ls : List (Int × Int × Int)) (w : World) (ha0 : 0 ≤ a ∧ a ≤ 255) (hb0 : 0 ≤ b ∧ b ≤ 255) (hr : Rd w A m (U8 ps)) (hls : Rd3 w L nl ls) (hz : ∀ z ∈ ps, 0 ≤ z ∧ z < 256) :
    Calls Try.prog 5 #[.agg #[.int .u8 a, .int .u8 b, .slice A m c], .slice L nl cl] w fun e w' => e = .returned (.bool true) ∧ Below w.heap.size w w' := by
  by_cases h : 60 < nl ∨ 300 < m
  · exact gridSets_skip a b A m c L nl cl w h
  · exact gridSets_go a b (a % 16 + 1).toNat (b % 16 + 1).toNat ps A m c L nl cl ls w (by omega) (by omega) ha0 hb0 (by omega) hr (by omega) hls hz

section
variable {H : Type} {enc : TypeId × Value → H} {P : Program} {w : World} {base : Nat} {spare : Nat → Bool} {held : Bool}
/-- a slice of triples of ints that came in reads as triples. -/
theorem open_triples {t e i : TypeId} {v : Value} {d : DataW H} {p : List MemPlace} (ht : P.underlying t = some (.slice e)) (he : P.underlying e = some (.array 3 i)) (hi : P.underlying i = some (.int .i64)) (hc : P.cellsOf e = 3) (hc1 : P.cellsOf i = 1)
    {A : Option Addr} {len cap : Nat} (hv : v = .slice A len cap) (h : DataW.Trod enc P w base spare held t v d p) :
    ∃ ls : List (Int × Int × Int), Rd3 w A len ls := by
  subst hv
  obtain ⟨fuel, hf⟩ := h
  rcases Deep.open_slice ht hf with ⟨h0, _⟩ | ⟨a, len', cap', m, n, D, Pl, hcs, _, hl, _, hm, _, hx⟩
  · simp [Value.cells] at h0
    obtain ⟨rfl, rfl, rfl⟩ := h0
    exact ⟨[], rfl, fun h => absurd h (by omega)⟩
  · simp [Value.cells] at hcs
    obtain ⟨rfl, rfl, rfl⟩ := hcs
    have hlm : len ≤ m := by rw [hm]; split <;> omega
    have each : ∀ k, k < len → ∃ x : Int × Int × Int, w.cell? (a.add (k * 3)) = some (.int .i64 x.1) ∧ w.cell? ((a.add (k * 3)).add 1) = some (.int .i64 x.2.1) ∧ w.cell? ((a.add (k * 3)).add 2) = some (.int .i64 x.2.2) := fun k hk => by
      obtain ⟨cs', h1, h2⟩ := hx k (by omega)
      rw [hc] at h1
      obtain ⟨_, hlen, hat⟩ := World.cells?_some h1
      match cs', hlen, h2 with
      | [c0, c1, c2], _, h2 =>
        obtain ⟨y0, y1, y2, n', _, g0, g1, g2⟩ := trod_array3 he hc1 h2
        obtain ⟨x0, e0, _, _⟩ := DataW.trod_int hi g0
        obtain ⟨x1, e1, _, _⟩ := DataW.trod_int hi g1
        obtain ⟨x2, e2, _, _⟩ := DataW.trod_int hi g2
        simp at e0 e1 e2
        subst e0 e1 e2
        refine ⟨(x0, x1, x2), ?_, ?_, ?_⟩
        · simpa [Addr.add] using hat 0 (by omega)
        · simpa using hat 1 (by omega)
        · simpa using hat 2 (by omega)
    obtain ⟨f, hf'⟩ := Deep.choose_lt each
    refine ⟨(List.range len).map f, by simp, fun hn => ?_⟩
    have h0 := (hf' 0 hn).1
    have hs : a.spot = none := by simpa [Addr.add] using World.cell?_spot h0
    obtain ⟨b, off, spot⟩ := a
    simp only at hs
    subst hs
    have hadd : ∀ k, (⟨b, off, none⟩ : Addr).add k = ⟨b, off + k, none⟩ := fun k => by
      unfold Addr.add
      split
      · rename_i h; subst h; rfl
      · rfl
    refine ⟨b, off, rfl, block_lt_of_cell (by rw [hadd] at h0; exact h0), fun k x hk => ?_⟩
    have hkl : k < len := by have := (List.getElem?_eq_some_iff.1 hk).1; simpa using this
    have hx' : f k = x := by simpa [List.getElem?_range hkl] using hk
    obtain ⟨g0, g1, g2⟩ := hf' k hkl
    rw [hx', hadd] at g0 g1 g2
    rw [show ((⟨b, off + k * 3, none⟩ : Addr).add 1) = ⟨b, off + k * 3 + 1, none⟩ from rfl] at g1
    rw [show ((⟨b, off + k * 3, none⟩ : Addr).add 2) = ⟨b, off + k * 3 + 2, none⟩ from rfl] at g2
    exact ⟨g0, g1, g2⟩
end
theorem Try.cellsT3 : Try.prog.cellsOf 50 = 3 := by kernel_rfl
theorem Try.cellsInt : Try.prog.cellsOf 3 = 1 := by kernel_rfl

set_option maxRecDepth 100000 in
theorem gridSets_lifted (os : Os) (started : os.Started) (H : Type) (enc : TypeId × Value → H) :
    ReturnsInHanded {} Try.checked os 5 .any (Rows.gridSetsSpec.pre6 enc Try.prog Try.f5 Rows.gridSetsRow.domain false) (Rows.gridSetsSpec.post enc Try.prog Try.f5 false true false false) := by
  refine returnsInHanded_of_change (C := Try.checked) Try.own started (by kernel_rfl) Try.func5
    (ChangeSpec.witness6 (enc := enc) (C := Try.checked) false ⟨#[], #[.agg #[.int .u8 0, .int .u8 0, .slice none 0 0], .slice none 0 0], []⟩ 8 (by kernel_rfl) (by kernel_rfl) (by kernel_rfl) (by kernel_rfl)) ?_
  intro W base args ds gs before hval0 hW hcnd _
  have hval : ∀ (j : Nat) t v, Try.f5.params[j]? = some t → args[j]? = some v → Value.okWide Try.prog W .any base t v := hval0
  have hW' := hW
  obtain ⟨p, q, hA0, hV, rfl, hfz, hnd⟩ := hW
  have hA : DataW.TrodAll enc Try.prog W 0 (fun _ => true) true Try.f5.params.toList args.toList ds p := hA0
  have hAk := hA
  obtain ⟨rfl, rfl⟩ := trodVars_none hV
  rw [List.append_nil] at hW'
  rw [Try.params5] at hA hval
  obtain ⟨v0, v1, d0, d1, p0, p1, rfl, rfl, rfl, h0, h1⟩ := trodAll_two hA
  obtain ⟨c00, c01, c02, y00, y01, y02, m0, rfl, rfl, rfl, hy00, hy01, hy02⟩ := open_agg3 Try.underlying41 (by kernel_rfl) Try.cellsPl (hval 0 41 v0 rfl rfl) h0
  obtain ⟨x00, e00, rfl, wx00⟩ := DataW.trod_int Try.underlying5 hy00
  obtain ⟨x01, e01, rfl, wx01⟩ := DataW.trod_int Try.underlying5 hy01
  obtain ⟨A, m, c, zs, rfl, hmc, hrd, hz⟩ := open_u8s Try.underlying39 Try.underlying5 Try.cellsU8 hy02
  obtain ⟨L, nl, cl, rfl⟩ := okWide_slice Try.underlying49 (hval 1 49 v1 rfl rfl)
  obtain ⟨ls, hls⟩ := open_triples Try.underlying49 Try.underlying50 Try.underlying3 Try.cellsT3 Try.cellsInt rfl h1
  simp at e00 e01
  subst e00 e01
  clear hA0 hval0
  refine (gridSets_all x00 x01 zs A m c L nl cl ls W (bounds_u8 wx00) (bounds_u8 wx01) hrd hls hz).mono fun e W' ⟨he, hb⟩ => ?_
  subst he
  exact ⟨_, rfl, law_post Try.laidOut (by decide +kernel) rfl hW' hAk rfl rfl Try.underlying4 hb⟩

theorem gridSets_holds : Rows.GridSetsSaid :=
  OpenClaim.holds_of_wide 5 Try.f5 rfl rfl rfl rfl rfl rfl rfl ⟨rfl, rfl, rfl, rfl, rfl⟩ rfl rfl rfl rfl rfl (by kernel_rfl) Try.func5 (by kernel_rfl)
    (of_decide_eq_true (by kernel_rfl)) (by unfold Func.isWrapper; first | (rw [if_pos (by decide +kernel)]; kernel_rfl) | (rw [if_neg (by decide +kernel)]; exact ⟨rfl, rfl⟩))
    (fun os started H enc _ => gridSets_lifted os started H enc)

end Go.Proofs.Ytcdecglbkcllaab
