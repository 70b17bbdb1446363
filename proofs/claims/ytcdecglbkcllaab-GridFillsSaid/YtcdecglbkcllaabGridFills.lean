/-
  The law GridFills is true of every input: whatever plane, whatever list of small rectangles and whatever pixel are handed in, the call returns true. No condition.
-/
import Derived.Test.YtcdecglbkcllaabGridSmalls
import Derived.Test.YtcdecglbkcllaabGridFillE
namespace Go.Proofs.Ytcdecglbkcllaab
open Go.ChangeShapes Go.WideShapes Go.ChangeAt Go.RowKit Go.Joins

theorem gridFills_all (a b p : Int) (ps : List Int) (A : Option Addr) (m c : Nat) (L : Option Addr) (nl cl : Nat) (ss : List Sm) (w : World) (ha0 : 0 ≤ a ∧ a ≤ 255) (hb0 : 0 ≤ b ∧ b ≤ 255) (hr : Rd w A m (U8 ps)) (hs : RdS w L nl ss) (hok : ∀ s ∈ ss, s.ok) :
    Calls Try.prog 6 #[.agg #[.int .u8 a, .int .u8 b, .slice A m c], .slice L nl cl, .int .u8 p] w fun e w' => e = .returned (.bool true) ∧ Below w.heap.size w w' := by
  by_cases h : 12 < nl ∨ 300 < m
  · exact gridFills_skip a b p A m c L nl cl w h
  · exact gridFills_go a b p (a % 16 + 1).toNat (b % 16 + 1).toNat ps A m c L nl cl ss w (by omega) (by omega) ha0 hb0 (by omega) (by omega) hr hs hok

set_option maxRecDepth 100000 in
theorem gridFills_lifted (os : Os) (started : os.Started) (H : Type) (enc : TypeId × Value → H) :
    ReturnsInHanded {} Try.checked os 6 .any (Rows.gridFillsSpec.pre6 enc Try.prog Try.f6 Rows.gridFillsRow.domain false) (Rows.gridFillsSpec.post enc Try.prog Try.f6 false true false false) := by
  refine returnsInHanded_of_change (C := Try.checked) Try.own started (by kernel_rfl) Try.func6
    (ChangeSpec.witness6 (enc := enc) (C := Try.checked) false ⟨#[], #[.agg #[.int .u8 0, .int .u8 0, .slice none 0 0], .slice none 0 0, .int .u8 0], []⟩ 8 (by kernel_rfl) (by kernel_rfl) (by kernel_rfl) (by kernel_rfl)) ?_
  intro W base args ds gs before hval0 hW hcnd _
  have hval : ∀ (j : Nat) t v, Try.f6.params[j]? = some t → args[j]? = some v → Value.okWide Try.prog W .any base t v := hval0
  have hW' := hW
  obtain ⟨p, q, hA0, hV, rfl, hfz, hnd⟩ := hW
  have hA : DataW.TrodAll enc Try.prog W 0 (fun _ => true) true Try.f6.params.toList args.toList ds p := hA0
  have hAk := hA
  obtain ⟨rfl, rfl⟩ := trodVars_none hV
  rw [List.append_nil] at hW'
  rw [Try.params6] at hA hval
  obtain ⟨v0, v1, v2, d0, d1, d2, p0, p1, p2, rfl, rfl, rfl, h0, h1, h2⟩ := trodAll_three hA
  obtain ⟨c00, c01, c02, y00, y01, y02, m0, rfl, rfl, rfl, hy00, hy01, hy02⟩ := open_agg3 Try.underlying41 (by kernel_rfl) Try.cellsPl (hval 0 41 v0 rfl rfl) h0
  obtain ⟨x00, e00, rfl, wx00⟩ := DataW.trod_int Try.underlying5 hy00
  obtain ⟨x01, e01, rfl, wx01⟩ := DataW.trod_int Try.underlying5 hy01
  obtain ⟨A, m, c, zs, rfl, hmc, hrd, hz⟩ := open_u8s Try.underlying39 Try.underlying5 Try.cellsU8 hy02
  obtain ⟨L, nl, cl, rfl⟩ := okWide_slice Try.underlying58 (hval 1 58 v1 rfl rfl)
  obtain ⟨ss, hss, hok⟩ := open_smalls Try.underlying58 Try.underlying72 (by kernel_rfl) Try.cellsSm rfl rfl rfl rfl Try.underlying70 Try.underlying5 rfl h1
  obtain ⟨x2, rfl, rfl, rfl, wx2⟩ := open_int Try.underlying22 (hval 2 22 v2 rfl rfl) h2
  simp at e00 e01
  subst e00 e01
  clear hA0 hval0
  refine (gridFills_all x00 x01 x2 zs A m c L nl cl ss W (bounds_u8 wx00) (bounds_u8 wx01) hrd hss hok).mono fun e W' ⟨he, hb⟩ => ?_
  subst he
  exact ⟨_, rfl, law_post Try.laidOut (by decide +kernel) rfl hW' hAk rfl rfl Try.underlying4 hb⟩

theorem gridFills_holds : Rows.GridFillsSaid :=
  OpenClaim.holds_of_wide 6 Try.f6 rfl rfl rfl rfl rfl rfl rfl ⟨rfl, rfl, rfl, rfl, rfl⟩ rfl rfl rfl rfl rfl (by kernel_rfl) Try.func6 (by kernel_rfl)
    (of_decide_eq_true (by kernel_rfl)) (by unfold Func.isWrapper; first | (rw [if_pos (by decide +kernel)]; kernel_rfl) | (rw [if_neg (by decide +kernel)]; exact ⟨rfl, rfl⟩))
    (fun os started H enc _ => gridFills_lifted os started H enc)

end Go.Proofs.Ytcdecglbkcllaab
