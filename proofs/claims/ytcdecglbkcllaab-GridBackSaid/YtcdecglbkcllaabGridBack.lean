/-
  The law GridBack is true of every input: whatever plane, small rectangle, list of small rectangles and pixels are handed in, the call returns true. No condition.
-/
import Derived.Test.YtcdecglbkcllaabGridSmalls
import Derived.Test.YtcdecglbkcllaabGridBackW
namespace Go.Proofs.Ytcdecglbkcllaab
open Go.ChangeShapes Go.WideShapes Go.ChangeAt Go.RowKit Go.Joins

theorem gridBack_all (a b p q : Int) (ps : List Int) (A : Option Addr) (m c : Nat) (s : Sm) (L : Option Addr) (nl cl : Nat) (ss : List Sm) (w : World) (ha0 : 0 ≤ a ∧ a ≤ 255) (hb0 : 0 ≤ b ∧ b ≤ 255) (hr : Rd w A m (U8 ps)) (hsk : s.ok) (hs : RdS w L nl ss) (hok : ∀ s ∈ ss, s.ok) :
    Calls Try.prog 8 #[.agg #[.int .u8 a, .int .u8 b, .slice A m c], .agg #[.int .i8 s.x, .int .i8 s.y, .int .u8 s.w, .int .u8 s.h], .slice L nl cl, .int .u8 p, .int .u8 q] w fun e w' => e = .returned (.bool true) ∧ Below w.heap.size w w' := by
  by_cases h : 300 < m ∨ 12 < nl
  · exact gridBack_skip a b p q A m c s L nl cl w h
  · exact gridBack_go a b p q (a % 16 + 1).toNat (b % 16 + 1).toNat ps A m c s L nl cl ss w (by omega) (by omega) ha0 hb0 (by omega) (by omega) hr hs hok hsk

section
variable {H : Type} {enc : TypeId × Value → H} {P : Program} {w : World} {base : Nat} {spare : Nat → Bool} {held : Bool}
theorem trodAll_five {t0 t1 t2 t3 t4 : TypeId} {args : Array Value} {ds : List (DataW H)} {ps : List MemPlace} (h : DataW.TrodAll enc P w base spare held [t0, t1, t2, t3, t4] args.toList ds ps) :
    ∃ v0 v1 v2 v3 v4 d0 d1 d2 d3 d4 p0 p1 p2 p3 p4, args = #[v0, v1, v2, v3, v4] ∧ ds = [d0, d1, d2, d3, d4] ∧ ps = p0 ++ (p1 ++ (p2 ++ (p3 ++ (p4 ++ [])))) ∧ DataW.Trod enc P w base spare held t0 v0 d0 p0 ∧ DataW.Trod enc P w base spare held t1 v1 d1 p1 ∧ DataW.Trod enc P w base spare held t2 v2 d2 p2 ∧ DataW.Trod enc P w base spare held t3 v3 d3 p3 ∧ DataW.Trod enc P w base spare held t4 v4 d4 p4 := by
  obtain ⟨v0, l0, d0, e0, p0, q0, a0, b0, c0, h0, r0⟩ := trodAll_cons h
  obtain ⟨v1, l1, d1, e1, p1, q1, a1, b1, c1, h1, r1⟩ := trodAll_cons r0
  obtain ⟨v2, l2, d2, e2, p2, q2, a2, b2, c2, h2, r2⟩ := trodAll_cons r1
  obtain ⟨v3, l3, d3, e3, p3, q3, a3, b3, c3, h3, r3⟩ := trodAll_cons r2
  obtain ⟨v4, l4, d4, e4, p4, q4, a4, b4, c4, h4, r4⟩ := trodAll_cons r3
  obtain ⟨a5, b5, c5⟩ := trodAll_nil r4
  subst a5 b5 c5 a4 b4 c4 a3 b3 c3 a2 b2 c2 a1 b1 c1 b0 c0
  exact ⟨v0, v1, v2, v3, v4, d0, d1, d2, d3, d4, p0, p1, p2, p3, p4, Array.toList_inj.1 a0, rfl, rfl, h0, h1, h2, h3, h4⟩
end

set_option maxRecDepth 100000 in
theorem gridBack_lifted (os : Os) (started : os.Started) (H : Type) (enc : TypeId × Value → H) :
    ReturnsInHanded {} Try.checked os 8 .any (Rows.gridBackSpec.pre6 enc Try.prog Try.f8 Rows.gridBackRow.domain false) (Rows.gridBackSpec.post enc Try.prog Try.f8 false true false false) := by
  refine returnsInHanded_of_change (C := Try.checked) Try.own started (by kernel_rfl) Try.func8
    (ChangeSpec.witness6 (enc := enc) (C := Try.checked) false ⟨#[], #[.agg #[.int .u8 0, .int .u8 0, .slice none 0 0], .agg #[.int .i8 0, .int .i8 0, .int .u8 0, .int .u8 0], .slice none 0 0, .int .u8 0, .int .u8 0], []⟩ 8 (by kernel_rfl) (by kernel_rfl) (by kernel_rfl) (by kernel_rfl)) ?_
  intro W base args ds gs before hval0 hW hcnd _
  have hval : ∀ (j : Nat) t v, Try.f8.params[j]? = some t → args[j]? = some v → Value.okWide Try.prog W .any base t v := hval0
  have hW' := hW
  obtain ⟨p, q, hA0, hV, rfl, hfz, hnd⟩ := hW
  have hA : DataW.TrodAll enc Try.prog W 0 (fun _ => true) true Try.f8.params.toList args.toList ds p := hA0
  have hAk := hA
  obtain ⟨rfl, rfl⟩ := trodVars_none hV
  rw [List.append_nil] at hW'
  rw [Try.params8] at hA hval
  obtain ⟨v0, v1, v2, v3, v4, d0, d1, d2, d3, d4, p0, p1, p2, p3, p4, rfl, rfl, rfl, h0, h1, h2, h3, h4⟩ := trodAll_five hA
  obtain ⟨c00, c01, c02, y00, y01, y02, m0, rfl, rfl, rfl, hy00, hy01, hy02⟩ := open_agg3 Try.underlying41 (by kernel_rfl) Try.cellsPl (hval 0 41 v0 rfl rfl) h0
  obtain ⟨x00, e00, rfl, wx00⟩ := DataW.trod_int Try.underlying5 hy00
  obtain ⟨x01, e01, rfl, wx01⟩ := DataW.trod_int Try.underlying5 hy01
  obtain ⟨A, m, c, zs, rfl, hmc, hrd, hz⟩ := open_u8s Try.underlying39 Try.underlying5 Try.cellsU8 hy02
  obtain ⟨c10, c11, c12, c13, y10, y11, y12, y13, m1, rfl, rfl, rfl, hy10, hy11, hy12, hy13⟩ := open_agg4 Try.underlying72 (by kernel_rfl) Try.cellsSm (hval 1 72 v1 rfl rfl) h1
  obtain ⟨x10, e10, rfl, wx10⟩ := DataW.trod_int Try.underlying70 hy10
  obtain ⟨x11, e11, rfl, wx11⟩ := DataW.trod_int Try.underlying70 hy11
  obtain ⟨x12, e12, rfl, wx12⟩ := DataW.trod_int Try.underlying5 hy12
  obtain ⟨x13, e13, rfl, wx13⟩ := DataW.trod_int Try.underlying5 hy13
  obtain ⟨L, nl, cl, rfl⟩ := okWide_slice Try.underlying58 (hval 2 58 v2 rfl rfl)
  obtain ⟨ss, hss, hok⟩ := open_smalls Try.underlying58 Try.underlying72 (by kernel_rfl) Try.cellsSm rfl rfl rfl rfl Try.underlying70 Try.underlying5 rfl h2
  obtain ⟨x3, rfl, rfl, rfl, wx3⟩ := open_int Try.underlying22 (hval 3 22 v3 rfl rfl) h3
  obtain ⟨x4, rfl, rfl, rfl, wx4⟩ := open_int Try.underlying22 (hval 4 22 v4 rfl rfl) h4
  simp at e00 e01 e10 e11 e12 e13
  subst e00 e01 e10 e11 e12 e13
  clear hA0 hval0
  refine (gridBack_all x00 x01 x3 x4 zs A m c ⟨x10, x11, x12, x13⟩ L nl cl ss W (bounds_u8 wx00) (bounds_u8 wx01) hrd ⟨bounds_i8 wx10, bounds_i8 wx11, bounds_u8 wx12, bounds_u8 wx13⟩ hss hok).mono fun e W' ⟨he, hb⟩ => ?_
  subst he
  exact ⟨_, rfl, law_post Try.laidOut (by decide +kernel) rfl hW' hAk rfl rfl Try.underlying4 hb⟩

theorem gridBack_holds : Rows.GridBackSaid :=
  OpenClaim.holds_of_wide 8 Try.f8 rfl rfl rfl rfl rfl rfl rfl ⟨rfl, rfl, rfl, rfl, rfl⟩ rfl rfl rfl rfl rfl (by kernel_rfl) Try.func8 (by kernel_rfl)
    (of_decide_eq_true (by kernel_rfl)) (by unfold Func.isWrapper; first | (rw [if_pos (by decide +kernel)]; kernel_rfl) | (rw [if_neg (by decide +kernel)]; exact ⟨rfl, rfl⟩))
    (fun os started H enc _ => gridBack_lifted os started H enc)

end Go.Proofs.Ytcdecglbkcllaab
