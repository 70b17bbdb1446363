/-
  The law GridLays is true of every input: whatever planes, numbers and list of small rectangles are handed in, the call returns true. No condition.
-/
import Derived.Test.YtcdecglbkcllaabGridSmalls
import Derived.Test.YtcdecglbkcllaabGridLayC
namespace Go.Proofs.Ytcdecglbkcllaab
open Go.ChangeShapes Go.WideShapes Go.ChangeAt Go.RowKit Go.Joins

theorem gridLays_all (a b a2 b2 dx dy : Int) (ps ps2 : List Int) (A Ah : Option Addr) (m c mh ch : Nat) (L : Option Addr) (nl cl : Nat) (ss : List Sm) (w : World) (ha0 : 0 ≤ a ∧ a ≤ 255) (hb0 : 0 ≤ b ∧ b ≤ 255) (hr : Rd w A m (U8 ps)) (ha2 : 0 ≤ a2 ∧ a2 ≤ 255) (hb2 : 0 ≤ b2 ∧ b2 ≤ 255) (hrh : Rd w Ah mh (U8 ps2)) (hs : RdS w L nl ss) (hok : ∀ s ∈ ss, s.ok) :
    Calls Try.prog 7 #[.agg #[.int .u8 a, .int .u8 b, .slice A m c], .agg #[.int .u8 a2, .int .u8 b2, .slice Ah mh ch], .int .i64 dx, .int .i64 dy, .slice L nl cl] w fun e w' => e = .returned (.bool true) ∧ Below w.heap.size w w' := by
  by_cases h : 300 < m ∨ 300 < mh ∨ 12 < nl
  · exact gridLays_skip a b a2 b2 dx dy A Ah m c mh ch L nl cl w h
  · exact gridLays_go a b a2 b2 dx dy (a % 16 + 1).toNat (b % 16 + 1).toNat (a2 % 16 + 1).toNat (b2 % 16 + 1).toNat ps ps2 A Ah m c mh ch L nl cl ss w (by omega) (by omega) ha0 hb0 (by omega) hr (by omega) (by omega) ha2 hb2 (by omega) hrh (by omega) hs hok

section
variable {H : Type} {enc : TypeId × Value → H} {P : Program} {w : World} {base : Nat} {spare : Nat → Bool} {held : Bool}
theorem trodAll_five {t0 t1 t2 t3 t4 : TypeId} {args : Array Value} {ds : List (DataW H)} {ps : List MemPlace} (h : DataW.TrodAll enc P w base spare held [t0, t1, t2, t3, t4] args.toList ds ps) :
    ∃ v0 v1 v2 v3 v4 d0 d1 d2 d3 d4 p0 p1 p2 p3 p4, args = #[v0, v1, v2, v3, v4] ∧ ds = [d0, d1, d2, d3, d4] ∧ ps = p0 ++ (p1 ++ (p2 ++ (p3 ++ (p4 ++ [])))) ∧ DataW.Trod enc P w base spare held t0 v0 d0 p0 ∧ DataW.Trod enc P w base spare held t1 v1 d1 p1 ∧ DataW.Trod enc P w base spare held t2 v2 d2 p2 ∧ DataW.Trod enc P w base spare held t3 v3 d3 p3 ∧ DataW.Trod enc P w base spare held t4 v4 d4 p4 := by
  obtain ⟨v0, l0, d0, e0, p0, q0, a0, b0, c0, h0, r0⟩ := trodAll_cons h
  obtain ⟨v1, l1, d1, e1, p1, q1, a1, b1, c1, h1, r1⟩ := trodAll_cons r0
  obtain ⟨v2, l2, d2, e2, p2, q2, a2, b2, c2, h2, r2⟩ := trodAll_cons r1
  obtain ⟨v3, l3, d3, e3, p3, q3, a3, b3, c3, h3, r3⟩ := trodAll_cons r2
  obtain ⟨v4, l4, d4, e4, p4, q4, a4, b4, c4, h4, r4⟩ := trodAll_cons r3
  obtain ⟨a5, b5, c5⟩ := trodAll_nil r4
  subst a5 b5 c5 a4 b4 c4 a3 b3 c3 a2 b2 c2 a1 b1 c1 b0 c0
  exact ⟨v0, v1, v2, v3, v4, d0, d1, d2, d3, d4, p0, p1, p2, p3, p4, Array.toList_inj.1 a0, rfl, rfl, h0, h1, h2, h3, h4⟩
end

set_option maxRecDepth 100000 in
theorem gridLays_lifted (os : Os) (started : os.Started) (H : Type) (enc : TypeId × Value → H) :
    ReturnsInHanded {} Try.checked os 7 .any (Rows.gridLaysSpec.pre6 enc Try.prog Try.f7 Rows.gridLaysRow.domain false) (Rows.gridLaysSpec.post enc Try.prog Try.f7 false true false false) := by
  refine returnsInHanded_of_change (C := Try.checked) Try.own started (by kernel_rfl) Try.func7
    (ChangeSpec.witness6 (enc := enc) (C := Try.checked) false ⟨#[], #[.agg #[.int .u8 0, .int .u8 0, .slice none 0 0], .agg #[.int .u8 0, .int .u8 0, .slice none 0 0], .int .i64 0, .int .i64 0, .slice none 0 0], []⟩ 8 (by kernel_rfl) (by kernel_rfl) (by kernel_rfl) (by kernel_rfl)) ?_
  intro W base args ds gs before hval0 hW hcnd _
  have hval : ∀ (j : Nat) t v, Try.f7.params[j]? = some t → args[j]? = some v → Value.okWide Try.prog W .any base t v := hval0
  have hW' := hW
  obtain ⟨p, q, hA0, hV, rfl, hfz, hnd⟩ := hW
  have hA : DataW.TrodAll enc Try.prog W 0 (fun _ => true) true Try.f7.params.toList args.toList ds p := hA0
  have hAk := hA
  obtain ⟨rfl, rfl⟩ := trodVars_none hV
  rw [List.append_nil] at hW'
  rw [Try.params7] at hA hval
  obtain ⟨v0, v1, v2, v3, v4, d0, d1, d2, d3, d4, p0, p1, p2, p3, p4, rfl, rfl, rfl, h0, h1, h2, h3, h4⟩ := trodAll_five hA
  obtain ⟨c00, c01, c02, y00, y01, y02, m0, rfl, rfl, rfl, hy00, hy01, hy02⟩ := open_agg3 Try.underlying41 (by kernel_rfl) Try.cellsPl (hval 0 41 v0 rfl rfl) h0
  obtain ⟨x00, e00, rfl, wx00⟩ := DataW.trod_int Try.underlying5 hy00
  obtain ⟨x01, e01, rfl, wx01⟩ := DataW.trod_int Try.underlying5 hy01
  obtain ⟨A, m, c, zs, rfl, hmc, hrd, hz⟩ := open_u8s Try.underlying39 Try.underlying5 Try.cellsU8 hy02
  obtain ⟨c10, c11, c12, y10, y11, y12, m1, rfl, rfl, rfl, hy10, hy11, hy12⟩ := open_agg3 Try.underlying41 (by kernel_rfl) Try.cellsPl (hval 1 41 v1 rfl rfl) h1
  obtain ⟨x10, e10, rfl, wx10⟩ := DataW.trod_int Try.underlying5 hy10
  obtain ⟨x11, e11, rfl, wx11⟩ := DataW.trod_int Try.underlying5 hy11
  obtain ⟨Ah, mh, ch, zs2, rfl, hmc2, hrd2, hz2⟩ := open_u8s Try.underlying39 Try.underlying5 Try.cellsU8 hy12
  obtain ⟨x2, rfl, rfl, rfl, wx2⟩ := open_int Try.underlying3 (hval 2 3 v2 rfl rfl) h2
  obtain ⟨x3, rfl, rfl, rfl, wx3⟩ := open_int Try.underlying3 (hval 3 3 v3 rfl rfl) h3
  obtain ⟨L, nl, cl, rfl⟩ := okWide_slice Try.underlying58 (hval 4 58 v4 rfl rfl)
  obtain ⟨ss, hss, hok⟩ := open_smalls Try.underlying58 Try.underlying72 (by kernel_rfl) Try.cellsSm rfl rfl rfl rfl Try.underlying70 Try.underlying5 rfl h4
  simp at e00 e01 e10 e11
  subst e00 e01 e10 e11
  clear hA0 hval0
  refine (gridLays_all x00 x01 x10 x11 x2 x3 zs zs2 A Ah m c mh ch L nl cl ss W (bounds_u8 wx00) (bounds_u8 wx01) hrd (bounds_u8 wx10) (bounds_u8 wx11) hrd2 hss hok).mono fun e W' ⟨he, hb⟩ => ?_
  subst he
  exact ⟨_, rfl, law_post Try.laidOut (by decide +kernel) rfl hW' hAk rfl rfl Try.underlying4 hb⟩

theorem gridLays_holds : Rows.GridLaysSaid :=
  OpenClaim.holds_of_wide 7 Try.f7 rfl rfl rfl rfl rfl rfl rfl ⟨rfl, rfl, rfl, rfl, rfl⟩ rfl rfl rfl rfl rfl (by kernel_rfl) Try.func7 (by kernel_rfl)
    (of_decide_eq_true (by kernel_rfl)) (by unfold Func.isWrapper; first | (rw [if_pos (by decide +kernel)]; kernel_rfl) | (rw [if_neg (by decide +kernel)]; exact ⟨rfl, rfl⟩))
    (fun os started H enc _ => gridLays_lifted os started H enc)

end Go.Proofs.Ytcdecglbkcllaab
