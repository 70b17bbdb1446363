/-
  The law GridCrops is true of every input: whatever plane, whatever rectangle and whatever pixel are handed in, the call returns true. No condition.
-/
import Derived.Test.YtcdecglbkcllaabGridRow
import Derived.Test.YtcdecglbkcllaabGridWalkL
namespace Go.Proofs.Ytcdecglbkcllaab
open Go.ChangeShapes Go.WideShapes Go.ChangeAt Go.RowKit Go.Joins

set_option maxRecDepth 100000 in
theorem gridCrops_lifted (os : Os) (started : os.Started) (H : Type) (enc : TypeId × Value → H) :
    ReturnsInHanded {} Try.checked os 4 .any (Rows.gridCropsSpec.pre6 enc Try.prog Try.f4 Rows.gridCropsRow.domain false) (Rows.gridCropsSpec.post enc Try.prog Try.f4 false true false false) := by
  refine returnsInHanded_of_change (C := Try.checked) Try.own started (by kernel_rfl) Try.func4
    (ChangeSpec.witness6 (enc := enc) (C := Try.checked) false ⟨#[], #[.agg #[.int .u8 0, .int .u8 0, .slice none 0 0], .agg #[.int .i64 0, .int .i64 0, .int .i64 0, .int .i64 0], .int .u8 0], []⟩ 8 (by kernel_rfl) (by kernel_rfl) (by kernel_rfl) (by kernel_rfl)) ?_
  intro W base args ds gs before hval0 hW hcnd _
  have hval : ∀ (j : Nat) t v, Try.f4.params[j]? = some t → args[j]? = some v → Value.okWide Try.prog W .any base t v := hval0
  have hW' := hW
  obtain ⟨p, q, hA0, hV, rfl, hfz, hnd⟩ := hW
  have hA : DataW.TrodAll enc Try.prog W 0 (fun _ => true) true Try.f4.params.toList args.toList ds p := hA0
  have hAk := hA
  obtain ⟨rfl, rfl⟩ := trodVars_none hV
  rw [List.append_nil] at hW'
  rw [Try.params4] at hA hval
  obtain ⟨v0, v1, v2, d0, d1, d2, p0, p1, p2, rfl, rfl, rfl, h0, h1, h2⟩ := trodAll_three hA
  obtain ⟨c00, c01, c02, y00, y01, y02, m0, rfl, rfl, rfl, hy00, hy01, hy02⟩ := open_agg3 Try.underlying41 (by kernel_rfl) Try.cellsPl (hval 0 41 v0 rfl rfl) h0
  obtain ⟨x00, e00, rfl, wx00⟩ := DataW.trod_int Try.underlying5 hy00
  obtain ⟨x01, e01, rfl, wx01⟩ := DataW.trod_int Try.underlying5 hy01
  obtain ⟨A, m, c, zs, rfl, hmc, hrd, hz⟩ := open_u8s Try.underlying39 Try.underlying5 Try.cellsU8 hy02
  obtain ⟨c10, c11, c12, c13, y10, y11, y12, y13, m1, rfl, rfl, rfl, hy10, hy11, hy12, hy13⟩ := open_agg4 Try.underlying43 (by kernel_rfl) Try.cellsRc (hval 1 43 v1 rfl rfl) h1
  obtain ⟨x10, e10, rfl, wx10⟩ := DataW.trod_int Try.underlying3 hy10
  obtain ⟨x11, e11, rfl, wx11⟩ := DataW.trod_int Try.underlying3 hy11
  obtain ⟨x12, e12, rfl, wx12⟩ := DataW.trod_int Try.underlying3 hy12
  obtain ⟨x13, e13, rfl, wx13⟩ := DataW.trod_int Try.underlying3 hy13
  obtain ⟨x2, rfl, rfl, rfl, wx2⟩ := open_int Try.underlying22 (hval 2 22 v2 rfl rfl) h2
  simp at e00 e01 e10 e11 e12 e13
  subst e00 e01 e10 e11 e12 e13
  clear hA0 hval0
  refine (gridCrops_all x00 x01 zs A m c x10 x11 x12 x13 x2 W (bounds_u8 wx00) (bounds_u8 wx01) hrd).mono fun e W' ⟨he, hb⟩ => ?_
  subst he
  exact ⟨_, rfl, law_post Try.laidOut (by decide +kernel) rfl hW' hAk rfl rfl Try.underlying4 hb⟩

theorem gridCrops_holds : Rows.GridCropsSaid :=
  OpenClaim.holds_of_wide 4 Try.f4 rfl rfl rfl rfl rfl rfl rfl ⟨rfl, rfl, rfl, rfl, rfl⟩ rfl rfl rfl rfl rfl (by kernel_rfl) Try.func4 (by kernel_rfl)
    (of_decide_eq_true (by kernel_rfl)) (by unfold Func.isWrapper; first | (rw [if_pos (by decide +kernel)]; kernel_rfl) | (rw [if_neg (by decide +kernel)]; exact ⟨rfl, rfl⟩))
    (fun os started H enc _ => gridCrops_lifted os started H enc)

end Go.Proofs.Ytcdecglbkcllaab
