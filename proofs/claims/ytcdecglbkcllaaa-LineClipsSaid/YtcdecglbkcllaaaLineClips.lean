/-
  The law LineClips is true of every input: whatever two points and whatever rectangle are handed in, the call returns true, and each argument reads behind it as it read before. No condition.
-/
import Derived.Test.YtcdecglbkcllaaaLawKit
import Derived.Test.YtcdecglbkcllaaaLineWalkQ
namespace Go.Proofs.Ytcdecglbkcllaaa
open Go.ChangeShapes Go.WideShapes Go.ChangeAt Go.RowKit Go.Joins

theorem Try.cellsPt : Try.prog.cellsOf 23 = 2 := by kernel_rfl
theorem Try.cellsRc : Try.prog.cellsOf 45 = 4 := by kernel_rfl

set_option maxRecDepth 100000 in
theorem lineClips_lifted (os : Os) (started : os.Started) (H : Type) (enc : TypeId × Value → H) :
    ReturnsInHanded {} Try.checked os 7 .any (Rows.lineClipsSpec.pre6 enc Try.prog Try.f7 Rows.lineClipsRow.domain false) (Rows.lineClipsSpec.post enc Try.prog Try.f7 false true false false) := by
  refine returnsInHanded_of_change (C := Try.checked) Try.own started (by kernel_rfl) Try.func7
    (ChangeSpec.witness6 (enc := enc) (C := Try.checked) false ⟨#[], #[.agg #[.int .i64 0, .int .i64 0], .agg #[.int .i64 0, .int .i64 0], .agg #[.int .i64 0, .int .i64 0, .int .i64 0, .int .i64 0]], []⟩ 8 (by kernel_rfl) (by kernel_rfl) (by kernel_rfl) (by kernel_rfl)) ?_
  intro W base args ds gs before hval0 hW hcnd _
  have hval : ∀ (j : Nat) t v, Try.f7.params[j]? = some t → args[j]? = some v → Value.okWide Try.prog W .any base t v := hval0
  have hW' := hW
  obtain ⟨p, q, hA0, hV, rfl, hfz, hnd⟩ := hW
  have hA : DataW.TrodAll enc Try.prog W 0 (fun _ => true) true Try.f7.params.toList args.toList ds p := hA0
  have hAk := hA
  obtain ⟨rfl, rfl⟩ := trodVars_none hV
  rw [Try.params7] at hA hval
  obtain ⟨v0, v1, v2, d0, d1, d2, p0, p1, p2, rfl, rfl, rfl, h0, h1, h2⟩ := trodAll_three hA
  obtain ⟨c00, c01, y00, y01, m0, rfl, rfl, rfl, hy00, hy01⟩ := open_agg2 Try.underlying23 (by kernel_rfl) Try.cellsPt (hval 0 23 v0 rfl rfl) h0
  obtain ⟨x00, e00, rfl, _⟩ := DataW.trod_int Try.underlying3 hy00
  obtain ⟨x01, e01, rfl, _⟩ := DataW.trod_int Try.underlying3 hy01
  obtain ⟨c10, c11, y10, y11, m1, rfl, rfl, rfl, hy10, hy11⟩ := open_agg2 Try.underlying23 (by kernel_rfl) Try.cellsPt (hval 1 23 v1 rfl rfl) h1
  obtain ⟨x10, e10, rfl, _⟩ := DataW.trod_int Try.underlying3 hy10
  obtain ⟨x11, e11, rfl, _⟩ := DataW.trod_int Try.underlying3 hy11
  obtain ⟨c20, c21, c22, c23, y20, y21, y22, y23, m2, rfl, rfl, rfl, hy20, hy21, hy22, hy23⟩ := open_agg4 Try.underlying45 (by kernel_rfl) Try.cellsRc (hval 2 45 v2 rfl rfl) h2
  obtain ⟨x20, e20, rfl, wx20⟩ := DataW.trod_int Try.underlying3 hy20
  obtain ⟨x21, e21, rfl, wx21⟩ := DataW.trod_int Try.underlying3 hy21
  obtain ⟨x22, e22, rfl, wx22⟩ := DataW.trod_int Try.underlying3 hy22
  obtain ⟨x23, e23, rfl, wx23⟩ := DataW.trod_int Try.underlying3 hy23
  simp at e00 e01 e10 e11 e20 e21 e22 e23
  subst e00 e01 e10 e11 e20 e21 e22 e23
  clear hA0 hval0
  simp only [List.append_nil] at hW'
  refine (lineClips_any x00 x01 x10 x11 x20 x21 x22 x23 W).mono fun e W' ⟨he, hb⟩ => ?_
  subst he
  exact ⟨_, rfl, law_post Try.laidOut (by decide +kernel) rfl hW' hAk rfl rfl Try.underlying4 hb⟩

theorem lineClips_holds : Rows.LineClipsSaid :=
  OpenClaim.holds_of_wide 7 Try.f7 rfl rfl rfl rfl rfl rfl rfl ⟨rfl, rfl, rfl, rfl, rfl⟩ rfl rfl rfl rfl rfl (by kernel_rfl) Try.func7 (by kernel_rfl)
    (of_decide_eq_true (by kernel_rfl)) (by unfold Func.isWrapper; first | (rw [if_pos (by decide +kernel)]; kernel_rfl) | (rw [if_neg (by decide +kernel)]; exact ⟨rfl, rfl⟩))
    (fun os started H enc _ => lineClips_lifted os started H enc)

end Go.Proofs.Ytcdecglbkcllaaa
