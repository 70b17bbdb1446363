/-
  The law LineWrong is true of every input: whatever point, rectangle and number are handed in, the call returns true, and each argument reads behind it as it read before. No condition.
-/
import Derived.Test.YtcdecglbkcllaaaLawKit
import Derived.Test.YtcdecglbkcllaaaLineWrong2
namespace Go.Proofs.Ytcdecglbkcllaaa
open Go.ChangeShapes Go.WideShapes Go.ChangeAt Go.RowKit Go.Joins

theorem Try.cellsPt : Try.prog.cellsOf 23 = 2 := by kernel_rfl
theorem Try.cellsRc : Try.prog.cellsOf 45 = 4 := by kernel_rfl

theorem lineWrong_all (px py X Y W H mr : Int) (w : World) (h0 : 0 ≤ mr) (h1 : mr ≤ 255) :
    Calls Try.prog 8 #[.agg #[.int .i64 px, .int .i64 py], .agg #[.int .i64 X, .int .i64 Y, .int .i64 W, .int .i64 H], .int .u8 mr] w fun e w' => e = .returned (.bool true) ∧ Below w.heap.size w w' :=
  wrong_go px py X Y W H mr w ⟨h0, h1⟩

set_option maxRecDepth 100000 in
theorem lineWrong_lifted (os : Os) (started : os.Started) (H : Type) (enc : TypeId × Value → H) :
    ReturnsInHanded {} Try.checked os 8 .any (Rows.lineWrongSpec.pre6 enc Try.prog Try.f8 Rows.lineWrongRow.domain false) (Rows.lineWrongSpec.post enc Try.prog Try.f8 false true false false) := by
  refine returnsInHanded_of_change (C := Try.checked) Try.own started (by kernel_rfl) Try.func8
    (ChangeSpec.witness6 (enc := enc) (C := Try.checked) false ⟨#[], #[.agg #[.int .i64 0, .int .i64 0], .agg #[.int .i64 0, .int .i64 0, .int .i64 0, .int .i64 0], .int .u8 0], []⟩ 8 (by kernel_rfl) (by kernel_rfl) (by kernel_rfl) (by kernel_rfl)) ?_
  intro W base args ds gs before hval0 hW hcnd _
  have hval : ∀ (j : Nat) t v, Try.f8.params[j]? = some t → args[j]? = some v → Value.okWide Try.prog W .any base t v := hval0
  have hW' := hW
  obtain ⟨p, q, hA0, hV, rfl, hfz, hnd⟩ := hW
  have hA : DataW.TrodAll enc Try.prog W 0 (fun _ => true) true Try.f8.params.toList args.toList ds p := hA0
  have hAk := hA
  obtain ⟨rfl, rfl⟩ := trodVars_none hV
  rw [Try.params8] at hA hval
  obtain ⟨v0, v1, v2, d0, d1, d2, p0, p1, p2, rfl, rfl, rfl, h0, h1, h2⟩ := trodAll_three hA
  obtain ⟨c00, c01, y00, y01, m0, rfl, rfl, rfl, hy00, hy01⟩ := open_agg2 Try.underlying23 (by kernel_rfl) Try.cellsPt (hval 0 23 v0 rfl rfl) h0
  obtain ⟨x00, e00, rfl, _⟩ := DataW.trod_int Try.underlying3 hy00
  obtain ⟨x01, e01, rfl, _⟩ := DataW.trod_int Try.underlying3 hy01
  obtain ⟨c10, c11, c12, c13, y10, y11, y12, y13, m1, rfl, rfl, rfl, hy10, hy11, hy12, hy13⟩ := open_agg4 Try.underlying45 (by kernel_rfl) Try.cellsRc (hval 1 45 v1 rfl rfl) h1
  obtain ⟨x10, e10, rfl, wx10⟩ := DataW.trod_int Try.underlying3 hy10
  obtain ⟨x11, e11, rfl, wx11⟩ := DataW.trod_int Try.underlying3 hy11
  obtain ⟨x12, e12, rfl, wx12⟩ := DataW.trod_int Try.underlying3 hy12
  obtain ⟨x13, e13, rfl, wx13⟩ := DataW.trod_int Try.underlying3 hy13
  obtain ⟨x2, rfl, rfl, rfl, wx2⟩ := open_int Try.underlying5 (hval 2 5 v2 rfl rfl) h2
  simp at e00 e01 e10 e11 e12 e13
  subst e00 e01 e10 e11 e12 e13
  clear hA0 hval0
  simp only [List.append_nil] at hW'
  refine (lineWrong_all x00 x01 x10 x11 x12 x13 x2 W (bounds_u8 wx2).1 (bounds_u8 wx2).2).mono fun e W' ⟨he, hb⟩ => ?_
  subst he
  exact ⟨_, rfl, law_post Try.laidOut (by decide +kernel) rfl hW' hAk rfl rfl Try.underlying4 hb⟩

theorem lineWrong_holds : Rows.LineWrongSaid :=
  OpenClaim.holds_of_wide 8 Try.f8 rfl rfl rfl rfl rfl rfl rfl ⟨rfl, rfl, rfl, rfl, rfl⟩ rfl rfl rfl rfl rfl (by kernel_rfl) Try.func8 (by kernel_rfl)
    (of_decide_eq_true (by kernel_rfl)) (by unfold Func.isWrapper; first | (rw [if_pos (by decide +kernel)]; kernel_rfl) | (rw [if_neg (by decide +kernel)]; exact ⟨rfl, rfl⟩))
    (fun os started H enc _ => lineWrong_lifted os started H enc)

end Go.Proofs.Ytcdecglbkcllaaa
