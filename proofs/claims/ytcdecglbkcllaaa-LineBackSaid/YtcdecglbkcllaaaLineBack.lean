/-
  The law LineBack is true of every input: whatever two points are handed in, the call returns true, and each argument reads behind it as it read before. No condition.
-/
import Derived.Test.YtcdecglbkcllaaaLawKit
import Derived.Test.YtcdecglbkcllaaaLineWalkH
namespace Go.Proofs.Ytcdecglbkcllaaa
open Go.ChangeShapes Go.WideShapes Go.ChangeAt Go.RowKit Go.Joins

theorem Try.cellsPt : Try.prog.cellsOf 23 = 2 := by kernel_rfl

theorem lineBack_all (ax ay bx by' : Int) (w : World) :
    Calls Try.prog 4 #[.agg #[.int .i64 ax, .int .i64 ay], .agg #[.int .i64 bx, .int .i64 by']] w fun e w' => e = .returned (.bool true) ∧ Below w.heap.size w w' := by
  cases h : (rightB ax ay && rightB bx by')
  · exact lineBack_err ax ay bx by' 1 w (.inl rfl) (fun w => pixels_range ax ay bx by' w h) (fun w => pixels_range bx by' ax ay w (by rw [Bool.and_comm]; exact h))
  · rw [Bool.and_eq_true] at h
    by_cases h3 : stpI ax ay bx by' ≤ 65535
    · exact lineBack_any ax ay bx by' w h.1 h.2 _ rfl (by unfold stpI at h3; omega)
    · refine lineBack_err ax ay bx by' 4 w (.inr rfl) (fun w => pixels_long ax ay bx by' w h.1 h.2 (by omega)) (fun w => pixels_long bx by' ax ay w h.2 h.1 ?_)
      unfold stpI at h3 ⊢
      rw [stp_sym]
      omega

set_option maxRecDepth 100000 in
theorem lineBack_lifted (os : Os) (started : os.Started) (H : Type) (enc : TypeId × Value → H) :
    ReturnsInHanded {} Try.checked os 4 .any (Rows.lineBackSpec.pre6 enc Try.prog Try.f4 Rows.lineBackRow.domain false) (Rows.lineBackSpec.post enc Try.prog Try.f4 false true false false) := by
  refine returnsInHanded_of_change (C := Try.checked) Try.own started (by kernel_rfl) Try.func4
    (ChangeSpec.witness6 (enc := enc) (C := Try.checked) false ⟨#[], #[.agg #[.int .i64 0, .int .i64 0], .agg #[.int .i64 0, .int .i64 0]], []⟩ 8 (by kernel_rfl) (by kernel_rfl) (by kernel_rfl) (by kernel_rfl)) ?_
  intro W base args ds gs before hval0 hW hcnd _
  have hval : ∀ (j : Nat) t v, Try.f4.params[j]? = some t → args[j]? = some v → Value.okWide Try.prog W .any base t v := hval0
  have hW' := hW
  obtain ⟨p, q, hA0, hV, rfl, hfz, hnd⟩ := hW
  have hA : DataW.TrodAll enc Try.prog W 0 (fun _ => true) true Try.f4.params.toList args.toList ds p := hA0
  have hAk := hA
  obtain ⟨rfl, rfl⟩ := trodVars_none hV
  rw [Try.params4] at hA hval
  obtain ⟨v0, v1, d0, d1, p0, p1, rfl, rfl, rfl, h0, h1⟩ := trodAll_two hA
  obtain ⟨c00, c01, y00, y01, m0, rfl, rfl, rfl, hy00, hy01⟩ := open_agg2 Try.underlying23 (by kernel_rfl) Try.cellsPt (hval 0 23 v0 rfl rfl) h0
  obtain ⟨x00, e00, rfl, _⟩ := DataW.trod_int Try.underlying3 hy00
  obtain ⟨x01, e01, rfl, _⟩ := DataW.trod_int Try.underlying3 hy01
  obtain ⟨c10, c11, y10, y11, m1, rfl, rfl, rfl, hy10, hy11⟩ := open_agg2 Try.underlying23 (by kernel_rfl) Try.cellsPt (hval 1 23 v1 rfl rfl) h1
  obtain ⟨x10, e10, rfl, _⟩ := DataW.trod_int Try.underlying3 hy10
  obtain ⟨x11, e11, rfl, _⟩ := DataW.trod_int Try.underlying3 hy11
  simp at e00 e01 e10 e11
  subst e00 e01 e10 e11
  clear hA0 hval0
  simp only [List.append_nil] at hW'
  refine (lineBack_all x00 x01 x10 x11 W).mono fun e W' ⟨he, hb⟩ => ?_
  subst he
  exact ⟨_, rfl, law_post Try.laidOut (by decide +kernel) rfl hW' hAk rfl rfl Try.underlying4 hb⟩

theorem lineBack_holds : Rows.LineBackSaid :=
  OpenClaim.holds_of_wide 4 Try.f4 rfl rfl rfl rfl rfl rfl rfl ⟨rfl, rfl, rfl, rfl, rfl⟩ rfl rfl rfl rfl rfl (by kernel_rfl) Try.func4 (by kernel_rfl)
    (of_decide_eq_true (by kernel_rfl)) (by unfold Func.isWrapper; first | (rw [if_pos (by decide +kernel)]; kernel_rfl) | (rw [if_neg (by decide +kernel)]; exact ⟨rfl, rfl⟩))
    (fun os started H enc _ => lineBack_lifted os started H enc)

end Go.Proofs.Ytcdecglbkcllaaa
