/-
  The law LinePixels is true of every input: whatever two points and whatever number are handed in, the call returns true, and each argument reads behind it as it read before. No condition.
-/
import Derived.Test.YtcdecglbkcllaaaLawKit
import Derived.Test.YtcdecglbkcllaaaLineWalkG
namespace Go.Proofs.Ytcdecglbkcllaaa
open Go.ChangeShapes Go.WideShapes Go.ChangeAt Go.RowKit Go.Joins

theorem Try.cellsPt : Try.prog.cellsOf 23 = 2 := by kernel_rfl

theorem linePixels_all (ax ay bx by' k : Int) (w : World) (hk0 : 0 ≤ k) (hk1 : k ≤ 65535) :
    Calls Try.prog 3 #[.agg #[.int .i64 ax, .int .i64 ay], .agg #[.int .i64 bx, .int .i64 by'], .int .u16 k] w fun e w' => e = .returned (.bool true) ∧ Below w.heap.size w w' := by
  cases h : (rightB ax ay && rightB bx by')
  · exact linePixels_range ax ay bx by' k w h
  · rw [Bool.and_eq_true] at h
    by_cases h3 : stpI ax ay bx by' ≤ 65535
    · exact linePixels_any ax ay bx by' k w h.1 h.2 h3 hk0 hk1
    · exact linePixels_long ax ay bx by' k w h.1 h.2 (by omega)

set_option maxRecDepth 100000 in
theorem linePixels_lifted (os : Os) (started : os.Started) (H : Type) (enc : TypeId × Value → H) :
    ReturnsInHanded {} Try.checked os 3 .any (Rows.linePixelsSpec.pre6 enc Try.prog Try.f3 Rows.linePixelsRow.domain false) (Rows.linePixelsSpec.post enc Try.prog Try.f3 false true false false) := by
  refine returnsInHanded_of_change (C := Try.checked) Try.own started (by kernel_rfl) Try.func3
    (ChangeSpec.witness6 (enc := enc) (C := Try.checked) false ⟨#[], #[.agg #[.int .i64 0, .int .i64 0], .agg #[.int .i64 0, .int .i64 0], .int .u16 0], []⟩ 8 (by kernel_rfl) (by kernel_rfl) (by kernel_rfl) (by kernel_rfl)) ?_
  intro W base args ds gs before hval0 hW hcnd _
  have hval : ∀ (j : Nat) t v, Try.f3.params[j]? = some t → args[j]? = some v → Value.okWide Try.prog W .any base t v := hval0
  have hW' := hW
  obtain ⟨p, q, hA0, hV, rfl, hfz, hnd⟩ := hW
  have hA : DataW.TrodAll enc Try.prog W 0 (fun _ => true) true Try.f3.params.toList args.toList ds p := hA0
  have hAk := hA
  obtain ⟨rfl, rfl⟩ := trodVars_none hV
  rw [Try.params3] at hA hval
  obtain ⟨v0, v1, v2, d0, d1, d2, p0, p1, p2, rfl, rfl, rfl, h0, h1, h2⟩ := trodAll_three hA
  obtain ⟨c0, c1, y0, y1, m, rfl, rfl, rfl, hy0, hy1⟩ := open_agg2 Try.underlying23 (by kernel_rfl) Try.cellsPt (hval 0 23 v0 rfl rfl) h0
  obtain ⟨ax, e0, rfl, _⟩ := DataW.trod_int Try.underlying3 hy0
  obtain ⟨ay, e1, rfl, _⟩ := DataW.trod_int Try.underlying3 hy1
  obtain ⟨c2, c3, y2, y3, m', rfl, rfl, rfl, hy2, hy3⟩ := open_agg2 Try.underlying23 (by kernel_rfl) Try.cellsPt (hval 1 23 v1 rfl rfl) h1
  obtain ⟨bx, e2, rfl, _⟩ := DataW.trod_int Try.underlying3 hy2
  obtain ⟨by', e3, rfl, _⟩ := DataW.trod_int Try.underlying3 hy3
  obtain ⟨k, rfl, rfl, rfl, wk⟩ := open_int Try.underlying24 (hval 2 24 v2 rfl rfl) h2
  simp at e0 e1 e2 e3
  subst e0 e1 e2 e3
  have hk := bounds_u16 wk
  clear hA0 hval0
  simp only [List.append_nil] at hW'
  refine (linePixels_all ax ay bx by' k W hk.1 hk.2).mono fun e W' ⟨he, hb⟩ => ?_
  subst he
  exact ⟨_, rfl, law_post Try.laidOut (by decide +kernel) rfl hW' hAk rfl rfl Try.underlying4 hb⟩

theorem linePixels_holds : Rows.LinePixelsSaid :=
  OpenClaim.holds_of_wide 3 Try.f3 rfl rfl rfl rfl rfl rfl rfl ⟨rfl, rfl, rfl, rfl, rfl⟩ rfl rfl rfl rfl rfl (by kernel_rfl) Try.func3 (by kernel_rfl)
    (of_decide_eq_true (by kernel_rfl)) (by unfold Func.isWrapper; first | (rw [if_pos (by decide +kernel)]; kernel_rfl) | (rw [if_neg (by decide +kernel)]; exact ⟨rfl, rfl⟩))
    (fun os started H enc _ => linePixels_lifted os started H enc)

end Go.Proofs.Ytcdecglbkcllaaa
