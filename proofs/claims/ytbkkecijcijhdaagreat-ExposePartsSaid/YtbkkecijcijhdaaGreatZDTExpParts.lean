/-
  The law ExposeParts answers true at every input.
-/
import Derived.Test.YtbkkecijcijhdaaGreatZDTExpPartsW
import Derived.Test.YtbkkecijcijhdaaGreatZD30
section
namespace Go.Proofs.YtbkkecijcijhdaaGreat
open Go.ChangeShapes Go.WideShapes Go.ChangeAt Go.RowKit Go.Joins

set_option maxRecDepth 100000 in
theorem exposeParts_lifted (os : Os) (started : os.Started) (H : Type) (enc : TypeId × Value → H) :
    ReturnsInHanded {} Tryz.checked os 11 .any (Rows.exposePartsSpec.pre6 enc Tryz.prog Tryz.f11 Rows.exposePartsRow.domain false) (Rows.exposePartsSpec.post enc Tryz.prog Tryz.f11 false true false false) := by
  refine returnsInHanded_of_change (C := Tryz.checked) Tryz.own started (by kernel_rfl) Tryz.func11
    (ChangeSpec.witness6 (enc := enc) (C := Tryz.checked) false ⟨#[], #[.slice none 0 0, .agg #[.int .i64 0, .int .i64 0, .bool false]], []⟩ 8 (by kernel_rfl) (by kernel_rfl) (by kernel_rfl) (by kernel_rfl)) ?_
  intro W base args ds gs before hval0 hW hcnd _
  have hval : ∀ (j : Nat) t v, Tryz.f11.params[j]? = some t → args[j]? = some v → Value.okWide Tryz.prog W .any base t v := hval0
  have hW' := hW
  obtain ⟨p, q, hA0, hV, rfl, hfz, hnd⟩ := hW
  have hA : DataW.TrodAll enc Tryz.prog W 0 (fun _ => true) true Tryz.f11.params.toList args.toList ds p := hA0
  have hAk := hA
  obtain ⟨rfl, rfl⟩ := trodVars_none hV
  rw [List.append_nil] at hW'
  rw [Tryz.params11] at hA hval
  obtain ⟨v0, v1, d0, d1, p0, p1, rfl, rfl, rfl, h0, h1⟩ := trodAll_two hA
  obtain ⟨c10, c11, c12, y10, y11, y12, m1, rfl, rfl, rfl, hy10, hy11, hy12⟩ := open_agg3 Tryz.underlying88 (by kernel_rfl) Tryz.cellsShf (hval 1 88 v1 rfl rfl) h1
  obtain ⟨sx, e10, _, _⟩ := DataW.trod_int Tryz.underlying3 hy10
  obtain ⟨sy, e11, _, _⟩ := DataW.trod_int Tryz.underlying3 hy11
  obtain ⟨sf, e12, _⟩ := DataW.trod_bool Tryz.underlying4 hy12
  simp at e10 e11 e12
  subst e10 e11 e12
  obtain ⟨I0, ni0, ci0, rfl⟩ := okWide_slice Tryz.underlying86 (hval 0 86 v0 rfl rfl)
  obtain ⟨fu0, hf0⟩ := h0
  obtain ⟨A0, n0, c0, xs, eI0, hn0, hxs, hxok⟩ := open_wins32 (show DataW.trod _ _ _ _ _ _ fu0 _ [Value.slice I0 ni0 ci0] = some _ from hf0)
  injection eI0 with eI0 eJ0 eK0
  subst eI0 eJ0 eK0
  clear hA0 hval0
  refine (exposeParts_any I0 ni0 ci0 xs sx sy sf W hn0 hxs hxok).mono fun e W' ⟨he, hb⟩ => ?_
  subst he
  exact ⟨_, rfl, law_post Tryz.laidOut (by decide +kernel) rfl hW' hAk rfl rfl Tryz.underlying4 hb⟩

set_option maxRecDepth 100000 in
set_option maxHeartbeats 100000000 in
/-- the closed facts, limb by limb (all at once they are too much for one declaration). -/
theorem exposeParts_facts : joinedFacts Tryz.pinned.checked.prog 11 Tryz.f11 Rows.exposePartsSpec Rows.exposePartsRow = true := by
  unfold joinedFacts
  repeat' with_reducible apply and_i
  all_goals (as_aux_lemma => kernel_rfl)
set_option maxHeartbeats 100000000 in
theorem exposeParts_holds : Rows.ExposePartsSaid :=
  OpenClaim.holds_of_wide 11 Tryz.f11 rfl rfl rfl rfl rfl rfl rfl ⟨rfl, rfl, rfl, rfl, rfl⟩ rfl rfl rfl rfl rfl (by as_aux_lemma => kernel_rfl) Tryz.func11 exposeParts_facts
    (of_decide_eq_true (by as_aux_lemma => kernel_rfl)) (by as_aux_lemma => unfold Func.isWrapper; first | (rw [if_pos (by decide +kernel)]; kernel_rfl) | (rw [if_neg (by decide +kernel)]; exact ⟨rfl, rfl⟩))
    (fun os started H enc _ => exposeParts_lifted os started H enc)

end Go.Proofs.YtbkkecijcijhdaaGreat
end
