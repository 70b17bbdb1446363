/-
  The law ExposeOne answers true at every input.
-/
import Derived.Test.YtbkkecijcijhdaaGreatZDTExpOneW
import Derived.Test.YtbkkecijcijhdaaGreatZD30
section
namespace Go.Proofs.YtbkkecijcijhdaaGreat
open Go.ChangeShapes Go.WideShapes Go.ChangeAt Go.RowKit Go.Joins

set_option maxRecDepth 100000 in
theorem exposeOne_lifted (os : Os) (started : os.Started) (H : Type) (enc : TypeId × Value → H) :
    ReturnsInHanded {} Tryz.checked os 9 .any (Rows.exposeOneSpec.pre6 enc Tryz.prog Tryz.f9 Rows.exposeOneRow.domain false) (Rows.exposeOneSpec.post enc Tryz.prog Tryz.f9 false true false false) := by
  refine returnsInHanded_of_change (C := Tryz.checked) Tryz.own started (by kernel_rfl) Tryz.func9
    (ChangeSpec.witness6 (enc := enc) (C := Tryz.checked) false ⟨#[], #[.slice none 0 0, .int .u8 0, .agg #[.int .i64 0, .int .i64 0, .bool false]], []⟩ 8 (by kernel_rfl) (by kernel_rfl) (by kernel_rfl) (by kernel_rfl)) ?_
  intro W base args ds gs before hval0 hW hcnd _
  have hval : ∀ (j : Nat) t v, Tryz.f9.params[j]? = some t → args[j]? = some v → Value.okWide Tryz.prog W .any base t v := hval0
  have hW' := hW
  obtain ⟨p, q, hA0, hV, rfl, hfz, hnd⟩ := hW
  have hA : DataW.TrodAll enc Tryz.prog W 0 (fun _ => true) true Tryz.f9.params.toList args.toList ds p := hA0
  have hAk := hA
  obtain ⟨rfl, rfl⟩ := trodVars_none hV
  rw [List.append_nil] at hW'
  rw [Tryz.params9] at hA hval
  obtain ⟨v0, v1, v2, d0, d1, d2, p0, p1, p2, rfl, rfl, rfl, h0, h1, h2⟩ := trodAll_three hA
  obtain ⟨x1, rfl, rfl, rfl, wx1⟩ := open_int Tryz.underlying5 (hval 1 5 v1 rfl rfl) h1
  obtain ⟨c20, c21, c22, y20, y21, y22, m2, rfl, rfl, rfl, hy20, hy21, hy22⟩ := open_agg3 Tryz.underlying88 (by kernel_rfl) Tryz.cellsShf (hval 2 88 v2 rfl rfl) h2
  obtain ⟨sx, e20, _, _⟩ := DataW.trod_int Tryz.underlying3 hy20
  obtain ⟨sy, e21, _, _⟩ := DataW.trod_int Tryz.underlying3 hy21
  obtain ⟨sf, e22, _⟩ := DataW.trod_bool Tryz.underlying4 hy22
  simp at e20 e21 e22
  subst e20 e21 e22
  obtain ⟨I0, ni0, ci0, rfl⟩ := okWide_slice Tryz.underlying86 (hval 0 86 v0 rfl rfl)
  obtain ⟨fu0, hf0⟩ := h0
  obtain ⟨A0, n0, c0, xs, eI0, hn0, hxs, hxok⟩ := open_wins32 (show DataW.trod _ _ _ _ _ _ fu0 _ [Value.slice I0 ni0 ci0] = some _ from hf0)
  injection eI0 with eI0 eJ0 eK0
  subst eI0 eJ0 eK0
  clear hA0 hval0
  refine (exposeOne_any I0 ni0 ci0 xs x1 sx sy sf W hn0 hxs hxok (bounds_u8 wx1)).mono fun e W' ⟨he, hb⟩ => ?_
  subst he
  exact ⟨_, rfl, law_post Tryz.laidOut (by decide +kernel) rfl hW' hAk rfl rfl Tryz.underlying4 hb⟩

set_option maxRecDepth 100000 in
set_option maxHeartbeats 100000000 in
/-- the closed facts, limb by limb (all at once they are too much for one declaration). -/
theorem exposeOne_facts : joinedFacts Tryz.pinned.checked.prog 9 Tryz.f9 Rows.exposeOneSpec Rows.exposeOneRow = true := by
  unfold joinedFacts
  repeat' with_reducible apply and_i
  all_goals (as_aux_lemma => kernel_rfl)
set_option maxHeartbeats 100000000 in
theorem exposeOne_holds : Rows.ExposeOneSaid :=
  OpenClaim.holds_of_wide 9 Tryz.f9 rfl rfl rfl rfl rfl rfl rfl ⟨rfl, rfl, rfl, rfl, rfl⟩ rfl rfl rfl rfl rfl (by as_aux_lemma => kernel_rfl) Tryz.func9 exposeOne_facts
    (of_decide_eq_true (by as_aux_lemma => kernel_rfl)) (by as_aux_lemma => unfold Func.isWrapper; first | (rw [if_pos (by decide +kernel)]; kernel_rfl) | (rw [if_neg (by decide +kernel)]; exact ⟨rfl, rfl⟩))
    (fun os started H enc _ => exposeOne_lifted os started H enc)

end Go.Proofs.YtbkkecijcijhdaaGreat
end
