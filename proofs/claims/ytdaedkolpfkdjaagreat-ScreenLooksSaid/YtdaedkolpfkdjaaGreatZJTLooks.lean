/-
  The law ScreenLooks answers true at every input.
-/
import Derived.Test.YtdaedkolpfkdjaaGreatZJTLooksW
import Derived.Test.YtdaedkolpfkdjaaGreatZJ27
section
namespace Go.Proofs.YtdaedkolpfkdjaaGreat
open Go.ChangeShapes Go.WideShapes Go.ChangeAt Go.RowKit Go.Joins

set_option maxRecDepth 100000 in
theorem screenLooks_lifted (os : Os) (started : os.Started) (H : Type) (enc : TypeId × Value → H) :
    ReturnsInHanded {} Tryz.checked os 9 .any (Rows.screenLooksSpec.pre6 enc Tryz.prog Tryz.f9 Rows.screenLooksRow.domain false) (Rows.screenLooksSpec.post enc Tryz.prog Tryz.f9 false true false false) := by
  refine returnsInHanded_of_change (C := Tryz.checked) Tryz.own started (by kernel_rfl) Tryz.func9
    (ChangeSpec.witness6 (enc := enc) (C := Tryz.checked) false ⟨#[], #[.slice none 0 0, .int .i64 0, .int .i64 0], []⟩ 8 (by kernel_rfl) (by kernel_rfl) (by kernel_rfl) (by kernel_rfl)) ?_
  intro W base args ds gs before hval0 hW hcnd _
  have hval : ∀ (j : Nat) t v, Tryz.f9.params[j]? = some t → args[j]? = some v → Value.okWide Tryz.prog W .any base t v := hval0
  have hW' := hW
  obtain ⟨p, q, hA0, hV, rfl, hfz, hnd⟩ := hW
  have hA : DataW.TrodAll enc Tryz.prog W 0 (fun _ => true) true Tryz.f9.params.toList args.toList ds p := hA0
  have hAk := hA
  obtain ⟨rfl, rfl⟩ := trodVars_none hV
  rw [List.append_nil] at hW'
  rw [Tryz.params9] at hA hval
  obtain ⟨v0, v1, v2, d0, d1, d2, p0, p1, p2, rfl, rfl, rfl, h0, h1, h2⟩ := trodAll_three hA
  obtain ⟨I0, ni0, ci0, rfl⟩ := okWide_slice Tryz.underlying64 (hval 0 64 v0 rfl rfl)
  obtain ⟨fu0, hf0⟩ := h0
  obtain ⟨A, n, c, ps, eI0, hn, hps, hpok⟩ := open_wins34 (show DataW.trod _ _ _ _ _ _ fu0 _ [Value.slice I0 ni0 ci0] = some _ from hf0)
  injection eI0 with eI0 eJ0 eK0
  subst eI0 eJ0 eK0
  obtain ⟨x1, rfl, rfl, rfl, wx1⟩ := open_int Tryz.underlying3 (hval 1 3 v1 rfl rfl) h1
  obtain ⟨x2, rfl, rfl, rfl, wx2⟩ := open_int Tryz.underlying3 (hval 2 3 v2 rfl rfl) h2
  clear hA0 hval0
  refine (screenLooks_any I0 ni0 ci0 ps x1 x2 W hn hps hpok).mono fun e W' ⟨he, hb⟩ => ?_
  subst he
  exact ⟨_, rfl, law_post Tryz.laidOut (by decide +kernel) rfl hW' hAk rfl rfl Tryz.underlying4 hb⟩

set_option maxRecDepth 100000 in
set_option maxHeartbeats 100000000 in
/-- the closed facts, limb by limb (all at once they are too much for one declaration). -/
theorem screenLooks_facts : joinedFacts Tryz.pinned.checked.prog 9 Tryz.f9 Rows.screenLooksSpec Rows.screenLooksRow = true := by
  unfold joinedFacts
  repeat' with_reducible apply and_i
  all_goals (as_aux_lemma => kernel_rfl)
set_option maxHeartbeats 100000000 in
theorem screenLooks_holds : Rows.ScreenLooksSaid :=
  OpenClaim.holds_of_wide 9 Tryz.f9 rfl rfl rfl rfl rfl rfl rfl ⟨rfl, rfl, rfl, rfl, rfl⟩ rfl rfl rfl rfl rfl (by as_aux_lemma => kernel_rfl) Tryz.func9 screenLooks_facts
    (of_decide_eq_true (by as_aux_lemma => kernel_rfl)) (by as_aux_lemma => unfold Func.isWrapper; first | (rw [if_pos (by decide +kernel)]; kernel_rfl) | (rw [if_neg (by decide +kernel)]; exact ⟨rfl, rfl⟩))
    (fun os started H enc _ => screenLooks_lifted os started H enc)

end Go.Proofs.YtdaedkolpfkdjaaGreat
end
