/-
  The law ScreenUnmapped answers true at every input.
-/
import Derived.Test.YtdaedkolpfkdjaaGreatZVTUnmapW
import Derived.Test.YtdaedkolpfkdjaaGreatZV28
section
namespace Go.Proofs.YtdaedkolpfkdjaaGreat
open Go.ChangeShapes Go.WideShapes Go.ChangeAt Go.RowKit Go.Joins

set_option maxRecDepth 100000 in
theorem screenUnmapped_lifted (os : Os) (started : os.Started) (H : Type) (enc : TypeId × Value → H) :
    ReturnsInHanded {} Tryz.checked os 6 .any (Rows.screenUnmappedSpec.pre6 enc Tryz.prog Tryz.f6 Rows.screenUnmappedRow.domain false) (Rows.screenUnmappedSpec.post enc Tryz.prog Tryz.f6 false true false false) := by
  refine returnsInHanded_of_change_sized (C := Tryz.checked) Tryz.own started (by kernel_rfl) Tryz.func6
    (ChangeSpec.witness6 (enc := enc) (C := Tryz.checked) false ⟨#[], #[.slice none 0 0, .agg #[.int .u8 0, .int .i8 0, .int .i8 0, .int .u8 0, .int .u8 0, .bool false, .bool false, .slice none 0 0, .int .u8 0], .agg #[.int .u8 0, .int .i8 0, .int .i8 0, .int .u8 0, .int .u8 0, .bool false, .bool false, .slice none 0 0, .int .u8 0]], []⟩ 8 (by kernel_rfl) (by kernel_rfl) (by kernel_rfl) (by kernel_rfl)) ?_
  intro W base args ds gs before hval0 hW hcnd hsz0 _
  have hval : ∀ (j : Nat) t v, Tryz.f6.params[j]? = some t → args[j]? = some v → Value.okWide Tryz.prog W .any base t v := hval0
  have hsz : (DataW.weightsEach Tryz.prog (Tryz.f6.params.toList ++ Rows.screenUnmappedSpec.plain.varTypes Tryz.prog) (ds ++ gs)).all (· ≤ reachBytes) = true := hsz0
  have hW' := hW
  obtain ⟨pl, ql, hA0, hV, rfl, hfz, hnd⟩ := hW
  have hA : DataW.TrodAll enc Tryz.prog W 0 (fun _ => true) true Tryz.f6.params.toList args.toList ds pl := hA0
  have hAk := hA
  obtain ⟨rfl, rfl⟩ := trodVars_none hV
  rw [List.append_nil] at hW'
  rw [Tryz.params6] at hA hval hsz
  obtain ⟨v0, v1, v2, d0, d1, d2, p0, p1, p2, rfl, rfl, rfl, h0, h1, h2⟩ := trodAll_three hA
  obtain ⟨I0, ni0, ci0, rfl⟩ := okWide_slice Tryz.underlying64 (hval 0 64 v0 rfl rfl)
  obtain ⟨fu0, hf0⟩ := h0
  obtain ⟨A, n, c, ps, eI0, hn, hps, hpok⟩ := open_wins34 (show DataW.trod _ _ _ _ _ _ fu0 _ [Value.slice I0 ni0 ci0] = some _ from hf0)
  injection eI0 with eI0 eJ0 eK0
  subst eI0 eJ0 eK0
  obtain ⟨p, rfl, hpo, hpr⟩ := win_arg (hval 1 85 v1 rfl rfl) h1
  obtain ⟨q, rfl, hqo, hqr⟩ := win_arg (hval 2 85 v2 rfl rfl) h2
  have hs40 := wins_sized ⟨fu0, hf0⟩ hsz rfl rfl
  clear hA0 hval0
  refine (screenUnmapped_any I0 ni0 ci0 ps p q W hn hs40 hps hpok hpo hqo hpr hqr).mono fun e W' ⟨he, hb⟩ => ?_
  subst he
  exact ⟨_, rfl, law_post Tryz.laidOut (by decide +kernel) rfl hW' hAk rfl rfl Tryz.underlying4 hb⟩

set_option maxRecDepth 100000 in
set_option maxHeartbeats 100000000 in
/-- the closed facts, limb by limb (all at once they are too much for one declaration). -/
theorem screenUnmapped_facts : joinedFacts Tryz.pinned.checked.prog 6 Tryz.f6 Rows.screenUnmappedSpec Rows.screenUnmappedRow = true := by
  unfold joinedFacts
  repeat' with_reducible apply and_i
  all_goals (as_aux_lemma => kernel_rfl)
set_option maxHeartbeats 100000000 in
theorem screenUnmapped_holds : Rows.ScreenUnmappedSaid :=
  OpenClaim.holds_of_wide 6 Tryz.f6 rfl rfl rfl rfl rfl rfl rfl ⟨rfl, rfl, rfl, rfl, rfl⟩ rfl rfl rfl rfl rfl (by as_aux_lemma => kernel_rfl) Tryz.func6 screenUnmapped_facts
    (of_decide_eq_true (by as_aux_lemma => kernel_rfl)) (by as_aux_lemma => unfold Func.isWrapper; first | (rw [if_pos (by decide +kernel)]; kernel_rfl) | (rw [if_neg (by decide +kernel)]; exact ⟨rfl, rfl⟩))
    (fun os started H enc _ => screenUnmapped_lifted os started H enc)

end Go.Proofs.YtdaedkolpfkdjaaGreat
end
