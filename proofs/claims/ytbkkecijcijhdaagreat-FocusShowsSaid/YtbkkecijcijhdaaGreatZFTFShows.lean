/-
  The law FocusShows answers true at every input.
-/
import Derived.Test.YtbkkecijcijhdaaGreatZFTFShowsW
import Derived.Test.YtbkkecijcijhdaaGreatZFTRow37b
section
namespace Go.Proofs.YtbkkecijcijhdaaGreat
open Go.ChangeShapes Go.WideShapes Go.ChangeAt Go.RowKit Go.Joins

set_option maxRecDepth 100000 in
theorem focusShows_lifted (os : Os) (started : os.Started) (H : Type) (enc : TypeId × Value → H) :
    ReturnsInHanded {} Tryz.checked os 18 .any (Rows.focusShowsSpec.pre6 enc Tryz.prog Tryz.f18 Rows.focusShowsRow.domain false) (Rows.focusShowsSpec.post enc Tryz.prog Tryz.f18 false true false false) := by
  refine returnsInHanded_of_change (C := Tryz.checked) Tryz.own started (by kernel_rfl) Tryz.func18
    (ChangeSpec.witness6 (enc := enc) (C := Tryz.checked) false ⟨#[], #[.slice none 0 0, .slice none 0 0, .slice none 0 0, .slice none 0 0], []⟩ 8 (by kernel_rfl) (by kernel_rfl) (by kernel_rfl) (by kernel_rfl)) ?_
  intro W base args ds gs before hval0 hW hcnd _
  have hval : ∀ (j : Nat) t v, Tryz.f18.params[j]? = some t → args[j]? = some v → Value.okWide Tryz.prog W .any base t v := hval0
  have hW' := hW
  obtain ⟨p, q, hA0, hV, rfl, hfz, hnd⟩ := hW
  have hA : DataW.TrodAll enc Tryz.prog W 0 (fun _ => true) true Tryz.f18.params.toList args.toList ds p := hA0
  have hAk := hA
  obtain ⟨rfl, rfl⟩ := trodVars_none hV
  rw [List.append_nil] at hW'
  rw [Tryz.params18] at hA hval
  obtain ⟨v0, v1, v2, v3, d0, d1, d2, d3, p0, p1, p2, p3, rfl, rfl, rfl, h0, h1, h2, h3⟩ := trodAll_four hA
  obtain ⟨I0, ni0, ci0, rfl⟩ := okWide_slice Tryz.underlying141 (hval 0 141 v0 rfl rfl)
  obtain ⟨fu, hf⟩ := h0
  obtain ⟨A, n, c, L, eI, hn, hLr, hLq⟩ := open_wls (show DataW.trod _ _ _ _ _ _ fu _ [Value.slice I0 ni0 ci0] = some _ from hf)
  injection eI with eI eI2 eI3
  subst eI eI2 eI3
  obtain ⟨I1, ni1, ci1, rfl⟩ := okWide_slice Tryz.underlying142 (hval 1 142 v1 rfl rfl)
  obtain ⟨fu1, hf1⟩ := h1
  obtain ⟨A1, n1, c1, IL, eI1, hn1, hI, hIq⟩ := open_u8s37 (show DataW.trod _ _ _ _ _ _ fu1 _ [Value.slice I1 ni1 ci1] = some _ from hf1)
  injection eI1 with eI1 eI12 eI13
  subst eI1 eI12 eI13
  obtain ⟨I2, ni2, ci2, rfl⟩ := okWide_slice Tryz.underlying46 (hval 2 46 v2 rfl rfl)
  obtain ⟨fu2, hf2⟩ := h2
  obtain ⟨A2, n2, c2, RL, eI2, hn2, hR⟩ := open_i64s37 (show DataW.trod _ _ _ _ _ _ fu2 _ [Value.slice I2 ni2 ci2] = some _ from hf2)
  injection eI2 with eI2 eI22 eI23
  subst eI2 eI22 eI23
  obtain ⟨I3, ni3, ci3, rfl⟩ := okWide_slice Tryz.underlying143 (hval 3 143 v3 rfl rfl)
  obtain ⟨fu3, hf3⟩ := h3
  obtain ⟨A3, n3, c3, TL, eI3, hn3, hT, hTq⟩ := open_u32s37 (show DataW.trod _ _ _ _ _ _ fu3 _ [Value.slice I3 ni3 ci3] = some _ from hf3)
  injection eI3 with eI3 eI32 eI33
  subst eI3 eI32 eI33
  clear hA0 hval0
  refine (focusShows_any I0 I1 I2 I3 ni0 ci0 ni1 ci1 ni2 ci2 ni3 ci3 L IL RL TL W hn hLr hLq hI hn1 hIq hR hn2 hT hn3 hTq).mono fun e W' ⟨he, hb⟩ => ?_
  subst he
  exact ⟨_, rfl, law_post Tryz.laidOut (by decide +kernel) rfl hW' hAk rfl rfl Tryz.underlying4 hb⟩

set_option maxRecDepth 100000 in
set_option maxHeartbeats 100000000 in
/-- the closed facts, limb by limb (all at once they are too much for one declaration). -/
theorem focusShows_facts : joinedFacts Tryz.pinned.checked.prog 18 Tryz.f18 Rows.focusShowsSpec Rows.focusShowsRow = true := by
  unfold joinedFacts
  repeat' with_reducible apply and_i
  all_goals (as_aux_lemma => kernel_rfl)
set_option maxHeartbeats 100000000 in
theorem focusShows_holds : Rows.FocusShowsSaid :=
  OpenClaim.holds_of_wide 18 Tryz.f18 rfl rfl rfl rfl rfl rfl rfl ⟨rfl, rfl, rfl, rfl, rfl⟩ rfl rfl rfl rfl rfl (by as_aux_lemma => kernel_rfl) Tryz.func18 focusShows_facts
    (of_decide_eq_true (by as_aux_lemma => kernel_rfl)) (by as_aux_lemma => unfold Func.isWrapper; first | (rw [if_pos (by decide +kernel)]; kernel_rfl) | (rw [if_neg (by decide +kernel)]; exact ⟨rfl, rfl⟩))
    (fun os started H enc _ => focusShows_lifted os started H enc)

end Go.Proofs.YtbkkecijcijhdaaGreat
end
