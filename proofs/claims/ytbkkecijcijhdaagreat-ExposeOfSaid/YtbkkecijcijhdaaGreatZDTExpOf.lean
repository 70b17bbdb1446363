/-
  The law ExposeOf answers true at every input.
-/
import Derived.Test.YtbkkecijcijhdaaGreatZDTExpOfW
import Derived.Test.YtbkkecijcijhdaaGreatZD30
section
namespace Go.Proofs.YtbkkecijcijhdaaGreat
open Go.ChangeShapes Go.WideShapes Go.ChangeAt Go.RowKit Go.Joins

set_option maxRecDepth 100000 in
theorem exposeOf_lifted (os : Os) (started : os.Started) (H : Type) (enc : TypeId × Value → H) :
    ReturnsInHanded {} Tryz.checked os 12 .any (Rows.exposeOfSpec.pre6 enc Tryz.prog Tryz.f12 Rows.exposeOfRow.domain false) (Rows.exposeOfSpec.post enc Tryz.prog Tryz.f12 false true false false) := by
  refine returnsInHanded_of_change (C := Tryz.checked) Tryz.own started (by kernel_rfl) Tryz.func12
    (ChangeSpec.witness6 (enc := enc) (C := Tryz.checked) false ⟨#[], #[.slice none 0 0, .slice none 0 0], []⟩ 8 (by kernel_rfl) (by kernel_rfl) (by kernel_rfl) (by kernel_rfl)) ?_
  intro W base args ds gs before hval0 hW hcnd _
  have hval : ∀ (j : Nat) t v, Tryz.f12.params[j]? = some t → args[j]? = some v → Value.okWide Tryz.prog W .any base t v := hval0
  have hW' := hW
  obtain ⟨p, q, hA0, hV, rfl, hfz, hnd⟩ := hW
  have hA : DataW.TrodAll enc Tryz.prog W 0 (fun _ => true) true Tryz.f12.params.toList args.toList ds p := hA0
  have hAk := hA
  obtain ⟨rfl, rfl⟩ := trodVars_none hV
  rw [List.append_nil] at hW'
  rw [Tryz.params12] at hA hval
  obtain ⟨v0, v1, d0, d1, p0, p1, rfl, rfl, rfl, h0, h1⟩ := trodAll_two hA
  obtain ⟨I0, ni0, ci0, rfl⟩ := okWide_slice Tryz.underlying86 (hval 0 86 v0 rfl rfl)
  obtain ⟨fu0, hf0⟩ := h0
  obtain ⟨A0, n0, c0, xs, eI0, hn0, hxs, hxok⟩ := open_wins32 (show DataW.trod _ _ _ _ _ _ fu0 _ [Value.slice I0 ni0 ci0] = some _ from hf0)
  injection eI0 with eI0 eJ0 eK0
  subst eI0 eJ0 eK0
  obtain ⟨I1, ni1, ci1, rfl⟩ := okWide_slice Tryz.underlying110 (hval 1 110 v1 rfl rfl)
  obtain ⟨fu1, hf1⟩ := h1
  obtain ⟨A1, n1, c1, ss, eI1, hn1, hss⟩ := open_shifts (show DataW.trod _ _ _ _ _ _ fu1 _ [Value.slice I1 ni1 ci1] = some _ from hf1)
  injection eI1 with eI1 eJ1 eK1
  subst eI1 eJ1 eK1
  clear hA0 hval0
  refine (exposeOf_any I0 ni0 ci0 xs I1 ni1 ci1 ss W hn0 hxs hxok hn1 hss).mono fun e W' ⟨he, hb⟩ => ?_
  subst he
  exact ⟨_, rfl, law_post Tryz.laidOut (by decide +kernel) rfl hW' hAk rfl rfl Tryz.underlying4 hb⟩

set_option maxRecDepth 100000 in
set_option maxHeartbeats 100000000 in
/-- the closed facts, limb by limb (all at once they are too much for one declaration). -/
theorem exposeOf_facts : joinedFacts Tryz.pinned.checked.prog 12 Tryz.f12 Rows.exposeOfSpec Rows.exposeOfRow = true := by
  unfold joinedFacts
  repeat' with_reducible apply and_i
  all_goals (as_aux_lemma => kernel_rfl)
set_option maxHeartbeats 100000000 in
theorem exposeOf_holds : Rows.ExposeOfSaid :=
  OpenClaim.holds_of_wide 12 Tryz.f12 rfl rfl rfl rfl rfl rfl rfl ⟨rfl, rfl, rfl, rfl, rfl⟩ rfl rfl rfl rfl rfl (by as_aux_lemma => kernel_rfl) Tryz.func12 exposeOf_facts
    (of_decide_eq_true (by as_aux_lemma => kernel_rfl)) (by as_aux_lemma => unfold Func.isWrapper; first | (rw [if_pos (by decide +kernel)]; kernel_rfl) | (rw [if_neg (by decide +kernel)]; exact ⟨rfl, rfl⟩))
    (fun os started H enc _ => exposeOf_lifted os started H enc)

end Go.Proofs.YtbkkecijcijhdaaGreat
end
