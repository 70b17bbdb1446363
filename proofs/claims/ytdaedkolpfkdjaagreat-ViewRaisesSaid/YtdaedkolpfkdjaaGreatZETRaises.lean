/-
  The law ViewRaises answers true at every input.
-/
import Derived.Test.YtdaedkolpfkdjaaGreatZETRaiW
import Derived.Test.YtdaedkolpfkdjaaGreatZE30
section
namespace Go.Proofs.YtdaedkolpfkdjaaGreat
open Go.ChangeShapes Go.WideShapes Go.ChangeAt Go.RowKit Go.Joins

set_option maxRecDepth 100000 in
theorem viewRaises_lifted (os : Os) (started : os.Started) (H : Type) (enc : TypeId × Value → H) :
    ReturnsInHanded {} Tryz.checked os 4 .any (Rows.viewRaisesSpec.pre6 enc Tryz.prog Tryz.f4 Rows.viewRaisesRow.domain false) (Rows.viewRaisesSpec.post enc Tryz.prog Tryz.f4 false true false false) := by
  refine returnsInHanded_of_change (C := Tryz.checked) Tryz.own started (by kernel_rfl) Tryz.func4
    (ChangeSpec.witness6 (enc := enc) (C := Tryz.checked) false ⟨#[], #[.agg #[.int .u8 0, .int .u8 0, .slice none 0 0], .int .u8 0], []⟩ 8 (by kernel_rfl) (by kernel_rfl) (by kernel_rfl) (by kernel_rfl)) ?_
  intro W base args ds gs before hval0 hW hcnd _
  have hval : ∀ (j : Nat) t v, Tryz.f4.params[j]? = some t → args[j]? = some v → Value.okWide Tryz.prog W .any base t v := hval0
  have hW' := hW
  obtain ⟨p, q, hA0, hV, rfl, hfz, hnd⟩ := hW
  have hA : DataW.TrodAll enc Tryz.prog W 0 (fun _ => true) true Tryz.f4.params.toList args.toList ds p := hA0
  have hAk := hA
  obtain ⟨rfl, rfl⟩ := trodVars_none hV
  rw [List.append_nil] at hW'
  rw [Tryz.params4] at hA hval
  obtain ⟨v0, v1, d0, d1, p0, p1, rfl, rfl, rfl, h0, h1⟩ := trodAll_two hA
  obtain ⟨c00, c01, c02, y00, y01, y02, m0, rfl, rfl, rfl, hy00, hy01, hy02⟩ := open_agg3 Tryz.underlying24 (by kernel_rfl) Tryz.cellsSc (hval 0 24 v0 rfl rfl) h0
  obtain ⟨x00, e00, _, wx00⟩ := DataW.trod_int Tryz.underlying5 hy00
  obtain ⟨x01, e01, _, wx01⟩ := DataW.trod_int Tryz.underlying5 hy01
  obtain ⟨A, n, c, ps, e02, hn, hps, hpok⟩ := open_panes hy02
  simp at e00 e01
  subst e00 e01 e02
  obtain ⟨x1, rfl, rfl, rfl, wx1⟩ := open_int Tryz.underlying5 (hval 1 5 v1 rfl rfl) h1
  clear hA0 hval0
  refine (viewRaises_any x00 x01 x1 A n c ps W (bounds_u8 wx00) (bounds_u8 wx01) (bounds_u8 wx1) hn hps hpok).mono fun e W' ⟨he, hb⟩ => ?_
  subst he
  exact ⟨_, rfl, law_post Tryz.laidOut (by decide +kernel) rfl hW' hAk rfl rfl Tryz.underlying4 hb⟩

set_option maxRecDepth 100000 in
set_option maxHeartbeats 100000000 in
/-- the closed facts, limb by limb (all at once they are too much for one declaration). -/
theorem viewRaises_facts : joinedFacts Tryz.pinned.checked.prog 4 Tryz.f4 Rows.viewRaisesSpec Rows.viewRaisesRow = true := by
  unfold joinedFacts
  repeat' with_reducible apply and_i
  all_goals (as_aux_lemma => kernel_rfl)
set_option maxHeartbeats 100000000 in
theorem viewRaises_holds : Rows.ViewRaisesSaid :=
  OpenClaim.holds_of_wide 4 Tryz.f4 rfl rfl rfl rfl rfl rfl rfl ⟨rfl, rfl, rfl, rfl, rfl⟩ rfl rfl rfl rfl rfl (by as_aux_lemma => kernel_rfl) Tryz.func4 viewRaises_facts
    (of_decide_eq_true (by as_aux_lemma => kernel_rfl)) (by as_aux_lemma => unfold Func.isWrapper; first | (rw [if_pos (by decide +kernel)]; kernel_rfl) | (rw [if_neg (by decide +kernel)]; exact ⟨rfl, rfl⟩))
    (fun os started H enc _ => viewRaises_lifted os started H enc)

end Go.Proofs.YtdaedkolpfkdjaaGreat
end
