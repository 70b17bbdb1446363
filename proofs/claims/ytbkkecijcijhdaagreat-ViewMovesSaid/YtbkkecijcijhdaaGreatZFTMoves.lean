/-
  The law ViewMoves answers true at every input.
-/
import Derived.Test.YtbkkecijcijhdaaGreatZFTMovesW
import Derived.Test.YtbkkecijcijhdaaGreatZFTRow31b
section
namespace Go.Proofs.YtbkkecijcijhdaaGreat
open Go.ChangeShapes Go.WideShapes Go.ChangeAt Go.RowKit Go.Joins

set_option maxRecDepth 100000 in
theorem viewMoves_lifted (os : Os) (started : os.Started) (H : Type) (enc : TypeId × Value → H) :
    ReturnsInHanded {} Tryz.checked os 4 .any (Rows.viewMovesSpec.pre6 enc Tryz.prog Tryz.f4 Rows.viewMovesRow.domain false) (Rows.viewMovesSpec.post enc Tryz.prog Tryz.f4 false true false false) := by
  refine returnsInHanded_of_change (C := Tryz.checked) Tryz.own started (by kernel_rfl) Tryz.func4
    (ChangeSpec.witness6 (enc := enc) (C := Tryz.checked) false ⟨#[], #[.agg #[.int .u8 0, .int .u8 0, .int .u8 0, .int .u8 0, .int .u8 0, .int .u8 0], .agg #[.int .u8 0, .int .i8 0, .int .i8 0, .int .i8 0, .int .i8 0, .int .u8 0, .int .u8 0, .int .u8 0, .int .u8 0, .int .u8 0, .int .u8 0, .int .u8 0, .int .u8 0, .int .u8 0]], []⟩ 8 (by kernel_rfl) (by kernel_rfl) (by kernel_rfl) (by kernel_rfl)) ?_
  intro W base args ds gs before hval0 hW hcnd _
  have hval : ∀ (j : Nat) t v, Tryz.f4.params[j]? = some t → args[j]? = some v → Value.okWide Tryz.prog W .any base t v := hval0
  have hW' := hW
  obtain ⟨p, q, hA0, hV, rfl, hfz, hnd⟩ := hW
  have hA : DataW.TrodAll enc Tryz.prog W 0 (fun _ => true) true Tryz.f4.params.toList args.toList ds p := hA0
  have hAk := hA
  obtain ⟨rfl, rfl⟩ := trodVars_none hV
  rw [List.append_nil] at hW'
  rw [Tryz.params4] at hA hval
  obtain ⟨v0, v1, d0, d1, p0, p1, rfl, rfl, rfl, h0, h1⟩ := trodAll_two hA
  obtain ⟨cs0, rfl, hs0⟩ := okWide_arr Tryz.underlying62 (hval 0 62 v0 rfl rfl)
  obtain ⟨fu0, hf0⟩ := h0
  obtain ⟨x0, x1, x2, x3, x4, x5, e0, hx, hx2⟩ := open_six (cs := cs0.toList) (by rw [Array.length_toList, hs0]; exact Tryz.cellsQ6) hf0
  obtain ⟨cs1, rfl, hs1⟩ := okWide_struct Tryz.underlying67 (hval 1 67 v1 rfl rfl)
  obtain ⟨fu1, hf1⟩ := h1
  obtain ⟨pn, e1, hpn⟩ := open_pane (cs := cs1.toList) (by rw [Array.length_toList, hs1]; exact Tryz.cellsPn) hf1
  obtain rfl : cs0 = #[.int .u8 x0, .int .u8 x1, .int .u8 x2, .int .u8 x3, .int .u8 x4, .int .u8 x5] := Array.toList_inj.1 e0
  obtain rfl : cs1 = pn.cells.toArray := Array.toList_inj.1 (by rw [e1])
  clear hA0 hval0
  refine (viewMoves_any x0 x1 x2 x3 x4 x5 pn W hx hx2 hpn).mono fun e W' ⟨he, hb⟩ => ?_
  subst he
  exact ⟨_, rfl, law_post Tryz.laidOut (by decide +kernel) rfl hW' hAk rfl rfl Tryz.underlying4 hb⟩

set_option maxRecDepth 100000 in
set_option maxHeartbeats 100000000 in
/-- the closed facts, limb by limb (all at once they are too much for one declaration). -/
theorem viewMoves_facts : joinedFacts Tryz.pinned.checked.prog 4 Tryz.f4 Rows.viewMovesSpec Rows.viewMovesRow = true := by
  unfold joinedFacts
  repeat' with_reducible apply and_i
  all_goals (as_aux_lemma => kernel_rfl)
set_option maxHeartbeats 100000000 in
theorem viewMoves_holds : Rows.ViewMovesSaid :=
  OpenClaim.holds_of_wide 4 Tryz.f4 rfl rfl rfl rfl rfl rfl rfl ⟨rfl, rfl, rfl, rfl, rfl⟩ rfl rfl rfl rfl rfl (by as_aux_lemma => kernel_rfl) Tryz.func4 viewMoves_facts
    (of_decide_eq_true (by as_aux_lemma => kernel_rfl)) (by as_aux_lemma => unfold Func.isWrapper; first | (rw [if_pos (by decide +kernel)]; kernel_rfl) | (rw [if_neg (by decide +kernel)]; exact ⟨rfl, rfl⟩))
    (fun os started H enc _ => viewMoves_lifted os started H enc)

end Go.Proofs.YtbkkecijcijhdaaGreat
end
