/-
  The law PlaceMoves of glazierlaw30 answers true at every input; the condition: the variable glazier/gravity.halves reads as its initialiser says, which the card ties to the program's text.
-/
import Derived.Test.YtbfefkhejknmoaaGreatDoorPlaceMovesC2
import Derived.Test.YtbfefkhejknmoaaGreatDoorCh49
import Derived.Test.YtbfefkhejknmoaaGreatDoorPlaceMovesC3
import Derived.Test.YtbfefkhejknmoaaGreatDoorTie
import Derived.Test.YtbfefkhejknmoaaGreatDoorCards
namespace Go.Proofs.YtbfefkhejknmoaaGreatDoor
open Go.ChangeShapes Go.WideShapes Go.ChangeAt Go.RowKit Go.Joins

/-- the door's own heap meets the condition. -/
theorem door_met (os : Os) (args : Array Value) : laidMetH Tryz.prog laidHalves ((World.doorLaid Tryz.prog 400 os).forCall (fun _ _ => 0) ⟨#[], args, []⟩).memory :=
  laidMetH_of_parts3 (fuel := 8) (laidMet_of_run' 8 (by kernel_rfl) (by kernel_rfl)) (by kernel_rfl) (by kernel_rfl)

set_option maxRecDepth 100000 in
set_option maxHeartbeats 1000000 in
theorem placeMoves_lifted (os : Os) (started : os.Started) (H : Type) (enc : TypeId × Value → H) :
    ReturnsInHanded {} Tryz.checked os 5 .any (fun w args => (Rows.placeMovesSpec.pre enc Tryz.prog Tryz.f5 [] false w args ∧ laidMetH Tryz.prog laidHalves w) ∧ sizedMet enc Tryz.prog Tryz.f5 (OpenSpec.ofChange Rows.placeMovesSpec) false w args)
      (Rows.placeMovesSpec.post enc Tryz.prog Tryz.f5 false true false false) := by
  refine returnsInHanded_of_change_and (C := Tryz.checked) (X := fun w _ => laidMetH Tryz.prog laidHalves w) (fun _ _ _ hh h => h.of_heap hh) Tryz.own started (by kernel_rfl) Tryz.func5
    (ChangeSpec.witness_shaped (enc := enc) (C := Tryz.checked) (os := os) (X := fun w _ => laidMetH Tryz.prog laidHalves w) false (World.doorLaid Tryz.prog 400 os) #[.agg #[.int .i64 0, .int .i64 0, .slice none 0 0, .slice none 0 0], .int .u32 0, .int .i16 0, .int .i16 0] 8 rfl (World.shaped_of_RefB (by kernel_rfl) (by kernel_rfl)) (by kernel_rfl) (by kernel_rfl) (by kernel_rfl) (door_met os _)) ?_
  intro W base args ds gs before hval0 hW _ _ hL9 _
  have hval : ∀ (j : Nat) t v, Tryz.f5.params[j]? = some t → args[j]? = some v → Value.okWide Tryz.prog W .any base t v := hval0
  have hW' := hW
  obtain ⟨p, q, hA0, hV, rfl, hfz, hnd⟩ := hW
  have hA : DataW.TrodAll enc Tryz.prog W 0 (fun _ => true) true Tryz.f5.params.toList args.toList ds p := hA0
  have hAk := hA
  obtain ⟨rfl, rfl⟩ := trodVars_none hV
  rw [List.append_nil] at hW'
  rw [Tryz.params5] at hA hval
  obtain ⟨v0, v1, v2, v3, d0, d1, d2, d3, p0, p1, p2, p3, rfl, rfl, rfl, h0, h1, h2, h3⟩ := trodAll_four hA
  obtain ⟨c00, c01, c02, c03, y00, y01, y02, y03, m0, rfl, rfl, rfl, hy00, hy01, hy02, hy03⟩ := open_agg4 Tryz.underlying25 (by kernel_rfl) Tryz.cellsWn (hval 0 25 v0 rfl rfl) h0
  obtain ⟨x00, e00, _, _⟩ := DataW.trod_int Tryz.underlying3 hy00
  obtain ⟨x01, e01, _, _⟩ := DataW.trod_int Tryz.underlying3 hy01
  obtain ⟨U, nu, cu, UL, e02, hnu, hU, huq⟩ := open_u32s Tryz.underlying22 Tryz.underlying27 Tryz.cellsId hy02
  obtain ⟨A, nl, cl, L, e03, hnl, hL, hLq⟩ := open_boxes hy03
  obtain ⟨x1, rfl, rfl, rfl, wx1⟩ := open_int Tryz.underlying27 (hval 1 27 v1 rfl rfl) h1
  obtain ⟨x2, rfl, rfl, rfl, wx2⟩ := open_int Tryz.underlying57 (hval 2 57 v2 rfl rfl) h2
  obtain ⟨x3, rfl, rfl, rfl, wx3⟩ := open_int Tryz.underlying57 (hval 3 57 v3 rfl rfl) h3
  simp at e00 e01
  subst e00 e01 e02 e03
  clear hA0 hval0
  refine (pmove_any ⟨x00, x01, U, nu, cu, A, nl, cl⟩ x1 x2 x3 UL L W ⟨hU, hL, hnl, hnu, huq, hLq⟩ (bounds_u32 wx1) (bounds_i16 wx2) (bounds_i16 wx3) (halves_of_laid hL9)).mono fun e W' ⟨he, hb⟩ => ?_
  subst he
  exact ⟨_, rfl, law_post Tryz.laidOut (by decide +kernel) rfl hW' hAk rfl rfl Tryz.underlying4 hb⟩

theorem placeMoves_holds : Rows.PlaceMovesSaid :=
  OpenClaim.holds_of_wide 5 Tryz.f5 rfl rfl rfl rfl rfl rfl rfl ⟨rfl, rfl, rfl, rfl, rfl⟩ rfl rfl rfl rfl rfl (by kernel_rfl) Tryz.func5 (by kernel_rfl)
    (of_decide_eq_true (by kernel_rfl)) (by unfold Func.isWrapper; first | (rw [if_pos (by decide +kernel)]; kernel_rfl) | (rw [if_neg (by decide +kernel)]; exact ⟨rfl, rfl⟩))
    (fun os started H enc _ => placeMoves_lifted os started H enc)

theorem placeMovesCard_holds : Rows.PlaceMovesCardSaid :=
  Claim7.holds_tied_plain_at .later [] [.data] true (true, "7e18aa3ce4ce8d08ea2eccc5da179edd956af2dc673a182403e55aabf4ae2175") true
    placeMoves_holds (fun _ h => by cases h) (by kernel_rfl) (fun _ h => by cases h) placeMoves_row_tie rfl ⟨rfl, rfl⟩ (by kernel_rfl) rfl
    (fun f fn hf hfn => by
      obtain rfl : f = 5 := Option.some.inj ((show Tryz.prog.funcNamed "glazier/glazierlaw30.PlaceMoves" = some 5 by kernel_rfl).symm.trans hf) |>.symm
      obtain rfl : fn = Tryz.f5 := (Option.some.inj (Tryz.func5.symm.trans hfn)).symm
      exact ⟨by kernel_rfl, fun j t ht => by
        rw [Tryz.params5] at ht
        have hm : t ∈ [25, 27, 57, 57] := by simpa using Array.mem_of_getElem? ht
        have hall : ([25, 27, 57, 57].all fun u => !Tryz.prog.wantsStandIn u) = true := by kernel_rfl
        exact (show Tryz.prog.wantsStandIn t = false by simpa using List.all_eq_true.1 hall t hm)⟩)
    (by kernel_rfl)

end Go.Proofs.YtbfefkhejknmoaaGreatDoor
