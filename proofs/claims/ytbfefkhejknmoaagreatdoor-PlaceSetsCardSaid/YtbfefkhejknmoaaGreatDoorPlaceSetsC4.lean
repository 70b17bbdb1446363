/-
  What the tied variable's condition gives the walks: the table of halves.
  The law PlaceSets of glazierlaw30 answers true at every input; the condition: the variable glazier/gravity.halves reads as its initialiser says, which the card ties to the program's text.
-/
import Derived.Test.YtbfefkhejknmoaaGreatDoorCh34
import Derived.Test.YtbfefkhejknmoaaGreatDoorCh49
import Derived.LaidMore
import Derived.Stop.Joined
import Derived.Test.YtbfefkhejknmoaaGreatDoorPlaceSetsC3
import Derived.Test.YtbfefkhejknmoaaGreatDoorTie
import Derived.Test.YtbfefkhejknmoaaGreatDoorCards
namespace Go.Proofs.YtbfefkhejknmoaaGreatDoor
open Go.ChangeShapes Go.WideShapes Go.ChangeAt Go.RowKit

theorem Tryz.gHalves : Tryz.prog.globalNamed "glazier/gravity.halves" = some 0 := by kernel_rfl
theorem Tryz.tHalves : (Tryz.prog.globals[0]?).map (·.type) = some 112 := by kernel_rfl
theorem Tryz.cellsPair : Tryz.prog.cellsOf 111 = 2 := by kernel_rfl
theorem Tryz.cellsInt1 : Tryz.prog.cellsOf 3 = 1 := by kernel_rfl
abbrev laidHalves : List (String × DataW Unit) := [("glazier/gravity.halves", Rows.laid_glazier_gravity_halves)]

theorem laid_list : (Rows.laid_glazier_gravity_halves : DataW Unit) = .agg (halvesL.map fun h => .agg [.lit (.int .i64 h.1), .lit (.int .i64 h.2)]) := rfl

section
variable {H : Type} {enc : TypeId × Value → H} {w : World} {spare : Nat → Bool} {held : Bool}
set_option maxRecDepth 100000 in
/-- a pair of numbers, read, is these two cells. -/
theorem pair_cells {fuel base : Nat} {l : List Value} {x : DataW H × List MemPlace} {a b : Int} (h : DataW.trod enc Tryz.prog w base spare held fuel 111 l = some x) (hx : x.1 = .agg [.lit (.int .i64 a), .lit (.int .i64 b)]) : l[0]? = some (.int .i64 a) ∧ l[1]? = some (.int .i64 b) := by
  obtain ⟨ys, m, rfl, rfl, hl, hn, hel⟩ := DataW.trod_array Tryz.underlying111 h
  dsimp only at hx
  injection hx with hx
  match ys, hn, hx, hel with
  | [y0, y1], _, hx, hel =>
    simp only [List.map_cons, List.map_nil, List.cons.injEq, and_true] at hx
    have h0 := hel 0 (by decide)
    have h1 := hel 1 (by decide)
    rw [Tryz.cellsInt1] at h0 h1
    obtain ⟨k0, e0, f0, _⟩ := DataW.trod_int Tryz.underlying3 (show DataW.trod enc Tryz.prog w base spare held m 3 _ = some y0 from h0)
    obtain ⟨k1, e1, f1, _⟩ := DataW.trod_int Tryz.underlying3 (show DataW.trod enc Tryz.prog w base spare held m 3 _ = some y1 from h1)
    rw [f0, f1] at hx
    obtain ⟨hx0, hx1⟩ := hx
    injection hx0 with hx0
    injection hx0 with _ hx0
    injection hx1 with hx1
    injection hx1 with _ hx1
    subst hx0 hx1
    have g0 := congrArg (·[0]?) e0
    have g1 := congrArg (·[0]?) e1
    simp [List.getElem?_take, List.getElem?_drop] at g0 g1
    exact ⟨g0, g1⟩
end

set_option maxRecDepth 100000 in
theorem halves_of_laid {W : World} (h : laidMetH Tryz.prog laidHalves W) : Halves W := by
  rw [MakeChecks.laidMetH_plain _ _ _ (by kernel_rfl)] at h
  obtain ⟨ps, ⟨g, t, cs, fuel, p, q, hg, ht, hv, hd, _⟩, _⟩ := h
  obtain rfl := Option.some.inj (Tryz.gHalves.symm.trans hg)
  obtain rfl := Option.some.inj (Tryz.tHalves.symm.trans ht)
  obtain ⟨xs, m, rfl, hx, hl, hn, hel⟩ := DataW.trod_array Tryz.underlying112 hd
  simp only [Prod.mk.injEq] at hx
  obtain ⟨hx, _⟩ := hx
  rw [laid_list] at hx
  injection hx with hx
  have key : ∀ k h, halvesL[k]? = some h → W.cell? ⟨0, k * 2, none⟩ = some (.int .i64 h.1) ∧ W.cell? ⟨0, k * 2 + 1, none⟩ = some (.int .i64 h.2) := by
    intro k h hk
    have hk10 : k < 10 := by
      have := (List.getElem?_eq_some_iff.1 hk).1
      simpa [halvesL] using this
    have e := congrArg (·[k]?) hx
    simp only [List.getElem?_map, hk, Option.map_some] at e
    have hxk := hel k hk10
    rw [Tryz.cellsPair] at hxk
    cases hxs : xs[k]? with
    | none => rw [hxs] at e; cases e
    | some x =>
      rw [hxs] at e hxk
      simp only [Option.map_some, Option.some.injEq] at e
      obtain ⟨c0, c1⟩ := pair_cells hxk e.symm
      rw [List.getElem?_take, if_pos (by decide), List.getElem?_drop] at c0 c1
      rw [World.var?_cell hg hv, World.var?_cell hg hv, ← Array.getElem?_toList, ← Array.getElem?_toList]
      exact ⟨c0, c1⟩
  have h0 := (key 0 (0, 0) rfl).1
  exact ⟨Nat.lt_of_le_of_lt (Nat.zero_le _) (block_lt_of_cell h0), key⟩

end Go.Proofs.YtbfefkhejknmoaaGreatDoor

namespace Go.Proofs.YtbfefkhejknmoaaGreatDoor
open Go.ChangeShapes Go.WideShapes Go.ChangeAt Go.RowKit Go.Joins

/-- the door's own heap meets the condition. -/
theorem door_met (os : Os) (args : Array Value) : laidMetH Tryz.prog laidHalves ((World.doorLaid Tryz.prog 400 os).forCall (fun _ _ => 0) ⟨#[], args, []⟩).memory :=
  laidMetH_of_parts3 (fuel := 8) (laidMet_of_run' 8 (by kernel_rfl) (by kernel_rfl)) (by kernel_rfl) (by kernel_rfl)

set_option maxRecDepth 100000 in
set_option maxHeartbeats 1000000 in
theorem placeSets_lifted (os : Os) (started : os.Started) (H : Type) (enc : TypeId × Value → H) :
    ReturnsInHanded {} Tryz.checked os 7 .any (fun w args => (Rows.placeSetsSpec.pre enc Tryz.prog Tryz.f7 [] false w args ∧ laidMetH Tryz.prog laidHalves w) ∧ sizedMet enc Tryz.prog Tryz.f7 (OpenSpec.ofChange Rows.placeSetsSpec) false w args)
      (Rows.placeSetsSpec.post enc Tryz.prog Tryz.f7 false true false false) := by
  refine returnsInHanded_of_change_and (C := Tryz.checked) (X := fun w _ => laidMetH Tryz.prog laidHalves w) (fun _ _ _ hh h => h.of_heap hh) Tryz.own started (by kernel_rfl) Tryz.func7
    (ChangeSpec.witness_shaped (enc := enc) (C := Tryz.checked) (os := os) (X := fun w _ => laidMetH Tryz.prog laidHalves w) false (World.doorLaid Tryz.prog 400 os) #[.agg #[.int .i64 0, .int .i64 0, .slice none 0 0, .slice none 0 0], .slice none 0 0] 8 rfl (World.shaped_of_RefB (by kernel_rfl) (by kernel_rfl)) (by kernel_rfl) (by kernel_rfl) (by kernel_rfl) (door_met os _)) ?_
  intro W base args ds gs before hval0 hW _ _ hL9 _
  have hval : ∀ (j : Nat) t v, Tryz.f7.params[j]? = some t → args[j]? = some v → Value.okWide Tryz.prog W .any base t v := hval0
  have hW' := hW
  obtain ⟨p, q, hA0, hV, rfl, hfz, hnd⟩ := hW
  have hA : DataW.TrodAll enc Tryz.prog W 0 (fun _ => true) true Tryz.f7.params.toList args.toList ds p := hA0
  have hAk := hA
  obtain ⟨rfl, rfl⟩ := trodVars_none hV
  rw [List.append_nil] at hW'
  rw [Tryz.params7] at hA hval
  obtain ⟨v0, v1, d0, d1, p0, p1, rfl, rfl, rfl, h0, h1⟩ := trodAll_two hA
  obtain ⟨c00, c01, c02, c03, y00, y01, y02, y03, m0, rfl, rfl, rfl, hy00, hy01, hy02, hy03⟩ := open_agg4 Tryz.underlying25 (by kernel_rfl) Tryz.cellsWn (hval 0 25 v0 rfl rfl) h0
  obtain ⟨x00, e00, _, _⟩ := DataW.trod_int Tryz.underlying3 hy00
  obtain ⟨x01, e01, _, _⟩ := DataW.trod_int Tryz.underlying3 hy01
  obtain ⟨U, nu, cu, UL, e02, hnu, hU, huq⟩ := open_u32s Tryz.underlying22 Tryz.underlying27 Tryz.cellsId hy02
  obtain ⟨A, nl, cl, L, e03, hnl, hL, hLq⟩ := open_boxes hy03
  obtain ⟨I0, ni0, ci0, rfl⟩ := okWide_slice Tryz.underlying22 (hval 1 22 v1 rfl rfl)
  obtain ⟨fu, hf⟩ := h1
  obtain ⟨I, ni, ci, IL, eI, hni, hI, hIq⟩ := open_u32s Tryz.underlying22 Tryz.underlying27 Tryz.cellsId (show DataW.trod _ _ _ _ _ _ fu _ [Value.slice I0 ni0 ci0] = some _ from hf)
  injection eI with eI eI2 eI3
  subst eI eI2 eI3
  simp at e00 e01
  subst e00 e01 e02 e03
  clear hA0 hval0
  refine (psets_any ⟨x00, x01, U, nu, cu, A, nl, cl⟩ I0 ni0 ci0 IL UL L W ⟨hU, hL, hnl, hnu, huq, hLq⟩ hI hni hIq (halves_of_laid hL9)).mono fun e W' ⟨he, hb⟩ => ?_
  subst he
  exact ⟨_, rfl, law_post Tryz.laidOut (by decide +kernel) rfl hW' hAk rfl rfl Tryz.underlying4 hb⟩

theorem placeSets_holds : Rows.PlaceSetsSaid :=
  OpenClaim.holds_of_wide 7 Tryz.f7 rfl rfl rfl rfl rfl rfl rfl ⟨rfl, rfl, rfl, rfl, rfl⟩ rfl rfl rfl rfl rfl (by kernel_rfl) Tryz.func7 (by kernel_rfl)
    (of_decide_eq_true (by kernel_rfl)) (by unfold Func.isWrapper; first | (rw [if_pos (by decide +kernel)]; kernel_rfl) | (rw [if_neg (by decide +kernel)]; exact ⟨rfl, rfl⟩))
    (fun os started H enc _ => placeSets_lifted os started H enc)

theorem placeSetsCard_holds : Rows.PlaceSetsCardSaid :=
  Claim7.holds_tied_plain_at .later [] [.data] true (true, "7e18aa3ce4ce8d08ea2eccc5da179edd956af2dc673a182403e55aabf4ae2175") true
    placeSets_holds (fun _ h => by cases h) (by kernel_rfl) (fun _ h => by cases h) placeSets_row_tie rfl ⟨rfl, rfl⟩ (by kernel_rfl) rfl
    (fun f fn hf hfn => by
      obtain rfl : f = 7 := Option.some.inj ((show Tryz.prog.funcNamed "glazier/glazierlaw30.PlaceSets" = some 7 by kernel_rfl).symm.trans hf) |>.symm
      obtain rfl : fn = Tryz.f7 := (Option.some.inj (Tryz.func7.symm.trans hfn)).symm
      exact ⟨by kernel_rfl, fun j t ht => by
        rw [Tryz.params7] at ht
        have hm : t ∈ [25, 22] := by simpa using Array.mem_of_getElem? ht
        have hall : ([25, 22].all fun u => !Tryz.prog.wantsStandIn u) = true := by kernel_rfl
        exact (show Tryz.prog.wantsStandIn t = false by simpa using List.all_eq_true.1 hall t hm)⟩)
    (by kernel_rfl)

end Go.Proofs.YtbfefkhejknmoaaGreatDoor
