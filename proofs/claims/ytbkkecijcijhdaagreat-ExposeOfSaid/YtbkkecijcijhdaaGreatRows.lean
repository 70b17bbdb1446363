/-
  No cell of these rows narrows 'for every input' (looked for: loops, veiled, ifaces, maps, wideKeys, modest, calm, conditions, laid).
  DERIVED. THE GIVEN ROWS OF THIS SEAT. 17 by the template 'for every input the law returns true; each argument reads behind the call as it read before'; 0 by the template 'total and deterministic' (their statements: YtbkkecijcijhdaaGreatTotals.lean).
  GIVEN WITH THE SEED: the statements are not yours to turn. If you find one false, say at which input.
  Laid BY PROGRAM, IN A SANDBOX (cutbox-rows.mjs): the forced cells as the released guide's own fill.sh prints them over the translation 94dffbddee2a11d9… (all of the seat's roots in one cut). By AI agents, Wed Nov 11 2026. No macro, syntax, notation, axiom, sorry.
-/
import Derived.Test.YtbkkecijcijhdaaGreatChecked
import GoSem.Claim
import GoSem.ClaimJoined
import GoSem.ClaimMapViews
import Derived.JoinedTies
import Derived.KernelRfl
namespace Go.Proofs.YtbkkecijcijhdaaGreat
/- THE CELL 'sum', in the pinned program and in every row, IS THE sha256 OF THE DUMP (.gsa) THAT YtbkkecijcijhdaaGreatProg.lean LOADS. Nothing in Lean hashes anything: it is a label: what it is worth is what the hold of that sum in a sandbox is worth. -/
noncomputable def Tryz.pinned : Pinned := { name := "ytbkkecijcijhdaagreat", sum := "94dffbddee2a11d978c720f599e125f643070826e41620a7add966951b82ed77", checked := Tryz.checked }
namespace Rows
def none {H : Type} : Left H := { results := [], args := [] }

/-- 'glazierlaw31.ViewTells': WHATEVER THE INPUT: true; the input reads as it did. -/
def viewTellsSpec : ChangeSpec := { name := "viewTells", fn := fun _ => fun
  | [d] => { results := [.lit (.bool true)], args := [d] }
  | _ => none }
def viewTellsRow : OpenClaim := { program := "ytbkkecijcijhdaagreat", sum := "94dffbddee2a11d978c720f599e125f643070826e41620a7add966951b82ed77", func := "glazier/glazierlaw31.ViewTells", spec := "viewTells", inPlace := ["maps.clone"], unfollowed := true, recurses := true, apart := false }
def ViewTellsSaid : Prop := viewTellsRow.holds Tryz.pinned (OpenSpec.ofChange viewTellsSpec)

/-- ITS FALSE NEIGHBOUR: 'it returns false'. Refute it at one input. -/
def viewTellsWrong : ChangeSpec := { name := "viewTells", fn := fun _ => fun
  | [d] => { results := [.lit (.bool false)], args := [d] }
  | _ => none }
def ViewTellsWrongFalsely : Prop := viewTellsRow.holds Tryz.pinned (OpenSpec.ofChange viewTellsWrong)

/-- 'glazierlaw31.ViewMoves': WHATEVER THE INPUT: true; the input reads as it did. -/
def viewMovesSpec : ChangeSpec := { name := "viewMoves", fn := fun _ => fun
  | [d1, d2] => { results := [.lit (.bool true)], args := [d1, d2] }
  | _ => none }
def viewMovesRow : OpenClaim := { program := "ytbkkecijcijhdaagreat", sum := "94dffbddee2a11d978c720f599e125f643070826e41620a7add966951b82ed77", func := "glazier/glazierlaw31.ViewMoves", spec := "viewMoves", inPlace := ["maps.clone"], unfollowed := true, recurses := true, apart := false }
def ViewMovesSaid : Prop := viewMovesRow.holds Tryz.pinned (OpenSpec.ofChange viewMovesSpec)

/-- ITS FALSE NEIGHBOUR: 'it returns false'. Refute it at one input. -/
def viewMovesWrong : ChangeSpec := { name := "viewMoves", fn := fun _ => fun
  | [d1, d2] => { results := [.lit (.bool false)], args := [d1, d2] }
  | _ => none }
def ViewMovesWrongFalsely : Prop := viewMovesRow.holds Tryz.pinned (OpenSpec.ofChange viewMovesWrong)

/-- 'glazierlaw31.ViewAt': WHATEVER THE INPUT: true; the input reads as it did. -/
def viewAtSpec : ChangeSpec := { name := "viewAt", fn := fun _ => fun
  | [d] => { results := [.lit (.bool true)], args := [d] }
  | _ => none }
def viewAtRow : OpenClaim := { program := "ytbkkecijcijhdaagreat", sum := "94dffbddee2a11d978c720f599e125f643070826e41620a7add966951b82ed77", func := "glazier/glazierlaw31.ViewAt", spec := "viewAt", inPlace := ["maps.clone"], unfollowed := true, recurses := true, apart := false }
def ViewAtSaid : Prop := viewAtRow.holds Tryz.pinned (OpenSpec.ofChange viewAtSpec)

/-- ITS FALSE NEIGHBOUR: 'it returns false'. Refute it at one input. -/
def viewAtWrong : ChangeSpec := { name := "viewAt", fn := fun _ => fun
  | [d] => { results := [.lit (.bool false)], args := [d] }
  | _ => none }
def ViewAtWrongFalsely : Prop := viewAtRow.holds Tryz.pinned (OpenSpec.ofChange viewAtWrong)

/-- 'glazierlaw31.ViewOutside': WHATEVER THE INPUT: true; the input reads as it did. -/
def viewOutsideSpec : ChangeSpec := { name := "viewOutside", fn := fun _ => fun
  | [d1, d2, d3, d4] => { results := [.lit (.bool true)], args := [d1, d2, d3, d4] }
  | _ => none }
def viewOutsideRow : OpenClaim := { program := "ytbkkecijcijhdaagreat", sum := "94dffbddee2a11d978c720f599e125f643070826e41620a7add966951b82ed77", func := "glazier/glazierlaw31.ViewOutside", spec := "viewOutside", inPlace := ["maps.clone"], unfollowed := true, recurses := true, apart := false }
def ViewOutsideSaid : Prop := viewOutsideRow.holds Tryz.pinned (OpenSpec.ofChange viewOutsideSpec)

/-- ITS FALSE NEIGHBOUR: 'it returns false'. Refute it at one input. -/
def viewOutsideWrong : ChangeSpec := { name := "viewOutside", fn := fun _ => fun
  | [d1, d2, d3, d4] => { results := [.lit (.bool false)], args := [d1, d2, d3, d4] }
  | _ => none }
def ViewOutsideWrongFalsely : Prop := viewOutsideRow.holds Tryz.pinned (OpenSpec.ofChange viewOutsideWrong)

/-- 'glazierlaw31.ViewHidden': WHATEVER THE INPUT: true; the input reads as it did. -/
def viewHiddenSpec : ChangeSpec := { name := "viewHidden", fn := fun _ => fun
  | [d1, d2] => { results := [.lit (.bool true)], args := [d1, d2] }
  | _ => none }
def viewHiddenRow : OpenClaim := { program := "ytbkkecijcijhdaagreat", sum := "94dffbddee2a11d978c720f599e125f643070826e41620a7add966951b82ed77", func := "glazier/glazierlaw31.ViewHidden", spec := "viewHidden", inPlace := ["maps.clone"], unfollowed := true, recurses := true, apart := false }
def ViewHiddenSaid : Prop := viewHiddenRow.holds Tryz.pinned (OpenSpec.ofChange viewHiddenSpec)

/-- ITS FALSE NEIGHBOUR: 'it returns false'. Refute it at one input. -/
def viewHiddenWrong : ChangeSpec := { name := "viewHidden", fn := fun _ => fun
  | [d1, d2] => { results := [.lit (.bool false)], args := [d1, d2] }
  | _ => none }
def ViewHiddenWrongFalsely : Prop := viewHiddenRow.holds Tryz.pinned (OpenSpec.ofChange viewHiddenWrong)

/-- 'glazierlaw31.ViewRaises': WHATEVER THE INPUT: true; the input reads as it did. -/
def viewRaisesSpec : ChangeSpec := { name := "viewRaises", fn := fun _ => fun
  | [d1, d2] => { results := [.lit (.bool true)], args := [d1, d2] }
  | _ => none }
def viewRaisesRow : OpenClaim := { program := "ytbkkecijcijhdaagreat", sum := "94dffbddee2a11d978c720f599e125f643070826e41620a7add966951b82ed77", func := "glazier/glazierlaw31.ViewRaises", spec := "viewRaises", inPlace := ["maps.clone", "slices.overlaps[glazier/api.ID]"], unfollowed := true, recurses := true, apart := false }
def ViewRaisesSaid : Prop := viewRaisesRow.holds Tryz.pinned (OpenSpec.ofChange viewRaisesSpec)

/-- ITS FALSE NEIGHBOUR: 'it returns false'. Refute it at one input. -/
def viewRaisesWrong : ChangeSpec := { name := "viewRaises", fn := fun _ => fun
  | [d1, d2] => { results := [.lit (.bool false)], args := [d1, d2] }
  | _ => none }
def ViewRaisesWrongFalsely : Prop := viewRaisesRow.holds Tryz.pinned (OpenSpec.ofChange viewRaisesWrong)

/-- 'glazierlaw32.ExposeOne': WHATEVER THE INPUT: true; the input reads as it did. -/
def exposeOneSpec : ChangeSpec := { name := "exposeOne", fn := fun _ => fun
  | [d1, d2, d3] => { results := [.lit (.bool true)], args := [d1, d2, d3] }
  | _ => none }
def exposeOneRow : OpenClaim := { program := "ytbkkecijcijhdaagreat", sum := "94dffbddee2a11d978c720f599e125f643070826e41620a7add966951b82ed77", func := "glazier/glazierlaw32.ExposeOne", spec := "exposeOne", inPlace := ["maps.clone"], unfollowed := true, recurses := true, apart := false }
def ExposeOneSaid : Prop := exposeOneRow.holds Tryz.pinned (OpenSpec.ofChange exposeOneSpec)

/-- ITS FALSE NEIGHBOUR: 'it returns false'. Refute it at one input. -/
def exposeOneWrong : ChangeSpec := { name := "exposeOne", fn := fun _ => fun
  | [d1, d2, d3] => { results := [.lit (.bool false)], args := [d1, d2, d3] }
  | _ => none }
def ExposeOneWrongFalsely : Prop := exposeOneRow.holds Tryz.pinned (OpenSpec.ofChange exposeOneWrong)

/-- 'glazierlaw32.ExposeEvents': WHATEVER THE INPUT: true; the input reads as it did. -/
def exposeEventsSpec : ChangeSpec := { name := "exposeEvents", fn := fun _ => fun
  | [d1, d2] => { results := [.lit (.bool true)], args := [d1, d2] }
  | _ => none }
def exposeEventsRow : OpenClaim := { program := "ytbkkecijcijhdaagreat", sum := "94dffbddee2a11d978c720f599e125f643070826e41620a7add966951b82ed77", func := "glazier/glazierlaw32.ExposeEvents", spec := "exposeEvents", inPlace := ["maps.clone"], unfollowed := true, recurses := true, apart := false }
def ExposeEventsSaid : Prop := exposeEventsRow.holds Tryz.pinned (OpenSpec.ofChange exposeEventsSpec)

/-- ITS FALSE NEIGHBOUR: 'it returns false'. Refute it at one input. -/
def exposeEventsWrong : ChangeSpec := { name := "exposeEvents", fn := fun _ => fun
  | [d1, d2] => { results := [.lit (.bool false)], args := [d1, d2] }
  | _ => none }
def ExposeEventsWrongFalsely : Prop := exposeEventsRow.holds Tryz.pinned (OpenSpec.ofChange exposeEventsWrong)

/-- 'glazierlaw32.ExposeParts': WHATEVER THE INPUT: true; the input reads as it did. -/
def exposePartsSpec : ChangeSpec := { name := "exposeParts", fn := fun _ => fun
  | [d1, d2] => { results := [.lit (.bool true)], args := [d1, d2] }
  | _ => none }
def exposePartsRow : OpenClaim := { program := "ytbkkecijcijhdaagreat", sum := "94dffbddee2a11d978c720f599e125f643070826e41620a7add966951b82ed77", func := "glazier/glazierlaw32.ExposeParts", spec := "exposeParts", inPlace := ["maps.clone"], unfollowed := true, recurses := true, apart := false }
def ExposePartsSaid : Prop := exposePartsRow.holds Tryz.pinned (OpenSpec.ofChange exposePartsSpec)

/-- ITS FALSE NEIGHBOUR: 'it returns false'. Refute it at one input. -/
def exposePartsWrong : ChangeSpec := { name := "exposeParts", fn := fun _ => fun
  | [d1, d2] => { results := [.lit (.bool false)], args := [d1, d2] }
  | _ => none }
def ExposePartsWrongFalsely : Prop := exposePartsRow.holds Tryz.pinned (OpenSpec.ofChange exposePartsWrong)

/-- 'glazierlaw32.ExposeOf': WHATEVER THE INPUT: true; the input reads as it did. -/
def exposeOfSpec : ChangeSpec := { name := "exposeOf", fn := fun _ => fun
  | [d1, d2] => { results := [.lit (.bool true)], args := [d1, d2] }
  | _ => none }
def exposeOfRow : OpenClaim := { program := "ytbkkecijcijhdaagreat", sum := "94dffbddee2a11d978c720f599e125f643070826e41620a7add966951b82ed77", func := "glazier/glazierlaw32.ExposeOf", spec := "exposeOf", inPlace := ["maps.clone"], unfollowed := true, recurses := true, apart := false }
def ExposeOfSaid : Prop := exposeOfRow.holds Tryz.pinned (OpenSpec.ofChange exposeOfSpec)

/-- ITS FALSE NEIGHBOUR: 'it returns false'. Refute it at one input. -/
def exposeOfWrong : ChangeSpec := { name := "exposeOf", fn := fun _ => fun
  | [d1, d2] => { results := [.lit (.bool false)], args := [d1, d2] }
  | _ => none }
def ExposeOfWrongFalsely : Prop := exposeOfRow.holds Tryz.pinned (OpenSpec.ofChange exposeOfWrong)

/-- 'glazierlaw32.ExposeSame': WHATEVER THE INPUT: true; the input reads as it did. -/
def exposeSameSpec : ChangeSpec := { name := "exposeSame", fn := fun _ => fun
  | [d] => { results := [.lit (.bool true)], args := [d] }
  | _ => none }
def exposeSameRow : OpenClaim := { program := "ytbkkecijcijhdaagreat", sum := "94dffbddee2a11d978c720f599e125f643070826e41620a7add966951b82ed77", func := "glazier/glazierlaw32.ExposeSame", spec := "exposeSame", inPlace := ["maps.clone"], unfollowed := true, recurses := true, apart := false }
def ExposeSameSaid : Prop := exposeSameRow.holds Tryz.pinned (OpenSpec.ofChange exposeSameSpec)

/-- ITS FALSE NEIGHBOUR: 'it returns false'. Refute it at one input. -/
def exposeSameWrong : ChangeSpec := { name := "exposeSame", fn := fun _ => fun
  | [d] => { results := [.lit (.bool false)], args := [d] }
  | _ => none }
def ExposeSameWrongFalsely : Prop := exposeSameRow.holds Tryz.pinned (OpenSpec.ofChange exposeSameWrong)

/-- 'glazierlaw37.FocusLoses': WHATEVER THE INPUT: true; the input reads as it did. -/
def focusLosesSpec : ChangeSpec := { name := "focusLoses", fn := fun _ => fun
  | [d1, d2] => { results := [.lit (.bool true)], args := [d1, d2] }
  | _ => none }
def focusLosesRow : OpenClaim := { program := "ytbkkecijcijhdaagreat", sum := "94dffbddee2a11d978c720f599e125f643070826e41620a7add966951b82ed77", func := "glazier/glazierlaw37.FocusLoses", spec := "focusLoses", inPlace := ["maps.clone"], unfollowed := true, recurses := true, apart := false }
def FocusLosesSaid : Prop := focusLosesRow.holds Tryz.pinned (OpenSpec.ofChange focusLosesSpec)

/-- ITS FALSE NEIGHBOUR: 'it returns false'. Refute it at one input. -/
def focusLosesWrong : ChangeSpec := { name := "focusLoses", fn := fun _ => fun
  | [d1, d2] => { results := [.lit (.bool false)], args := [d1, d2] }
  | _ => none }
def FocusLosesWrongFalsely : Prop := focusLosesRow.holds Tryz.pinned (OpenSpec.ofChange focusLosesWrong)

/-- 'glazierlaw37.FocusWays': WHATEVER THE INPUT: true; the input reads as it did. -/
def focusWaysSpec : ChangeSpec := { name := "focusWays", fn := fun _ => fun
  | [d1, d2, d3] => { results := [.lit (.bool true)], args := [d1, d2, d3] }
  | _ => none }
def focusWaysRow : OpenClaim := { program := "ytbkkecijcijhdaagreat", sum := "94dffbddee2a11d978c720f599e125f643070826e41620a7add966951b82ed77", func := "glazier/glazierlaw37.FocusWays", spec := "focusWays", inPlace := ["maps.clone"], unfollowed := true, recurses := true, apart := false }
def FocusWaysSaid : Prop := focusWaysRow.holds Tryz.pinned (OpenSpec.ofChange focusWaysSpec)

/-- ITS FALSE NEIGHBOUR: 'it returns false'. Refute it at one input. -/
def focusWaysWrong : ChangeSpec := { name := "focusWays", fn := fun _ => fun
  | [d1, d2, d3] => { results := [.lit (.bool false)], args := [d1, d2, d3] }
  | _ => none }
def FocusWaysWrongFalsely : Prop := focusWaysRow.holds Tryz.pinned (OpenSpec.ofChange focusWaysWrong)

/-- 'glazierlaw37.FocusAlone': WHATEVER THE INPUT: true; the input reads as it did. -/
def focusAloneSpec : ChangeSpec := { name := "focusAlone", fn := fun _ => fun
  | [d1, d2, d3] => { results := [.lit (.bool true)], args := [d1, d2, d3] }
  | _ => none }
def focusAloneRow : OpenClaim := { program := "ytbkkecijcijhdaagreat", sum := "94dffbddee2a11d978c720f599e125f643070826e41620a7add966951b82ed77", func := "glazier/glazierlaw37.FocusAlone", spec := "focusAlone", inPlace := ["maps.clone"], unfollowed := true, recurses := true, apart := false }
def FocusAloneSaid : Prop := focusAloneRow.holds Tryz.pinned (OpenSpec.ofChange focusAloneSpec)

/-- ITS FALSE NEIGHBOUR: 'it returns false'. Refute it at one input. -/
def focusAloneWrong : ChangeSpec := { name := "focusAlone", fn := fun _ => fun
  | [d1, d2, d3] => { results := [.lit (.bool false)], args := [d1, d2, d3] }
  | _ => none }
def FocusAloneWrongFalsely : Prop := focusAloneRow.holds Tryz.pinned (OpenSpec.ofChange focusAloneWrong)

/-- 'glazierlaw37.FocusSets': WHATEVER THE INPUT: true; the input reads as it did. -/
def focusSetsSpec : ChangeSpec := { name := "focusSets", fn := fun _ => fun
  | [d1, d2, d3, d4, d5, d6] => { results := [.lit (.bool true)], args := [d1, d2, d3, d4, d5, d6] }
  | _ => none }
def focusSetsRow : OpenClaim := { program := "ytbkkecijcijhdaagreat", sum := "94dffbddee2a11d978c720f599e125f643070826e41620a7add966951b82ed77", func := "glazier/glazierlaw37.FocusSets", spec := "focusSets", inPlace := ["maps.clone"], unfollowed := true, recurses := true, apart := false }
def FocusSetsSaid : Prop := focusSetsRow.holds Tryz.pinned (OpenSpec.ofChange focusSetsSpec)

/-- ITS FALSE NEIGHBOUR: 'it returns false'. Refute it at one input. -/
def focusSetsWrong : ChangeSpec := { name := "focusSets", fn := fun _ => fun
  | [d1, d2, d3, d4, d5, d6] => { results := [.lit (.bool false)], args := [d1, d2, d3, d4, d5, d6] }
  | _ => none }
def FocusSetsWrongFalsely : Prop := focusSetsRow.holds Tryz.pinned (OpenSpec.ofChange focusSetsWrong)

/-- 'glazierlaw37.FocusShows': WHATEVER THE INPUT: true; the input reads as it did. -/
def focusShowsSpec : ChangeSpec := { name := "focusShows", fn := fun _ => fun
  | [d1, d2, d3, d4] => { results := [.lit (.bool true)], args := [d1, d2, d3, d4] }
  | _ => none }
def focusShowsRow : OpenClaim := { program := "ytbkkecijcijhdaagreat", sum := "94dffbddee2a11d978c720f599e125f643070826e41620a7add966951b82ed77", func := "glazier/glazierlaw37.FocusShows", spec := "focusShows", inPlace := ["maps.clone"], unfollowed := true, recurses := true, apart := false }
def FocusShowsSaid : Prop := focusShowsRow.holds Tryz.pinned (OpenSpec.ofChange focusShowsSpec)

/-- ITS FALSE NEIGHBOUR: 'it returns false'. Refute it at one input. -/
def focusShowsWrong : ChangeSpec := { name := "focusShows", fn := fun _ => fun
  | [d1, d2, d3, d4] => { results := [.lit (.bool false)], args := [d1, d2, d3, d4] }
  | _ => none }
def FocusShowsWrongFalsely : Prop := focusShowsRow.holds Tryz.pinned (OpenSpec.ofChange focusShowsWrong)

/-- 'glazierlaw37.FocusSteps': WHATEVER THE INPUT: true; the input reads as it did. -/
def focusStepsSpec : ChangeSpec := { name := "focusSteps", fn := fun _ => fun
  | [d1, d2, d3] => { results := [.lit (.bool true)], args := [d1, d2, d3] }
  | _ => none }
def focusStepsRow : OpenClaim := { program := "ytbkkecijcijhdaagreat", sum := "94dffbddee2a11d978c720f599e125f643070826e41620a7add966951b82ed77", func := "glazier/glazierlaw37.FocusSteps", spec := "focusSteps", inPlace := ["maps.clone"], unfollowed := true, recurses := true, apart := false }
def FocusStepsSaid : Prop := focusStepsRow.holds Tryz.pinned (OpenSpec.ofChange focusStepsSpec)

/-- ITS FALSE NEIGHBOUR: 'it returns false'. Refute it at one input. -/
def focusStepsWrong : ChangeSpec := { name := "focusSteps", fn := fun _ => fun
  | [d1, d2, d3] => { results := [.lit (.bool false)], args := [d1, d2, d3] }
  | _ => none }
def FocusStepsWrongFalsely : Prop := focusStepsRow.holds Tryz.pinned (OpenSpec.ofChange focusStepsWrong)

/- THE SECOND FORM. 'bulk': how many values and letters a reading holds, each counted each time it is reached (what is shared counts as often as it is met; a slice's spare places count too). A statement '..UptoSaid' is the law's where the arguments, and the package variables that the reading takes, are together of bulk at most 1048576: NARROWER than '..Said'. Prove '..Said' where nothing that the law and all that it calls make is longer than what came in: it says more and counts as full. Else prove '..UptoSaid'. A law counts once. -/
mutual
def uptoBulk {H : Type} : DataW H → Nat
  | .lit (.string bytes) => bytes.length + 1
  | .lit _ => 1
  | .nil => 1
  | .ptr d => uptoBulk d + 1
  | .slice elems spare => uptoBulkAll elems + uptoBulkAll spare + 1
  | .agg parts => uptoBulkAll parts + 1
  | .iface _ d => uptoBulk d + 1
  | .map entries => uptoBulkEntries entries + 1
  | .held _ => 1
def uptoBulkAll {H : Type} : List (DataW H) → Nat
  | [] => 0
  | d :: r => uptoBulk d + uptoBulkAll r
def uptoBulkEntries {H : Type} : List (Lit × DataW H) → Nat
  | [] => 0
  | x :: r => uptoBulkEntry x + uptoBulkEntries r
def uptoBulkEntry {H : Type} : Lit × DataW H → Nat
  | (.string bytes, d) => bytes.length + uptoBulk d + 1
  | (_, d) => uptoBulk d + 1
 end
def uptoSmall : (H : Type) → List (DataW H) → Bool := fun _ ds => decide (uptoBulkAll ds ≤ 1048576)
def OpenSpec.upto (s : _root_.Go.ChangeSpec) : _root_.Go.OpenSpec := { _root_.Go.OpenSpec.ofChange s with cond := some uptoSmall }

/-- 'glazierlaw31.ViewTells', WHERE WHAT IT READS IS OF BULK AT MOST 1048576: true; the input reads as it did. -/
def viewTellsUptoRow : OpenClaim := { program := "ytbkkecijcijhdaagreat", sum := "94dffbddee2a11d978c720f599e125f643070826e41620a7add966951b82ed77", func := "glazier/glazierlaw31.ViewTells", spec := "viewTells", inPlace := ["maps.clone"], unfollowed := true, recurses := true, apart := false, narrowed := true }
def ViewTellsUptoSaid : Prop := viewTellsUptoRow.holds Tryz.pinned (OpenSpec.upto viewTellsSpec)

/-- 'glazierlaw31.ViewMoves', WHERE WHAT IT READS IS OF BULK AT MOST 1048576: true; the input reads as it did. -/
def viewMovesUptoRow : OpenClaim := { program := "ytbkkecijcijhdaagreat", sum := "94dffbddee2a11d978c720f599e125f643070826e41620a7add966951b82ed77", func := "glazier/glazierlaw31.ViewMoves", spec := "viewMoves", inPlace := ["maps.clone"], unfollowed := true, recurses := true, apart := false, narrowed := true }
def ViewMovesUptoSaid : Prop := viewMovesUptoRow.holds Tryz.pinned (OpenSpec.upto viewMovesSpec)

/-- 'glazierlaw31.ViewAt', WHERE WHAT IT READS IS OF BULK AT MOST 1048576: true; the input reads as it did. -/
def viewAtUptoRow : OpenClaim := { program := "ytbkkecijcijhdaagreat", sum := "94dffbddee2a11d978c720f599e125f643070826e41620a7add966951b82ed77", func := "glazier/glazierlaw31.ViewAt", spec := "viewAt", inPlace := ["maps.clone"], unfollowed := true, recurses := true, apart := false, narrowed := true }
def ViewAtUptoSaid : Prop := viewAtUptoRow.holds Tryz.pinned (OpenSpec.upto viewAtSpec)

/-- 'glazierlaw31.ViewOutside', WHERE WHAT IT READS IS OF BULK AT MOST 1048576: true; the input reads as it did. -/
def viewOutsideUptoRow : OpenClaim := { program := "ytbkkecijcijhdaagreat", sum := "94dffbddee2a11d978c720f599e125f643070826e41620a7add966951b82ed77", func := "glazier/glazierlaw31.ViewOutside", spec := "viewOutside", inPlace := ["maps.clone"], unfollowed := true, recurses := true, apart := false, narrowed := true }
def ViewOutsideUptoSaid : Prop := viewOutsideUptoRow.holds Tryz.pinned (OpenSpec.upto viewOutsideSpec)

/-- 'glazierlaw31.ViewHidden', WHERE WHAT IT READS IS OF BULK AT MOST 1048576: true; the input reads as it did. -/
def viewHiddenUptoRow : OpenClaim := { program := "ytbkkecijcijhdaagreat", sum := "94dffbddee2a11d978c720f599e125f643070826e41620a7add966951b82ed77", func := "glazier/glazierlaw31.ViewHidden", spec := "viewHidden", inPlace := ["maps.clone"], unfollowed := true, recurses := true, apart := false, narrowed := true }
def ViewHiddenUptoSaid : Prop := viewHiddenUptoRow.holds Tryz.pinned (OpenSpec.upto viewHiddenSpec)

/-- 'glazierlaw31.ViewRaises', WHERE WHAT IT READS IS OF BULK AT MOST 1048576: true; the input reads as it did. -/
def viewRaisesUptoRow : OpenClaim := { program := "ytbkkecijcijhdaagreat", sum := "94dffbddee2a11d978c720f599e125f643070826e41620a7add966951b82ed77", func := "glazier/glazierlaw31.ViewRaises", spec := "viewRaises", inPlace := ["maps.clone", "slices.overlaps[glazier/api.ID]"], unfollowed := true, recurses := true, apart := false, narrowed := true }
def ViewRaisesUptoSaid : Prop := viewRaisesUptoRow.holds Tryz.pinned (OpenSpec.upto viewRaisesSpec)

/-- 'glazierlaw32.ExposeOne', WHERE WHAT IT READS IS OF BULK AT MOST 1048576: true; the input reads as it did. -/
def exposeOneUptoRow : OpenClaim := { program := "ytbkkecijcijhdaagreat", sum := "94dffbddee2a11d978c720f599e125f643070826e41620a7add966951b82ed77", func := "glazier/glazierlaw32.ExposeOne", spec := "exposeOne", inPlace := ["maps.clone"], unfollowed := true, recurses := true, apart := false, narrowed := true }
def ExposeOneUptoSaid : Prop := exposeOneUptoRow.holds Tryz.pinned (OpenSpec.upto exposeOneSpec)

/-- 'glazierlaw32.ExposeEvents', WHERE WHAT IT READS IS OF BULK AT MOST 1048576: true; the input reads as it did. -/
def exposeEventsUptoRow : OpenClaim := { program := "ytbkkecijcijhdaagreat", sum := "94dffbddee2a11d978c720f599e125f643070826e41620a7add966951b82ed77", func := "glazier/glazierlaw32.ExposeEvents", spec := "exposeEvents", inPlace := ["maps.clone"], unfollowed := true, recurses := true, apart := false, narrowed := true }
def ExposeEventsUptoSaid : Prop := exposeEventsUptoRow.holds Tryz.pinned (OpenSpec.upto exposeEventsSpec)

/-- 'glazierlaw32.ExposeParts', WHERE WHAT IT READS IS OF BULK AT MOST 1048576: true; the input reads as it did. -/
def exposePartsUptoRow : OpenClaim := { program := "ytbkkecijcijhdaagreat", sum := "94dffbddee2a11d978c720f599e125f643070826e41620a7add966951b82ed77", func := "glazier/glazierlaw32.ExposeParts", spec := "exposeParts", inPlace := ["maps.clone"], unfollowed := true, recurses := true, apart := false, narrowed := true }
def ExposePartsUptoSaid : Prop := exposePartsUptoRow.holds Tryz.pinned (OpenSpec.upto exposePartsSpec)

/-- 'glazierlaw32.ExposeOf', WHERE WHAT IT READS IS OF BULK AT MOST 1048576: true; the input reads as it did. -/
def exposeOfUptoRow : OpenClaim := { program := "ytbkkecijcijhdaagreat", sum := "94dffbddee2a11d978c720f599e125f643070826e41620a7add966951b82ed77", func := "glazier/glazierlaw32.ExposeOf", spec := "exposeOf", inPlace := ["maps.clone"], unfollowed := true, recurses := true, apart := false, narrowed := true }
def ExposeOfUptoSaid : Prop := exposeOfUptoRow.holds Tryz.pinned (OpenSpec.upto exposeOfSpec)

/-- 'glazierlaw32.ExposeSame', WHERE WHAT IT READS IS OF BULK AT MOST 1048576: true; the input reads as it did. -/
def exposeSameUptoRow : OpenClaim := { program := "ytbkkecijcijhdaagreat", sum := "94dffbddee2a11d978c720f599e125f643070826e41620a7add966951b82ed77", func := "glazier/glazierlaw32.ExposeSame", spec := "exposeSame", inPlace := ["maps.clone"], unfollowed := true, recurses := true, apart := false, narrowed := true }
def ExposeSameUptoSaid : Prop := exposeSameUptoRow.holds Tryz.pinned (OpenSpec.upto exposeSameSpec)

/-- 'glazierlaw37.FocusLoses', WHERE WHAT IT READS IS OF BULK AT MOST 1048576: true; the input reads as it did. -/
def focusLosesUptoRow : OpenClaim := { program := "ytbkkecijcijhdaagreat", sum := "94dffbddee2a11d978c720f599e125f643070826e41620a7add966951b82ed77", func := "glazier/glazierlaw37.FocusLoses", spec := "focusLoses", inPlace := ["maps.clone"], unfollowed := true, recurses := true, apart := false, narrowed := true }
def FocusLosesUptoSaid : Prop := focusLosesUptoRow.holds Tryz.pinned (OpenSpec.upto focusLosesSpec)

/-- 'glazierlaw37.FocusWays', WHERE WHAT IT READS IS OF BULK AT MOST 1048576: true; the input reads as it did. -/
def focusWaysUptoRow : OpenClaim := { program := "ytbkkecijcijhdaagreat", sum := "94dffbddee2a11d978c720f599e125f643070826e41620a7add966951b82ed77", func := "glazier/glazierlaw37.FocusWays", spec := "focusWays", inPlace := ["maps.clone"], unfollowed := true, recurses := true, apart := false, narrowed := true }
def FocusWaysUptoSaid : Prop := focusWaysUptoRow.holds Tryz.pinned (OpenSpec.upto focusWaysSpec)

/-- 'glazierlaw37.FocusAlone', WHERE WHAT IT READS IS OF BULK AT MOST 1048576: true; the input reads as it did. -/
def focusAloneUptoRow : OpenClaim := { program := "ytbkkecijcijhdaagreat", sum := "94dffbddee2a11d978c720f599e125f643070826e41620a7add966951b82ed77", func := "glazier/glazierlaw37.FocusAlone", spec := "focusAlone", inPlace := ["maps.clone"], unfollowed := true, recurses := true, apart := false, narrowed := true }
def FocusAloneUptoSaid : Prop := focusAloneUptoRow.holds Tryz.pinned (OpenSpec.upto focusAloneSpec)

/-- 'glazierlaw37.FocusSets', WHERE WHAT IT READS IS OF BULK AT MOST 1048576: true; the input reads as it did. -/
def focusSetsUptoRow : OpenClaim := { program := "ytbkkecijcijhdaagreat", sum := "94dffbddee2a11d978c720f599e125f643070826e41620a7add966951b82ed77", func := "glazier/glazierlaw37.FocusSets", spec := "focusSets", inPlace := ["maps.clone"], unfollowed := true, recurses := true, apart := false, narrowed := true }
def FocusSetsUptoSaid : Prop := focusSetsUptoRow.holds Tryz.pinned (OpenSpec.upto focusSetsSpec)

/-- 'glazierlaw37.FocusShows', WHERE WHAT IT READS IS OF BULK AT MOST 1048576: true; the input reads as it did. -/
def focusShowsUptoRow : OpenClaim := { program := "ytbkkecijcijhdaagreat", sum := "94dffbddee2a11d978c720f599e125f643070826e41620a7add966951b82ed77", func := "glazier/glazierlaw37.FocusShows", spec := "focusShows", inPlace := ["maps.clone"], unfollowed := true, recurses := true, apart := false, narrowed := true }
def FocusShowsUptoSaid : Prop := focusShowsUptoRow.holds Tryz.pinned (OpenSpec.upto focusShowsSpec)

/-- 'glazierlaw37.FocusSteps', WHERE WHAT IT READS IS OF BULK AT MOST 1048576: true; the input reads as it did. -/
def focusStepsUptoRow : OpenClaim := { program := "ytbkkecijcijhdaagreat", sum := "94dffbddee2a11d978c720f599e125f643070826e41620a7add966951b82ed77", func := "glazier/glazierlaw37.FocusSteps", spec := "focusSteps", inPlace := ["maps.clone"], unfollowed := true, recurses := true, apart := false, narrowed := true }
def FocusStepsUptoSaid : Prop := focusStepsUptoRow.holds Tryz.pinned (OpenSpec.upto focusStepsSpec)

end Rows
end Go.Proofs.YtbkkecijcijhdaaGreat
