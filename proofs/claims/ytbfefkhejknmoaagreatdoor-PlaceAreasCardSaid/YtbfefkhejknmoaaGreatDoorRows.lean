/-
  NARROWER THAN 'FOR EVERY INPUT', by the rows' own cells (each row's printed sentence says how): PlaceBack: laid · PlaceMany: laid · PlaceMoves: laid · PlaceAreas: laid · PlaceSets: laid.
  DERIVED. THE GIVEN ROWS OF THIS SEAT. 5 by the template 'for every input the law returns true; each argument reads behind the call as it read before'; 0 by the template 'total and deterministic' (their statements: YtbfefkhejknmoaaGreatDoorTotals.lean).
  GIVEN WITH THE SEED: the statements are not yours to turn. If you find one false, say at which input.
  Laid BY PROGRAM, IN A SANDBOX (cutbox-rows.mjs): the forced cells as the released guide's own fill.sh prints them over the translation 9d330516e6411c9a… (all of the seat's roots in one cut). By AI agents, Wed Nov 11 2026. No macro, syntax, notation, axiom, sorry.
-/
import Derived.Test.YtbfefkhejknmoaaGreatDoorChecked
import GoSem.Claim
import GoSem.ClaimJoined
import GoSem.ClaimMapViews
import Derived.JoinedTies
import Derived.KernelRfl
namespace Go.Proofs.YtbfefkhejknmoaaGreatDoor
/- THE CELL 'sum', in the pinned program and in every row, IS THE sha256 OF THE DUMP (.gsa) THAT YtbfefkhejknmoaaGreatDoorProg.lean LOADS. Nothing in Lean hashes anything: it is a label: what it is worth is what the hold of that sum in a sandbox is worth. -/
noncomputable def Tryz.pinned : Pinned := { name := "ytbfefkhejknmoaagreatdoor", sum := "9d330516e6411c9ab1a8c644dd14878275b87a96547ee4bb4b480652b1c7deab", checked := Tryz.checked }
namespace Rows
def none {H : Type} : Left H := { results := [], args := [] }

/- WHAT THE LISTED PACKAGE-LEVEL VARIABLES READ AS WHEN THE CALL BEGINS. Each datum BY PROGRAM (the guide's laid-datum.mjs) off the statement by which the dump's own 'gosem.cut.vars' lays the variable. In a bare row this is a premise. The card (YtbfefkhejknmoaaGreatDoorCards.lean) ties it to the program's text. -/
def laid_glazier_gravity_halves {H : Type} : DataW H := .agg [.agg [.lit (.int .i64 0), .lit (.int .i64 0)], .agg [.lit (.int .i64 0), .lit (.int .i64 0)], .agg [.lit (.int .i64 1), .lit (.int .i64 0)], .agg [.lit (.int .i64 2), .lit (.int .i64 0)], .agg [.lit (.int .i64 0), .lit (.int .i64 1)], .agg [.lit (.int .i64 1), .lit (.int .i64 1)], .agg [.lit (.int .i64 2), .lit (.int .i64 1)], .agg [.lit (.int .i64 0), .lit (.int .i64 2)], .agg [.lit (.int .i64 1), .lit (.int .i64 2)], .agg [.lit (.int .i64 2), .lit (.int .i64 2)]]

/-- 'glazierlaw30.PlaceBack': WHATEVER THE INPUT: true; the input reads as it did. -/
def placeBackSpec : ChangeSpec := { name := "placeBack", fn := fun _ => fun
  | [d1, d2, d3] => { results := [.lit (.bool true)], args := [d1, d2, d3] }
  | _ => none }
def placeBackRow : OpenClaim := { program := "ytbfefkhejknmoaagreatdoor", sum := "9d330516e6411c9ab1a8c644dd14878275b87a96547ee4bb4b480652b1c7deab", func := "glazier/glazierlaw30.PlaceBack", spec := "placeBack", inPlace := ["maps.clone"], unfollowed := true, recurses := true, named := ["glazier/gravity.halves"], apart := false, laid := [("glazier/gravity.halves", laid_glazier_gravity_halves)] }
def PlaceBackSaid : Prop := placeBackRow.holds Tryz.pinned (OpenSpec.ofChange placeBackSpec)

/-- ITS FALSE NEIGHBOUR: 'it returns false'. Refute it at one input. -/
def placeBackWrong : ChangeSpec := { name := "placeBack", fn := fun _ => fun
  | [d1, d2, d3] => { results := [.lit (.bool false)], args := [d1, d2, d3] }
  | _ => none }
def PlaceBackWrongFalsely : Prop := placeBackRow.holds Tryz.pinned (OpenSpec.ofChange placeBackWrong)

/-- 'glazierlaw30.PlaceMany': WHATEVER THE INPUT: true; the input reads as it did. -/
def placeManySpec : ChangeSpec := { name := "placeMany", fn := fun _ => fun
  | [d] => { results := [.lit (.bool true)], args := [d] }
  | _ => none }
def placeManyRow : OpenClaim := { program := "ytbfefkhejknmoaagreatdoor", sum := "9d330516e6411c9ab1a8c644dd14878275b87a96547ee4bb4b480652b1c7deab", func := "glazier/glazierlaw30.PlaceMany", spec := "placeMany", inPlace := ["maps.clone"], unfollowed := true, recurses := true, named := ["glazier/gravity.halves"], apart := false, laid := [("glazier/gravity.halves", laid_glazier_gravity_halves)] }
def PlaceManySaid : Prop := placeManyRow.holds Tryz.pinned (OpenSpec.ofChange placeManySpec)

/-- ITS FALSE NEIGHBOUR: 'it returns false'. Refute it at one input. -/
def placeManyWrong : ChangeSpec := { name := "placeMany", fn := fun _ => fun
  | [d] => { results := [.lit (.bool false)], args := [d] }
  | _ => none }
def PlaceManyWrongFalsely : Prop := placeManyRow.holds Tryz.pinned (OpenSpec.ofChange placeManyWrong)

/-- 'glazierlaw30.PlaceMoves': WHATEVER THE INPUT: true; the input reads as it did. -/
def placeMovesSpec : ChangeSpec := { name := "placeMoves", fn := fun _ => fun
  | [d1, d2, d3, d4] => { results := [.lit (.bool true)], args := [d1, d2, d3, d4] }
  | _ => none }
def placeMovesRow : OpenClaim := { program := "ytbfefkhejknmoaagreatdoor", sum := "9d330516e6411c9ab1a8c644dd14878275b87a96547ee4bb4b480652b1c7deab", func := "glazier/glazierlaw30.PlaceMoves", spec := "placeMoves", inPlace := ["maps.clone"], unfollowed := true, recurses := true, named := ["glazier/gravity.halves"], apart := false, laid := [("glazier/gravity.halves", laid_glazier_gravity_halves)] }
def PlaceMovesSaid : Prop := placeMovesRow.holds Tryz.pinned (OpenSpec.ofChange placeMovesSpec)

/-- ITS FALSE NEIGHBOUR: 'it returns false'. Refute it at one input. -/
def placeMovesWrong : ChangeSpec := { name := "placeMoves", fn := fun _ => fun
  | [d1, d2, d3, d4] => { results := [.lit (.bool false)], args := [d1, d2, d3, d4] }
  | _ => none }
def PlaceMovesWrongFalsely : Prop := placeMovesRow.holds Tryz.pinned (OpenSpec.ofChange placeMovesWrong)

/-- 'glazierlaw30.PlaceAreas': WHATEVER THE INPUT: true; the input reads as it did. -/
def placeAreasSpec : ChangeSpec := { name := "placeAreas", fn := fun _ => fun
  | [d1, d2] => { results := [.lit (.bool true)], args := [d1, d2] }
  | _ => none }
def placeAreasRow : OpenClaim := { program := "ytbfefkhejknmoaagreatdoor", sum := "9d330516e6411c9ab1a8c644dd14878275b87a96547ee4bb4b480652b1c7deab", func := "glazier/glazierlaw30.PlaceAreas", spec := "placeAreas", inPlace := ["maps.clone"], unfollowed := true, recurses := true, named := ["glazier/gravity.halves"], apart := false, laid := [("glazier/gravity.halves", laid_glazier_gravity_halves)] }
def PlaceAreasSaid : Prop := placeAreasRow.holds Tryz.pinned (OpenSpec.ofChange placeAreasSpec)

/-- ITS FALSE NEIGHBOUR: 'it returns false'. Refute it at one input. -/
def placeAreasWrong : ChangeSpec := { name := "placeAreas", fn := fun _ => fun
  | [d1, d2] => { results := [.lit (.bool false)], args := [d1, d2] }
  | _ => none }
def PlaceAreasWrongFalsely : Prop := placeAreasRow.holds Tryz.pinned (OpenSpec.ofChange placeAreasWrong)

/-- 'glazierlaw30.PlaceSets': WHATEVER THE INPUT: true; the input reads as it did. -/
def placeSetsSpec : ChangeSpec := { name := "placeSets", fn := fun _ => fun
  | [d1, d2] => { results := [.lit (.bool true)], args := [d1, d2] }
  | _ => none }
def placeSetsRow : OpenClaim := { program := "ytbfefkhejknmoaagreatdoor", sum := "9d330516e6411c9ab1a8c644dd14878275b87a96547ee4bb4b480652b1c7deab", func := "glazier/glazierlaw30.PlaceSets", spec := "placeSets", inPlace := ["maps.clone"], unfollowed := true, recurses := true, named := ["glazier/gravity.halves"], apart := false, laid := [("glazier/gravity.halves", laid_glazier_gravity_halves)] }
def PlaceSetsSaid : Prop := placeSetsRow.holds Tryz.pinned (OpenSpec.ofChange placeSetsSpec)

/-- ITS FALSE NEIGHBOUR: 'it returns false'. Refute it at one input. -/
def placeSetsWrong : ChangeSpec := { name := "placeSets", fn := fun _ => fun
  | [d1, d2] => { results := [.lit (.bool false)], args := [d1, d2] }
  | _ => none }
def PlaceSetsWrongFalsely : Prop := placeSetsRow.holds Tryz.pinned (OpenSpec.ofChange placeSetsWrong)

/- THE SECOND FORM. 'bulk': how many values and letters a reading holds, each counted each time it is reached (what is shared counts as often as it is met; a slice's spare places count too). A statement '..UptoSaid' is the law's where the arguments, and the package variables that the reading takes, are together of bulk at most 1048576: NARROWER than '..Said'. Prove '..Said' where nothing that the law and all that it calls make is longer than what came in: it says more and counts as full. Else prove '..UptoSaid'. A law counts once. -/
mutual
def uptoBulk {H : Type} : DataW H → Nat
  | .lit (.string bytes) => bytes.length + 1
  | .lit _ => 1
  | .nil => 1
  | .ptr d => uptoBulk d + 1
  | .slice elems spare => uptoBulkAll elems + uptoBulkAll spare + 1
  | .agg parts => uptoBulkAll parts + 1
  | .iface _ d => uptoBulk d + 1
  | .map entries => uptoBulkEntries entries + 1
  | .held _ => 1
def uptoBulkAll {H : Type} : List (DataW H) → Nat
  | [] => 0
  | d :: r => uptoBulk d + uptoBulkAll r
def uptoBulkEntries {H : Type} : List (Lit × DataW H) → Nat
  | [] => 0
  | x :: r => uptoBulkEntry x + uptoBulkEntries r
def uptoBulkEntry {H : Type} : Lit × DataW H → Nat
  | (.string bytes, d) => bytes.length + uptoBulk d + 1
  | (_, d) => uptoBulk d + 1
 end
def uptoSmall : (H : Type) → List (DataW H) → Bool := fun _ ds => decide (uptoBulkAll ds ≤ 1048576)
def OpenSpec.upto (s : _root_.Go.ChangeSpec) : _root_.Go.OpenSpec := { _root_.Go.OpenSpec.ofChange s with cond := some uptoSmall }

/-- 'glazierlaw30.PlaceBack', WHERE WHAT IT READS IS OF BULK AT MOST 1048576: true; the input reads as it did. -/
def placeBackUptoRow : OpenClaim := { program := "ytbfefkhejknmoaagreatdoor", sum := "9d330516e6411c9ab1a8c644dd14878275b87a96547ee4bb4b480652b1c7deab", func := "glazier/glazierlaw30.PlaceBack", spec := "placeBack", inPlace := ["maps.clone"], unfollowed := true, recurses := true, named := ["glazier/gravity.halves"], apart := false, laid := [("glazier/gravity.halves", laid_glazier_gravity_halves)], narrowed := true }
def PlaceBackUptoSaid : Prop := placeBackUptoRow.holds Tryz.pinned (OpenSpec.upto placeBackSpec)

/-- 'glazierlaw30.PlaceMany', WHERE WHAT IT READS IS OF BULK AT MOST 1048576: true; the input reads as it did. -/
def placeManyUptoRow : OpenClaim := { program := "ytbfefkhejknmoaagreatdoor", sum := "9d330516e6411c9ab1a8c644dd14878275b87a96547ee4bb4b480652b1c7deab", func := "glazier/glazierlaw30.PlaceMany", spec := "placeMany", inPlace := ["maps.clone"], unfollowed := true, recurses := true, named := ["glazier/gravity.halves"], apart := false, laid := [("glazier/gravity.halves", laid_glazier_gravity_halves)], narrowed := true }
def PlaceManyUptoSaid : Prop := placeManyUptoRow.holds Tryz.pinned (OpenSpec.upto placeManySpec)

/-- 'glazierlaw30.PlaceMoves', WHERE WHAT IT READS IS OF BULK AT MOST 1048576: true; the input reads as it did. -/
def placeMovesUptoRow : OpenClaim := { program := "ytbfefkhejknmoaagreatdoor", sum := "9d330516e6411c9ab1a8c644dd14878275b87a96547ee4bb4b480652b1c7deab", func := "glazier/glazierlaw30.PlaceMoves", spec := "placeMoves", inPlace := ["maps.clone"], unfollowed := true, recurses := true, named := ["glazier/gravity.halves"], apart := false, laid := [("glazier/gravity.halves", laid_glazier_gravity_halves)], narrowed := true }
def PlaceMovesUptoSaid : Prop := placeMovesUptoRow.holds Tryz.pinned (OpenSpec.upto placeMovesSpec)

/-- 'glazierlaw30.PlaceAreas', WHERE WHAT IT READS IS OF BULK AT MOST 1048576: true; the input reads as it did. -/
def placeAreasUptoRow : OpenClaim := { program := "ytbfefkhejknmoaagreatdoor", sum := "9d330516e6411c9ab1a8c644dd14878275b87a96547ee4bb4b480652b1c7deab", func := "glazier/glazierlaw30.PlaceAreas", spec := "placeAreas", inPlace := ["maps.clone"], unfollowed := true, recurses := true, named := ["glazier/gravity.halves"], apart := false, laid := [("glazier/gravity.halves", laid_glazier_gravity_halves)], narrowed := true }
def PlaceAreasUptoSaid : Prop := placeAreasUptoRow.holds Tryz.pinned (OpenSpec.upto placeAreasSpec)

/-- 'glazierlaw30.PlaceSets', WHERE WHAT IT READS IS OF BULK AT MOST 1048576: true; the input reads as it did. -/
def placeSetsUptoRow : OpenClaim := { program := "ytbfefkhejknmoaagreatdoor", sum := "9d330516e6411c9ab1a8c644dd14878275b87a96547ee4bb4b480652b1c7deab", func := "glazier/glazierlaw30.PlaceSets", spec := "placeSets", inPlace := ["maps.clone"], unfollowed := true, recurses := true, named := ["glazier/gravity.halves"], apart := false, laid := [("glazier/gravity.halves", laid_glazier_gravity_halves)], narrowed := true }
def PlaceSetsUptoSaid : Prop := placeSetsUptoRow.holds Tryz.pinned (OpenSpec.upto placeSetsSpec)

end Rows
end Go.Proofs.YtbfefkhejknmoaaGreatDoor
