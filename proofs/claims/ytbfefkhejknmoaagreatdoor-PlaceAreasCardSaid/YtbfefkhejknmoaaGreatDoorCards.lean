/-
  DERIVED. GIVEN WITH THE SEED: THE CARDS: each row of YtbfefkhejknmoaaGreatDoorRows.lean that lists a variable, with what it lists TIED to the program's text (the seventh form; the later family's looks); each row that meets fmt, with fmt's text TOLD by the authors' own Lean function (tested against real Go, not proved from fmt's source: count such statements apart). THE CARD IS WHAT COUNTS. Prove the row's statement (the work); the ties are given (YtbfefkhejknmoaaGreatDoorTie.lean); close each card by the builder's one call (the guide's Derived/Test/ToyasCard.lean, 'card_holds'). Laid BY PROGRAM, IN A SANDBOX (cutbox-door.mjs). By AI agents, Wed Nov 11 2026. No macro, syntax, notation, axiom, sorry.
-/
import Derived.Test.YtbfefkhejknmoaaGreatDoorRows
import GoSem.ClaimSeven
namespace Go.Proofs.YtbfefkhejknmoaaGreatDoor
namespace Rows

/-- THE TIED CARD OF 'glazierlaw30.PlaceBack'. -/
def placeBackCard : Claim7 := { stood := { row := placeBackRow, standIns := [], harness := (true, "7e18aa3ce4ce8d08ea2eccc5da179edd956af2dc673a182403e55aabf4ae2175"), looks := true }, kinds := [], alts := [], laidByText := true, laidKinds := [.data], laidTests := true, laidLooks := .later }
def PlaceBackCardSaid : Prop := Claim7.holds Tryz.pinned (.plain (OpenSpec.ofChange placeBackSpec)) placeBackCard

/-- THE TIED CARD OF 'glazierlaw30.PlaceMany'. -/
def placeManyCard : Claim7 := { stood := { row := placeManyRow, standIns := [], harness := (true, "7e18aa3ce4ce8d08ea2eccc5da179edd956af2dc673a182403e55aabf4ae2175"), looks := true }, kinds := [], alts := [], laidByText := true, laidKinds := [.data], laidTests := true, laidLooks := .later }
def PlaceManyCardSaid : Prop := Claim7.holds Tryz.pinned (.plain (OpenSpec.ofChange placeManySpec)) placeManyCard

/-- THE TIED CARD OF 'glazierlaw30.PlaceMoves'. -/
def placeMovesCard : Claim7 := { stood := { row := placeMovesRow, standIns := [], harness := (true, "7e18aa3ce4ce8d08ea2eccc5da179edd956af2dc673a182403e55aabf4ae2175"), looks := true }, kinds := [], alts := [], laidByText := true, laidKinds := [.data], laidTests := true, laidLooks := .later }
def PlaceMovesCardSaid : Prop := Claim7.holds Tryz.pinned (.plain (OpenSpec.ofChange placeMovesSpec)) placeMovesCard

/-- THE TIED CARD OF 'glazierlaw30.PlaceAreas'. -/
def placeAreasCard : Claim7 := { stood := { row := placeAreasRow, standIns := [], harness := (true, "7e18aa3ce4ce8d08ea2eccc5da179edd956af2dc673a182403e55aabf4ae2175"), looks := true }, kinds := [], alts := [], laidByText := true, laidKinds := [.data], laidTests := true, laidLooks := .later }
def PlaceAreasCardSaid : Prop := Claim7.holds Tryz.pinned (.plain (OpenSpec.ofChange placeAreasSpec)) placeAreasCard

/-- THE TIED CARD OF 'glazierlaw30.PlaceSets'. -/
def placeSetsCard : Claim7 := { stood := { row := placeSetsRow, standIns := [], harness := (true, "7e18aa3ce4ce8d08ea2eccc5da179edd956af2dc673a182403e55aabf4ae2175"), looks := true }, kinds := [], alts := [], laidByText := true, laidKinds := [.data], laidTests := true, laidLooks := .later }
def PlaceSetsCardSaid : Prop := Claim7.holds Tryz.pinned (.plain (OpenSpec.ofChange placeSetsSpec)) placeSetsCard

/-- THE SECOND FORM's CARD OF 'glazierlaw30.PlaceBack'. -/
def placeBackUptoCard : Claim7 := { stood := { row := placeBackUptoRow, standIns := [], harness := (true, "7e18aa3ce4ce8d08ea2eccc5da179edd956af2dc673a182403e55aabf4ae2175"), looks := true }, kinds := [], alts := [], laidByText := true, laidKinds := [.data], laidTests := true, laidLooks := .later }
def PlaceBackUptoCardSaid : Prop := Claim7.holds Tryz.pinned (.plain (OpenSpec.upto placeBackSpec)) placeBackUptoCard

/-- THE SECOND FORM's CARD OF 'glazierlaw30.PlaceMany'. -/
def placeManyUptoCard : Claim7 := { stood := { row := placeManyUptoRow, standIns := [], harness := (true, "7e18aa3ce4ce8d08ea2eccc5da179edd956af2dc673a182403e55aabf4ae2175"), looks := true }, kinds := [], alts := [], laidByText := true, laidKinds := [.data], laidTests := true, laidLooks := .later }
def PlaceManyUptoCardSaid : Prop := Claim7.holds Tryz.pinned (.plain (OpenSpec.upto placeManySpec)) placeManyUptoCard

/-- THE SECOND FORM's CARD OF 'glazierlaw30.PlaceMoves'. -/
def placeMovesUptoCard : Claim7 := { stood := { row := placeMovesUptoRow, standIns := [], harness := (true, "7e18aa3ce4ce8d08ea2eccc5da179edd956af2dc673a182403e55aabf4ae2175"), looks := true }, kinds := [], alts := [], laidByText := true, laidKinds := [.data], laidTests := true, laidLooks := .later }
def PlaceMovesUptoCardSaid : Prop := Claim7.holds Tryz.pinned (.plain (OpenSpec.upto placeMovesSpec)) placeMovesUptoCard

/-- THE SECOND FORM's CARD OF 'glazierlaw30.PlaceAreas'. -/
def placeAreasUptoCard : Claim7 := { stood := { row := placeAreasUptoRow, standIns := [], harness := (true, "7e18aa3ce4ce8d08ea2eccc5da179edd956af2dc673a182403e55aabf4ae2175"), looks := true }, kinds := [], alts := [], laidByText := true, laidKinds := [.data], laidTests := true, laidLooks := .later }
def PlaceAreasUptoCardSaid : Prop := Claim7.holds Tryz.pinned (.plain (OpenSpec.upto placeAreasSpec)) placeAreasUptoCard

/-- THE SECOND FORM's CARD OF 'glazierlaw30.PlaceSets'. -/
def placeSetsUptoCard : Claim7 := { stood := { row := placeSetsUptoRow, standIns := [], harness := (true, "7e18aa3ce4ce8d08ea2eccc5da179edd956af2dc673a182403e55aabf4ae2175"), looks := true }, kinds := [], alts := [], laidByText := true, laidKinds := [.data], laidTests := true, laidLooks := .later }
def PlaceSetsUptoCardSaid : Prop := Claim7.holds Tryz.pinned (.plain (OpenSpec.upto placeSetsSpec)) placeSetsUptoCard
end Rows
end Go.Proofs.YtbfefkhejknmoaaGreatDoor
