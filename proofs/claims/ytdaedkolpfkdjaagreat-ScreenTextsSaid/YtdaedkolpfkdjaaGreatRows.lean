/-
  No cell of these rows narrows 'for every input' (looked for: loops, veiled, ifaces, maps, wideKeys, modest, calm, conditions, laid).
  DERIVED. THE GIVEN ROWS OF THIS SEAT. 15 by the template 'for every input the law returns true; each argument reads behind the call as it read before'; 0 by the template 'total and deterministic' (their statements: YtdaedkolpfkdjaaGreatTotals.lean).
  GIVEN WITH THE SEED: the statements are not yours to turn. If you find one false, say at which input.
  Laid BY PROGRAM, IN A SANDBOX (cutbox-rows.mjs): the forced cells as the released guide's own fill.sh prints them over the translation ef862abc642f0860… (all of the seat's roots in one cut). By AI agents, Wed Nov 11 2026. No macro, syntax, notation, axiom, sorry.
-/
import Derived.Test.YtdaedkolpfkdjaaGreatChecked
import GoSem.Claim
import GoSem.ClaimJoined
import GoSem.ClaimMapViews
import Derived.JoinedTies
import Derived.KernelRfl
namespace Go.Proofs.YtdaedkolpfkdjaaGreat
/- THE CELL 'sum', in the pinned program and in every row, IS THE sha256 OF THE DUMP (.gsa) THAT YtdaedkolpfkdjaaGreatProg.lean LOADS. Nothing in Lean hashes anything: it is a label: what it is worth is what the hold of that sum in a sandbox is worth. -/
noncomputable def Tryz.pinned : Pinned := { name := "ytdaedkolpfkdjaagreat", sum := "ef862abc642f0860cd464a1395715d6dc933c18d26a5fd16c12d1ff665fc63b5", checked := Tryz.checked }
namespace Rows
def none {H : Type} : Left H := { results := [], args := [] }

/-- 'glazierlaw31.ViewHidden': WHATEVER THE INPUT: true; the input reads as it did. -/
def viewHiddenSpec : ChangeSpec := { name := "viewHidden", fn := fun _ => fun
  | [d1, d2] => { results := [.lit (.bool true)], args := [d1, d2] }
  | _ => none }
def viewHiddenRow : OpenClaim := { program := "ytdaedkolpfkdjaagreat", sum := "ef862abc642f0860cd464a1395715d6dc933c18d26a5fd16c12d1ff665fc63b5", func := "glazier/glazierlaw31.ViewHidden", spec := "viewHidden", inPlace := ["maps.clone"], unfollowed := true, recurses := true, apart := false }
def ViewHiddenSaid : Prop := viewHiddenRow.holds Tryz.pinned (OpenSpec.ofChange viewHiddenSpec)

/-- ITS FALSE NEIGHBOUR: 'it returns false'. Refute it at one input. -/
def viewHiddenWrong : ChangeSpec := { name := "viewHidden", fn := fun _ => fun
  | [d1, d2] => { results := [.lit (.bool false)], args := [d1, d2] }
  | _ => none }
def ViewHiddenWrongFalsely : Prop := viewHiddenRow.holds Tryz.pinned (OpenSpec.ofChange viewHiddenWrong)

/-- 'glazierlaw31.ViewRaises': WHATEVER THE INPUT: true; the input reads as it did. -/
def viewRaisesSpec : ChangeSpec := { name := "viewRaises", fn := fun _ => fun
  | [d1, d2] => { results := [.lit (.bool true)], args := [d1, d2] }
  | _ => none }
def viewRaisesRow : OpenClaim := { program := "ytdaedkolpfkdjaagreat", sum := "ef862abc642f0860cd464a1395715d6dc933c18d26a5fd16c12d1ff665fc63b5", func := "glazier/glazierlaw31.ViewRaises", spec := "viewRaises", inPlace := ["maps.clone", "slices.overlaps[glazier/api.ID]"], unfollowed := true, recurses := true, apart := false }
def ViewRaisesSaid : Prop := viewRaisesRow.holds Tryz.pinned (OpenSpec.ofChange viewRaisesSpec)

/-- ITS FALSE NEIGHBOUR: 'it returns false'. Refute it at one input. -/
def viewRaisesWrong : ChangeSpec := { name := "viewRaises", fn := fun _ => fun
  | [d1, d2] => { results := [.lit (.bool false)], args := [d1, d2] }
  | _ => none }
def ViewRaisesWrongFalsely : Prop := viewRaisesRow.holds Tryz.pinned (OpenSpec.ofChange viewRaisesWrong)

/-- 'glazierlaw34.ScreenShows': WHATEVER THE INPUT: true; the input reads as it did. -/
def screenShowsSpec : ChangeSpec := { name := "screenShows", fn := fun _ => fun
  | [d1, d2, d3] => { results := [.lit (.bool true)], args := [d1, d2, d3] }
  | _ => none }
def screenShowsRow : OpenClaim := { program := "ytdaedkolpfkdjaagreat", sum := "ef862abc642f0860cd464a1395715d6dc933c18d26a5fd16c12d1ff665fc63b5", func := "glazier/glazierlaw34.ScreenShows", spec := "screenShows", inPlace := ["maps.clone", "internal/abi.NoEscape"], unfollowed := true, recurses := true, apart := false }
def ScreenShowsSaid : Prop := screenShowsRow.holds Tryz.pinned (OpenSpec.ofChange screenShowsSpec)

/-- ITS FALSE NEIGHBOUR: 'it returns false'. Refute it at one input. -/
def screenShowsWrong : ChangeSpec := { name := "screenShows", fn := fun _ => fun
  | [d1, d2, d3] => { results := [.lit (.bool false)], args := [d1, d2, d3] }
  | _ => none }
def ScreenShowsWrongFalsely : Prop := screenShowsRow.holds Tryz.pinned (OpenSpec.ofChange screenShowsWrong)

/-- 'glazierlaw34.ScreenUnmapped': WHATEVER THE INPUT: true; the input reads as it did. -/
def screenUnmappedSpec : ChangeSpec := { name := "screenUnmapped", fn := fun _ => fun
  | [d1, d2, d3] => { results := [.lit (.bool true)], args := [d1, d2, d3] }
  | _ => none }
def screenUnmappedRow : OpenClaim := { program := "ytdaedkolpfkdjaagreat", sum := "ef862abc642f0860cd464a1395715d6dc933c18d26a5fd16c12d1ff665fc63b5", func := "glazier/glazierlaw34.ScreenUnmapped", spec := "screenUnmapped", inPlace := ["maps.clone", "internal/abi.NoEscape"], unfollowed := true, recurses := true, apart := false }
def ScreenUnmappedSaid : Prop := screenUnmappedRow.holds Tryz.pinned (OpenSpec.ofChange screenUnmappedSpec)

/-- ITS FALSE NEIGHBOUR: 'it returns false'. Refute it at one input. -/
def screenUnmappedWrong : ChangeSpec := { name := "screenUnmapped", fn := fun _ => fun
  | [d1, d2, d3] => { results := [.lit (.bool false)], args := [d1, d2, d3] }
  | _ => none }
def ScreenUnmappedWrongFalsely : Prop := screenUnmappedRow.holds Tryz.pinned (OpenSpec.ofChange screenUnmappedWrong)

/-- 'glazierlaw34.ScreenDiffs': WHATEVER THE INPUT: true; the input reads as it did. -/
def screenDiffsSpec : ChangeSpec := { name := "screenDiffs", fn := fun _ => fun
  | [d1, d2, d3, d4, d5] => { results := [.lit (.bool true)], args := [d1, d2, d3, d4, d5] }
  | _ => none }
def screenDiffsRow : OpenClaim := { program := "ytdaedkolpfkdjaagreat", sum := "ef862abc642f0860cd464a1395715d6dc933c18d26a5fd16c12d1ff665fc63b5", func := "glazier/glazierlaw34.ScreenDiffs", spec := "screenDiffs", inPlace := ["maps.clone", "internal/abi.NoEscape"], unfollowed := true, recurses := true, apart := false }
def ScreenDiffsSaid : Prop := screenDiffsRow.holds Tryz.pinned (OpenSpec.ofChange screenDiffsSpec)

/-- ITS FALSE NEIGHBOUR: 'it returns false'. Refute it at one input. -/
def screenDiffsWrong : ChangeSpec := { name := "screenDiffs", fn := fun _ => fun
  | [d1, d2, d3, d4, d5] => { results := [.lit (.bool false)], args := [d1, d2, d3, d4, d5] }
  | _ => none }
def ScreenDiffsWrongFalsely : Prop := screenDiffsRow.holds Tryz.pinned (OpenSpec.ofChange screenDiffsWrong)

/-- 'glazierlaw34.ScreenCrops': WHATEVER THE INPUT: true; the input reads as it did. -/
def screenCropsSpec : ChangeSpec := { name := "screenCrops", fn := fun _ => fun
  | [d1, d2, d3, d4, d5] => { results := [.lit (.bool true)], args := [d1, d2, d3, d4, d5] }
  | _ => none }
def screenCropsRow : OpenClaim := { program := "ytdaedkolpfkdjaagreat", sum := "ef862abc642f0860cd464a1395715d6dc933c18d26a5fd16c12d1ff665fc63b5", func := "glazier/glazierlaw34.ScreenCrops", spec := "screenCrops", inPlace := ["maps.clone", "internal/abi.NoEscape"], unfollowed := true, recurses := true, apart := false }
def ScreenCropsSaid : Prop := screenCropsRow.holds Tryz.pinned (OpenSpec.ofChange screenCropsSpec)

/-- ITS FALSE NEIGHBOUR: 'it returns false'. Refute it at one input. -/
def screenCropsWrong : ChangeSpec := { name := "screenCrops", fn := fun _ => fun
  | [d1, d2, d3, d4, d5] => { results := [.lit (.bool false)], args := [d1, d2, d3, d4, d5] }
  | _ => none }
def ScreenCropsWrongFalsely : Prop := screenCropsRow.holds Tryz.pinned (OpenSpec.ofChange screenCropsWrong)

/-- 'glazierlaw34.ScreenLooks': WHATEVER THE INPUT: true; the input reads as it did. -/
def screenLooksSpec : ChangeSpec := { name := "screenLooks", fn := fun _ => fun
  | [d1, d2, d3] => { results := [.lit (.bool true)], args := [d1, d2, d3] }
  | _ => none }
def screenLooksRow : OpenClaim := { program := "ytdaedkolpfkdjaagreat", sum := "ef862abc642f0860cd464a1395715d6dc933c18d26a5fd16c12d1ff665fc63b5", func := "glazier/glazierlaw34.ScreenLooks", spec := "screenLooks", inPlace := ["maps.clone", "internal/abi.NoEscape"], unfollowed := true, recurses := true, apart := false }
def ScreenLooksSaid : Prop := screenLooksRow.holds Tryz.pinned (OpenSpec.ofChange screenLooksSpec)

/-- ITS FALSE NEIGHBOUR: 'it returns false'. Refute it at one input. -/
def screenLooksWrong : ChangeSpec := { name := "screenLooks", fn := fun _ => fun
  | [d1, d2, d3] => { results := [.lit (.bool false)], args := [d1, d2, d3] }
  | _ => none }
def ScreenLooksWrongFalsely : Prop := screenLooksRow.holds Tryz.pinned (OpenSpec.ofChange screenLooksWrong)

/-- 'glazierlaw34.ScreenSame': WHATEVER THE INPUT: true; the input reads as it did. -/
def screenSameSpec : ChangeSpec := { name := "screenSame", fn := fun _ => fun
  | [d] => { results := [.lit (.bool true)], args := [d] }
  | _ => none }
def screenSameRow : OpenClaim := { program := "ytdaedkolpfkdjaagreat", sum := "ef862abc642f0860cd464a1395715d6dc933c18d26a5fd16c12d1ff665fc63b5", func := "glazier/glazierlaw34.ScreenSame", spec := "screenSame", inPlace := ["maps.clone", "internal/abi.NoEscape"], unfollowed := true, recurses := true, apart := false }
def ScreenSameSaid : Prop := screenSameRow.holds Tryz.pinned (OpenSpec.ofChange screenSameSpec)

/-- ITS FALSE NEIGHBOUR: 'it returns false'. Refute it at one input. -/
def screenSameWrong : ChangeSpec := { name := "screenSame", fn := fun _ => fun
  | [d] => { results := [.lit (.bool false)], args := [d] }
  | _ => none }
def ScreenSameWrongFalsely : Prop := screenSameRow.holds Tryz.pinned (OpenSpec.ofChange screenSameWrong)

/-- 'glazierlaw34.ScreenTexts': WHATEVER THE INPUT: true; the input reads as it did. -/
def screenTextsSpec : ChangeSpec := { name := "screenTexts", fn := fun _ => fun
  | [d1, d2, d3, d4] => { results := [.lit (.bool true)], args := [d1, d2, d3, d4] }
  | _ => none }
def screenTextsRow : OpenClaim := { program := "ytdaedkolpfkdjaagreat", sum := "ef862abc642f0860cd464a1395715d6dc933c18d26a5fd16c12d1ff665fc63b5", func := "glazier/glazierlaw34.ScreenTexts", spec := "screenTexts", inPlace := ["maps.clone", "internal/abi.NoEscape", "internal/bytealg.IndexByteString", "internal/bytealg.IndexString"], unfollowed := true, recurses := true, named := ["internal/bytealg.MaxLen"], apart := false }
def ScreenTextsSaid : Prop := screenTextsRow.holds Tryz.pinned (OpenSpec.ofChange screenTextsSpec)

/-- ITS FALSE NEIGHBOUR: 'it returns false'. Refute it at one input. -/
def screenTextsWrong : ChangeSpec := { name := "screenTexts", fn := fun _ => fun
  | [d1, d2, d3, d4] => { results := [.lit (.bool false)], args := [d1, d2, d3, d4] }
  | _ => none }
def ScreenTextsWrongFalsely : Prop := screenTextsRow.holds Tryz.pinned (OpenSpec.ofChange screenTextsWrong)

/-- 'glazierlaw33.CanvasReturns': WHATEVER THE INPUT: true; the input reads as it did. -/
def canvasReturnsSpec : ChangeSpec := { name := "canvasReturns", fn := fun _ => fun
  | [d] => { results := [.lit (.bool true)], args := [d] }
  | _ => none }
def canvasReturnsRow : OpenClaim := { program := "ytdaedkolpfkdjaagreat", sum := "ef862abc642f0860cd464a1395715d6dc933c18d26a5fd16c12d1ff665fc63b5", func := "glazier/glazierlaw33.CanvasReturns", spec := "canvasReturns", inPlace := ["maps.clone"], unfollowed := true, recurses := true, apart := false }
def CanvasReturnsSaid : Prop := canvasReturnsRow.holds Tryz.pinned (OpenSpec.ofChange canvasReturnsSpec)

/-- ITS FALSE NEIGHBOUR: 'it returns false'. Refute it at one input. -/
def canvasReturnsWrong : ChangeSpec := { name := "canvasReturns", fn := fun _ => fun
  | [d] => { results := [.lit (.bool false)], args := [d] }
  | _ => none }
def CanvasReturnsWrongFalsely : Prop := canvasReturnsRow.holds Tryz.pinned (OpenSpec.ofChange canvasReturnsWrong)

/-- 'glazierlaw33.CanvasPlays': WHATEVER THE INPUT: true; the input reads as it did. -/
def canvasPlaysSpec : ChangeSpec := { name := "canvasPlays", fn := fun _ => fun
  | [d] => { results := [.lit (.bool true)], args := [d] }
  | _ => none }
def canvasPlaysRow : OpenClaim := { program := "ytdaedkolpfkdjaagreat", sum := "ef862abc642f0860cd464a1395715d6dc933c18d26a5fd16c12d1ff665fc63b5", func := "glazier/glazierlaw33.CanvasPlays", spec := "canvasPlays", inPlace := ["maps.clone"], unfollowed := true, recurses := true, apart := false }
def CanvasPlaysSaid : Prop := canvasPlaysRow.holds Tryz.pinned (OpenSpec.ofChange canvasPlaysSpec)

/-- ITS FALSE NEIGHBOUR: 'it returns false'. Refute it at one input. -/
def canvasPlaysWrong : ChangeSpec := { name := "canvasPlays", fn := fun _ => fun
  | [d] => { results := [.lit (.bool false)], args := [d] }
  | _ => none }
def CanvasPlaysWrongFalsely : Prop := canvasPlaysRow.holds Tryz.pinned (OpenSpec.ofChange canvasPlaysWrong)

/-- 'glazierlaw33.CanvasChanges': WHATEVER THE INPUT: true; the input reads as it did. -/
def canvasChangesSpec : ChangeSpec := { name := "canvasChanges", fn := fun _ => fun
  | [d] => { results := [.lit (.bool true)], args := [d] }
  | _ => none }
def canvasChangesRow : OpenClaim := { program := "ytdaedkolpfkdjaagreat", sum := "ef862abc642f0860cd464a1395715d6dc933c18d26a5fd16c12d1ff665fc63b5", func := "glazier/glazierlaw33.CanvasChanges", spec := "canvasChanges", inPlace := ["maps.clone"], unfollowed := true, recurses := true, apart := false }
def CanvasChangesSaid : Prop := canvasChangesRow.holds Tryz.pinned (OpenSpec.ofChange canvasChangesSpec)

/-- ITS FALSE NEIGHBOUR: 'it returns false'. Refute it at one input. -/
def canvasChangesWrong : ChangeSpec := { name := "canvasChanges", fn := fun _ => fun
  | [d] => { results := [.lit (.bool false)], args := [d] }
  | _ => none }
def CanvasChangesWrongFalsely : Prop := canvasChangesRow.holds Tryz.pinned (OpenSpec.ofChange canvasChangesWrong)

/-- 'glazierlaw33.CanvasFresh': WHATEVER THE INPUT: true; the input reads as it did. -/
def canvasFreshSpec : ChangeSpec := { name := "canvasFresh", fn := fun _ => fun
  | [d] => { results := [.lit (.bool true)], args := [d] }
  | _ => none }
def canvasFreshRow : OpenClaim := { program := "ytdaedkolpfkdjaagreat", sum := "ef862abc642f0860cd464a1395715d6dc933c18d26a5fd16c12d1ff665fc63b5", func := "glazier/glazierlaw33.CanvasFresh", spec := "canvasFresh", inPlace := ["maps.clone"], unfollowed := true, recurses := true, apart := false }
def CanvasFreshSaid : Prop := canvasFreshRow.holds Tryz.pinned (OpenSpec.ofChange canvasFreshSpec)

/-- ITS FALSE NEIGHBOUR: 'it returns false'. Refute it at one input. -/
def canvasFreshWrong : ChangeSpec := { name := "canvasFresh", fn := fun _ => fun
  | [d] => { results := [.lit (.bool false)], args := [d] }
  | _ => none }
def CanvasFreshWrongFalsely : Prop := canvasFreshRow.holds Tryz.pinned (OpenSpec.ofChange canvasFreshWrong)

/-- 'glazierlaw33.CanvasStays': WHATEVER THE INPUT: true; the input reads as it did. -/
def canvasStaysSpec : ChangeSpec := { name := "canvasStays", fn := fun _ => fun
  | [d] => { results := [.lit (.bool true)], args := [d] }
  | _ => none }
def canvasStaysRow : OpenClaim := { program := "ytdaedkolpfkdjaagreat", sum := "ef862abc642f0860cd464a1395715d6dc933c18d26a5fd16c12d1ff665fc63b5", func := "glazier/glazierlaw33.CanvasStays", spec := "canvasStays", inPlace := ["maps.clone"], unfollowed := true, recurses := true, apart := false }
def CanvasStaysSaid : Prop := canvasStaysRow.holds Tryz.pinned (OpenSpec.ofChange canvasStaysSpec)

/-- ITS FALSE NEIGHBOUR: 'it returns false'. Refute it at one input. -/
def canvasStaysWrong : ChangeSpec := { name := "canvasStays", fn := fun _ => fun
  | [d] => { results := [.lit (.bool false)], args := [d] }
  | _ => none }
def CanvasStaysWrongFalsely : Prop := canvasStaysRow.holds Tryz.pinned (OpenSpec.ofChange canvasStaysWrong)

/-- 'glazierlaw33.CanvasClips': WHATEVER THE INPUT: true; the input reads as it did. -/
def canvasClipsSpec : ChangeSpec := { name := "canvasClips", fn := fun _ => fun
  | [d1, d2, d3, d4, d5, d6] => { results := [.lit (.bool true)], args := [d1, d2, d3, d4, d5, d6] }
  | _ => none }
def canvasClipsRow : OpenClaim := { program := "ytdaedkolpfkdjaagreat", sum := "ef862abc642f0860cd464a1395715d6dc933c18d26a5fd16c12d1ff665fc63b5", func := "glazier/glazierlaw33.CanvasClips", spec := "canvasClips", inPlace := ["maps.clone"], unfollowed := true, recurses := true, apart := false }
def CanvasClipsSaid : Prop := canvasClipsRow.holds Tryz.pinned (OpenSpec.ofChange canvasClipsSpec)

/-- ITS FALSE NEIGHBOUR: 'it returns false'. Refute it at one input. -/
def canvasClipsWrong : ChangeSpec := { name := "canvasClips", fn := fun _ => fun
  | [d1, d2, d3, d4, d5, d6] => { results := [.lit (.bool false)], args := [d1, d2, d3, d4, d5, d6] }
  | _ => none }
def CanvasClipsWrongFalsely : Prop := canvasClipsRow.holds Tryz.pinned (OpenSpec.ofChange canvasClipsWrong)

/- THE SECOND FORM. 'bulk': how many values and letters a reading holds, each counted each time it is reached (what is shared counts as often as it is met; a slice's spare places count too). A statement '..UptoSaid' is the law's where the arguments, and the package variables that the reading takes, are together of bulk at most 1048576: NARROWER than '..Said'. Prove '..Said' where nothing that the law and all that it calls make is longer than what came in: it says more and counts as full. Else prove '..UptoSaid'. A law counts once. -/
mutual
def uptoBulk {H : Type} : DataW H → Nat
  | .lit (.string bytes) => bytes.length + 1
  | .lit _ => 1
  | .nil => 1
  | .ptr d => uptoBulk d + 1
  | .slice elems spare => uptoBulkAll elems + uptoBulkAll spare + 1
  | .agg parts => uptoBulkAll parts + 1
  | .iface _ d => uptoBulk d + 1
  | .map entries => uptoBulkEntries entries + 1
  | .held _ => 1
def uptoBulkAll {H : Type} : List (DataW H) → Nat
  | [] => 0
  | d :: r => uptoBulk d + uptoBulkAll r
def uptoBulkEntries {H : Type} : List (Lit × DataW H) → Nat
  | [] => 0
  | x :: r => uptoBulkEntry x + uptoBulkEntries r
def uptoBulkEntry {H : Type} : Lit × DataW H → Nat
  | (.string bytes, d) => bytes.length + uptoBulk d + 1
  | (_, d) => uptoBulk d + 1
 end
def uptoSmall : (H : Type) → List (DataW H) → Bool := fun _ ds => decide (uptoBulkAll ds ≤ 1048576)
def OpenSpec.upto (s : _root_.Go.ChangeSpec) : _root_.Go.OpenSpec := { _root_.Go.OpenSpec.ofChange s with cond := some uptoSmall }

/-- 'glazierlaw31.ViewHidden', WHERE WHAT IT READS IS OF BULK AT MOST 1048576: true; the input reads as it did. -/
def viewHiddenUptoRow : OpenClaim := { program := "ytdaedkolpfkdjaagreat", sum := "ef862abc642f0860cd464a1395715d6dc933c18d26a5fd16c12d1ff665fc63b5", func := "glazier/glazierlaw31.ViewHidden", spec := "viewHidden", inPlace := ["maps.clone"], unfollowed := true, recurses := true, apart := false, narrowed := true }
def ViewHiddenUptoSaid : Prop := viewHiddenUptoRow.holds Tryz.pinned (OpenSpec.upto viewHiddenSpec)

/-- 'glazierlaw31.ViewRaises', WHERE WHAT IT READS IS OF BULK AT MOST 1048576: true; the input reads as it did. -/
def viewRaisesUptoRow : OpenClaim := { program := "ytdaedkolpfkdjaagreat", sum := "ef862abc642f0860cd464a1395715d6dc933c18d26a5fd16c12d1ff665fc63b5", func := "glazier/glazierlaw31.ViewRaises", spec := "viewRaises", inPlace := ["maps.clone", "slices.overlaps[glazier/api.ID]"], unfollowed := true, recurses := true, apart := false, narrowed := true }
def ViewRaisesUptoSaid : Prop := viewRaisesUptoRow.holds Tryz.pinned (OpenSpec.upto viewRaisesSpec)

/-- 'glazierlaw34.ScreenShows', WHERE WHAT IT READS IS OF BULK AT MOST 1048576: true; the input reads as it did. -/
def screenShowsUptoRow : OpenClaim := { program := "ytdaedkolpfkdjaagreat", sum := "ef862abc642f0860cd464a1395715d6dc933c18d26a5fd16c12d1ff665fc63b5", func := "glazier/glazierlaw34.ScreenShows", spec := "screenShows", inPlace := ["maps.clone", "internal/abi.NoEscape"], unfollowed := true, recurses := true, apart := false, narrowed := true }
def ScreenShowsUptoSaid : Prop := screenShowsUptoRow.holds Tryz.pinned (OpenSpec.upto screenShowsSpec)

/-- 'glazierlaw34.ScreenUnmapped', WHERE WHAT IT READS IS OF BULK AT MOST 1048576: true; the input reads as it did. -/
def screenUnmappedUptoRow : OpenClaim := { program := "ytdaedkolpfkdjaagreat", sum := "ef862abc642f0860cd464a1395715d6dc933c18d26a5fd16c12d1ff665fc63b5", func := "glazier/glazierlaw34.ScreenUnmapped", spec := "screenUnmapped", inPlace := ["maps.clone", "internal/abi.NoEscape"], unfollowed := true, recurses := true, apart := false, narrowed := true }
def ScreenUnmappedUptoSaid : Prop := screenUnmappedUptoRow.holds Tryz.pinned (OpenSpec.upto screenUnmappedSpec)

/-- 'glazierlaw34.ScreenDiffs', WHERE WHAT IT READS IS OF BULK AT MOST 1048576: true; the input reads as it did. -/
def screenDiffsUptoRow : OpenClaim := { program := "ytdaedkolpfkdjaagreat", sum := "ef862abc642f0860cd464a1395715d6dc933c18d26a5fd16c12d1ff665fc63b5", func := "glazier/glazierlaw34.ScreenDiffs", spec := "screenDiffs", inPlace := ["maps.clone", "internal/abi.NoEscape"], unfollowed := true, recurses := true, apart := false, narrowed := true }
def ScreenDiffsUptoSaid : Prop := screenDiffsUptoRow.holds Tryz.pinned (OpenSpec.upto screenDiffsSpec)

/-- 'glazierlaw34.ScreenCrops', WHERE WHAT IT READS IS OF BULK AT MOST 1048576: true; the input reads as it did. -/
def screenCropsUptoRow : OpenClaim := { program := "ytdaedkolpfkdjaagreat", sum := "ef862abc642f0860cd464a1395715d6dc933c18d26a5fd16c12d1ff665fc63b5", func := "glazier/glazierlaw34.ScreenCrops", spec := "screenCrops", inPlace := ["maps.clone", "internal/abi.NoEscape"], unfollowed := true, recurses := true, apart := false, narrowed := true }
def ScreenCropsUptoSaid : Prop := screenCropsUptoRow.holds Tryz.pinned (OpenSpec.upto screenCropsSpec)

/-- 'glazierlaw34.ScreenLooks', WHERE WHAT IT READS IS OF BULK AT MOST 1048576: true; the input reads as it did. -/
def screenLooksUptoRow : OpenClaim := { program := "ytdaedkolpfkdjaagreat", sum := "ef862abc642f0860cd464a1395715d6dc933c18d26a5fd16c12d1ff665fc63b5", func := "glazier/glazierlaw34.ScreenLooks", spec := "screenLooks", inPlace := ["maps.clone", "internal/abi.NoEscape"], unfollowed := true, recurses := true, apart := false, narrowed := true }
def ScreenLooksUptoSaid : Prop := screenLooksUptoRow.holds Tryz.pinned (OpenSpec.upto screenLooksSpec)

/-- 'glazierlaw34.ScreenSame', WHERE WHAT IT READS IS OF BULK AT MOST 1048576: true; the input reads as it did. -/
def screenSameUptoRow : OpenClaim := { program := "ytdaedkolpfkdjaagreat", sum := "ef862abc642f0860cd464a1395715d6dc933c18d26a5fd16c12d1ff665fc63b5", func := "glazier/glazierlaw34.ScreenSame", spec := "screenSame", inPlace := ["maps.clone", "internal/abi.NoEscape"], unfollowed := true, recurses := true, apart := false, narrowed := true }
def ScreenSameUptoSaid : Prop := screenSameUptoRow.holds Tryz.pinned (OpenSpec.upto screenSameSpec)

/-- 'glazierlaw34.ScreenTexts', WHERE WHAT IT READS IS OF BULK AT MOST 1048576: true; the input reads as it did. -/
def screenTextsUptoRow : OpenClaim := { program := "ytdaedkolpfkdjaagreat", sum := "ef862abc642f0860cd464a1395715d6dc933c18d26a5fd16c12d1ff665fc63b5", func := "glazier/glazierlaw34.ScreenTexts", spec := "screenTexts", inPlace := ["maps.clone", "internal/abi.NoEscape", "internal/bytealg.IndexByteString", "internal/bytealg.IndexString"], unfollowed := true, recurses := true, named := ["internal/bytealg.MaxLen"], apart := false, narrowed := true }
def ScreenTextsUptoSaid : Prop := screenTextsUptoRow.holds Tryz.pinned (OpenSpec.upto screenTextsSpec)

/-- 'glazierlaw33.CanvasReturns', WHERE WHAT IT READS IS OF BULK AT MOST 1048576: true; the input reads as it did. -/
def canvasReturnsUptoRow : OpenClaim := { program := "ytdaedkolpfkdjaagreat", sum := "ef862abc642f0860cd464a1395715d6dc933c18d26a5fd16c12d1ff665fc63b5", func := "glazier/glazierlaw33.CanvasReturns", spec := "canvasReturns", inPlace := ["maps.clone"], unfollowed := true, recurses := true, apart := false, narrowed := true }
def CanvasReturnsUptoSaid : Prop := canvasReturnsUptoRow.holds Tryz.pinned (OpenSpec.upto canvasReturnsSpec)

/-- 'glazierlaw33.CanvasPlays', WHERE WHAT IT READS IS OF BULK AT MOST 1048576: true; the input reads as it did. -/
def canvasPlaysUptoRow : OpenClaim := { program := "ytdaedkolpfkdjaagreat", sum := "ef862abc642f0860cd464a1395715d6dc933c18d26a5fd16c12d1ff665fc63b5", func := "glazier/glazierlaw33.CanvasPlays", spec := "canvasPlays", inPlace := ["maps.clone"], unfollowed := true, recurses := true, apart := false, narrowed := true }
def CanvasPlaysUptoSaid : Prop := canvasPlaysUptoRow.holds Tryz.pinned (OpenSpec.upto canvasPlaysSpec)

/-- 'glazierlaw33.CanvasChanges', WHERE WHAT IT READS IS OF BULK AT MOST 1048576: true; the input reads as it did. -/
def canvasChangesUptoRow : OpenClaim := { program := "ytdaedkolpfkdjaagreat", sum := "ef862abc642f0860cd464a1395715d6dc933c18d26a5fd16c12d1ff665fc63b5", func := "glazier/glazierlaw33.CanvasChanges", spec := "canvasChanges", inPlace := ["maps.clone"], unfollowed := true, recurses := true, apart := false, narrowed := true }
def CanvasChangesUptoSaid : Prop := canvasChangesUptoRow.holds Tryz.pinned (OpenSpec.upto canvasChangesSpec)

/-- 'glazierlaw33.CanvasFresh', WHERE WHAT IT READS IS OF BULK AT MOST 1048576: true; the input reads as it did. -/
def canvasFreshUptoRow : OpenClaim := { program := "ytdaedkolpfkdjaagreat", sum := "ef862abc642f0860cd464a1395715d6dc933c18d26a5fd16c12d1ff665fc63b5", func := "glazier/glazierlaw33.CanvasFresh", spec := "canvasFresh", inPlace := ["maps.clone"], unfollowed := true, recurses := true, apart := false, narrowed := true }
def CanvasFreshUptoSaid : Prop := canvasFreshUptoRow.holds Tryz.pinned (OpenSpec.upto canvasFreshSpec)

/-- 'glazierlaw33.CanvasStays', WHERE WHAT IT READS IS OF BULK AT MOST 1048576: true; the input reads as it did. -/
def canvasStaysUptoRow : OpenClaim := { program := "ytdaedkolpfkdjaagreat", sum := "ef862abc642f0860cd464a1395715d6dc933c18d26a5fd16c12d1ff665fc63b5", func := "glazier/glazierlaw33.CanvasStays", spec := "canvasStays", inPlace := ["maps.clone"], unfollowed := true, recurses := true, apart := false, narrowed := true }
def CanvasStaysUptoSaid : Prop := canvasStaysUptoRow.holds Tryz.pinned (OpenSpec.upto canvasStaysSpec)

/-- 'glazierlaw33.CanvasClips', WHERE WHAT IT READS IS OF BULK AT MOST 1048576: true; the input reads as it did. -/
def canvasClipsUptoRow : OpenClaim := { program := "ytdaedkolpfkdjaagreat", sum := "ef862abc642f0860cd464a1395715d6dc933c18d26a5fd16c12d1ff665fc63b5", func := "glazier/glazierlaw33.CanvasClips", spec := "canvasClips", inPlace := ["maps.clone"], unfollowed := true, recurses := true, apart := false, narrowed := true }
def CanvasClipsUptoSaid : Prop := canvasClipsUptoRow.holds Tryz.pinned (OpenSpec.upto canvasClipsSpec)

end Rows
end Go.Proofs.YtdaedkolpfkdjaaGreat
