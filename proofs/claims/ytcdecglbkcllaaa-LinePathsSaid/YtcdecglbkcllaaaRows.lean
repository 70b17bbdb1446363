/-
  No cell of these rows narrows 'for every input' (looked for: loops, veiled, ifaces, maps, wideKeys, modest, calm, conditions, laid).
  DERIVED. THE GIVEN ROWS OF THIS SEAT. 7 by the template 'for every input the law returns true; each argument reads behind the call as it read before'; 0 by the template 'total and deterministic' (their statements: YtcdecglbkcllaaaTotals.lean).
  GIVEN WITH THE SEED: the statements are not yours to turn. If you find one false, say at which input.
  Laid BY PROGRAM, IN A SANDBOX (cutbox-rows.mjs): the forced cells as the released guide's own fill.sh prints them over the translation c889866798018876… (all of the seat's roots in one cut). By AI agents, Wed Nov 11 2026. No macro, syntax, notation, axiom, sorry.
-/
import Derived.Test.YtcdecglbkcllaaaChecked
import GoSem.Claim
import GoSem.ClaimJoined
import GoSem.ClaimMapViews
import Derived.JoinedTies
import Derived.KernelRfl
namespace Go.Proofs.Ytcdecglbkcllaaa
/- THE CELL 'sum', in the pinned program and in every row, IS THE sha256 OF THE DUMP (.gsa) THAT YtcdecglbkcllaaaProg.lean LOADS. Nothing in Lean hashes anything: it is a label: what it is worth is what the hold of that sum in a sandbox is worth. -/
noncomputable def Try.pinned : Pinned := { name := "ytcdecglbkcllaaa", sum := "c889866798018876a167153a5052c21de6066f192027dd4670e6da2220963cc9", checked := Try.checked }
namespace Rows
def none {H : Type} : Left H := { results := [], args := [] }

/-- 'glazierlaw20.LinePixels': WHATEVER THE INPUT: true; the input reads as it did. -/
def linePixelsSpec : ChangeSpec := { name := "linePixels", fn := fun _ => fun
  | [d1, d2, d3] => { results := [.lit (.bool true)], args := [d1, d2, d3] }
  | _ => none }
def linePixelsRow : OpenClaim := { program := "ytcdecglbkcllaaa", sum := "c889866798018876a167153a5052c21de6066f192027dd4670e6da2220963cc9", func := "glazier/glazierlaw20.LinePixels", spec := "linePixels", unfollowed := true, recurses := true, apart := false }
def LinePixelsSaid : Prop := linePixelsRow.holds Try.pinned (OpenSpec.ofChange linePixelsSpec)

/-- ITS FALSE NEIGHBOUR: 'it returns false'. Refute it at one input. -/
def linePixelsWrong : ChangeSpec := { name := "linePixels", fn := fun _ => fun
  | [d1, d2, d3] => { results := [.lit (.bool false)], args := [d1, d2, d3] }
  | _ => none }
def LinePixelsWrongFalsely : Prop := linePixelsRow.holds Try.pinned (OpenSpec.ofChange linePixelsWrong)

/-- 'glazierlaw20.LineBack': WHATEVER THE INPUT: true; the input reads as it did. -/
def lineBackSpec : ChangeSpec := { name := "lineBack", fn := fun _ => fun
  | [d1, d2] => { results := [.lit (.bool true)], args := [d1, d2] }
  | _ => none }
def lineBackRow : OpenClaim := { program := "ytcdecglbkcllaaa", sum := "c889866798018876a167153a5052c21de6066f192027dd4670e6da2220963cc9", func := "glazier/glazierlaw20.LineBack", spec := "lineBack", unfollowed := true, recurses := true, apart := false }
def LineBackSaid : Prop := lineBackRow.holds Try.pinned (OpenSpec.ofChange lineBackSpec)

/-- ITS FALSE NEIGHBOUR: 'it returns false'. Refute it at one input. -/
def lineBackWrong : ChangeSpec := { name := "lineBack", fn := fun _ => fun
  | [d1, d2] => { results := [.lit (.bool false)], args := [d1, d2] }
  | _ => none }
def LineBackWrongFalsely : Prop := lineBackRow.holds Try.pinned (OpenSpec.ofChange lineBackWrong)

/-- 'glazierlaw20.LineMoves': WHATEVER THE INPUT: true; the input reads as it did. -/
def lineMovesSpec : ChangeSpec := { name := "lineMoves", fn := fun _ => fun
  | [d1, d2] => { results := [.lit (.bool true)], args := [d1, d2] }
  | _ => none }
def lineMovesRow : OpenClaim := { program := "ytcdecglbkcllaaa", sum := "c889866798018876a167153a5052c21de6066f192027dd4670e6da2220963cc9", func := "glazier/glazierlaw20.LineMoves", spec := "lineMoves", unfollowed := true, recurses := true, apart := false }
def LineMovesSaid : Prop := lineMovesRow.holds Try.pinned (OpenSpec.ofChange lineMovesSpec)

/-- ITS FALSE NEIGHBOUR: 'it returns false'. Refute it at one input. -/
def lineMovesWrong : ChangeSpec := { name := "lineMoves", fn := fun _ => fun
  | [d1, d2] => { results := [.lit (.bool false)], args := [d1, d2] }
  | _ => none }
def LineMovesWrongFalsely : Prop := lineMovesRow.holds Try.pinned (OpenSpec.ofChange lineMovesWrong)

/-- 'glazierlaw20.LineOn': WHATEVER THE INPUT: true; the input reads as it did. -/
def lineOnSpec : ChangeSpec := { name := "lineOn", fn := fun _ => fun
  | [d1, d2, d3] => { results := [.lit (.bool true)], args := [d1, d2, d3] }
  | _ => none }
def lineOnRow : OpenClaim := { program := "ytcdecglbkcllaaa", sum := "c889866798018876a167153a5052c21de6066f192027dd4670e6da2220963cc9", func := "glazier/glazierlaw20.LineOn", spec := "lineOn", unfollowed := true, recurses := true, apart := false }
def LineOnSaid : Prop := lineOnRow.holds Try.pinned (OpenSpec.ofChange lineOnSpec)

/-- ITS FALSE NEIGHBOUR: 'it returns false'. Refute it at one input. -/
def lineOnWrong : ChangeSpec := { name := "lineOn", fn := fun _ => fun
  | [d1, d2, d3] => { results := [.lit (.bool false)], args := [d1, d2, d3] }
  | _ => none }
def LineOnWrongFalsely : Prop := lineOnRow.holds Try.pinned (OpenSpec.ofChange lineOnWrong)

/-- 'glazierlaw20.LineClips': WHATEVER THE INPUT: true; the input reads as it did. -/
def lineClipsSpec : ChangeSpec := { name := "lineClips", fn := fun _ => fun
  | [d1, d2, d3] => { results := [.lit (.bool true)], args := [d1, d2, d3] }
  | _ => none }
def lineClipsRow : OpenClaim := { program := "ytcdecglbkcllaaa", sum := "c889866798018876a167153a5052c21de6066f192027dd4670e6da2220963cc9", func := "glazier/glazierlaw20.LineClips", spec := "lineClips", unfollowed := true, recurses := true, apart := false }
def LineClipsSaid : Prop := lineClipsRow.holds Try.pinned (OpenSpec.ofChange lineClipsSpec)

/-- ITS FALSE NEIGHBOUR: 'it returns false'. Refute it at one input. -/
def lineClipsWrong : ChangeSpec := { name := "lineClips", fn := fun _ => fun
  | [d1, d2, d3] => { results := [.lit (.bool false)], args := [d1, d2, d3] }
  | _ => none }
def LineClipsWrongFalsely : Prop := lineClipsRow.holds Try.pinned (OpenSpec.ofChange lineClipsWrong)

/-- 'glazierlaw20.LineWrong': WHATEVER THE INPUT: true; the input reads as it did. -/
def lineWrongSpec : ChangeSpec := { name := "lineWrong", fn := fun _ => fun
  | [d1, d2, d3] => { results := [.lit (.bool true)], args := [d1, d2, d3] }
  | _ => none }
def lineWrongRow : OpenClaim := { program := "ytcdecglbkcllaaa", sum := "c889866798018876a167153a5052c21de6066f192027dd4670e6da2220963cc9", func := "glazier/glazierlaw20.LineWrong", spec := "lineWrong", unfollowed := true, recurses := true, apart := false }
def LineWrongSaid : Prop := lineWrongRow.holds Try.pinned (OpenSpec.ofChange lineWrongSpec)

/-- ITS FALSE NEIGHBOUR: 'it returns false'. Refute it at one input. -/
def lineWrongWrong : ChangeSpec := { name := "lineWrong", fn := fun _ => fun
  | [d1, d2, d3] => { results := [.lit (.bool false)], args := [d1, d2, d3] }
  | _ => none }
def LineWrongWrongFalsely : Prop := lineWrongRow.holds Try.pinned (OpenSpec.ofChange lineWrongWrong)

/-- 'glazierlaw20.LinePaths': WHATEVER THE INPUT: true; the input reads as it did. -/
def linePathsSpec : ChangeSpec := { name := "linePaths", fn := fun _ => fun
  | [d1, d2] => { results := [.lit (.bool true)], args := [d1, d2] }
  | _ => none }
def linePathsRow : OpenClaim := { program := "ytcdecglbkcllaaa", sum := "c889866798018876a167153a5052c21de6066f192027dd4670e6da2220963cc9", func := "glazier/glazierlaw20.LinePaths", spec := "linePaths", unfollowed := true, recurses := true, apart := false }
def LinePathsSaid : Prop := linePathsRow.holds Try.pinned (OpenSpec.ofChange linePathsSpec)

/-- ITS FALSE NEIGHBOUR: 'it returns false'. Refute it at one input. -/
def linePathsWrong : ChangeSpec := { name := "linePaths", fn := fun _ => fun
  | [d1, d2] => { results := [.lit (.bool false)], args := [d1, d2] }
  | _ => none }
def LinePathsWrongFalsely : Prop := linePathsRow.holds Try.pinned (OpenSpec.ofChange linePathsWrong)

/- THE SECOND FORM. 'bulk': how many values and letters a reading holds, each counted each time it is reached (what is shared counts as often as it is met; a slice's spare places count too). A statement '..UptoSaid' is the law's where the arguments, and the package variables that the reading takes, are together of bulk at most 1048576: NARROWER than '..Said'. Prove '..Said' where nothing that the law and all that it calls make is longer than what came in: it says more and counts as full. Else prove '..UptoSaid'. A law counts once. -/
mutual
def uptoBulk {H : Type} : DataW H → Nat
  | .lit (.string bytes) => bytes.length + 1
  | .lit _ => 1
  | .nil => 1
  | .ptr d => uptoBulk d + 1
  | .slice elems spare => uptoBulkAll elems + uptoBulkAll spare + 1
  | .agg parts => uptoBulkAll parts + 1
  | .iface _ d => uptoBulk d + 1
  | .map entries => uptoBulkEntries entries + 1
  | .held _ => 1
def uptoBulkAll {H : Type} : List (DataW H) → Nat
  | [] => 0
  | d :: r => uptoBulk d + uptoBulkAll r
def uptoBulkEntries {H : Type} : List (Lit × DataW H) → Nat
  | [] => 0
  | x :: r => uptoBulkEntry x + uptoBulkEntries r
def uptoBulkEntry {H : Type} : Lit × DataW H → Nat
  | (.string bytes, d) => bytes.length + uptoBulk d + 1
  | (_, d) => uptoBulk d + 1
 end
def uptoSmall : (H : Type) → List (DataW H) → Bool := fun _ ds => decide (uptoBulkAll ds ≤ 1048576)
def OpenSpec.upto (s : _root_.Go.ChangeSpec) : _root_.Go.OpenSpec := { _root_.Go.OpenSpec.ofChange s with cond := some uptoSmall }

/-- 'glazierlaw20.LinePixels', WHERE WHAT IT READS IS OF BULK AT MOST 1048576: true; the input reads as it did. -/
def linePixelsUptoRow : OpenClaim := { program := "ytcdecglbkcllaaa", sum := "c889866798018876a167153a5052c21de6066f192027dd4670e6da2220963cc9", func := "glazier/glazierlaw20.LinePixels", spec := "linePixels", unfollowed := true, recurses := true, apart := false, narrowed := true }
def LinePixelsUptoSaid : Prop := linePixelsUptoRow.holds Try.pinned (OpenSpec.upto linePixelsSpec)

/-- 'glazierlaw20.LineBack', WHERE WHAT IT READS IS OF BULK AT MOST 1048576: true; the input reads as it did. -/
def lineBackUptoRow : OpenClaim := { program := "ytcdecglbkcllaaa", sum := "c889866798018876a167153a5052c21de6066f192027dd4670e6da2220963cc9", func := "glazier/glazierlaw20.LineBack", spec := "lineBack", unfollowed := true, recurses := true, apart := false, narrowed := true }
def LineBackUptoSaid : Prop := lineBackUptoRow.holds Try.pinned (OpenSpec.upto lineBackSpec)

/-- 'glazierlaw20.LineMoves', WHERE WHAT IT READS IS OF BULK AT MOST 1048576: true; the input reads as it did. -/
def lineMovesUptoRow : OpenClaim := { program := "ytcdecglbkcllaaa", sum := "c889866798018876a167153a5052c21de6066f192027dd4670e6da2220963cc9", func := "glazier/glazierlaw20.LineMoves", spec := "lineMoves", unfollowed := true, recurses := true, apart := false, narrowed := true }
def LineMovesUptoSaid : Prop := lineMovesUptoRow.holds Try.pinned (OpenSpec.upto lineMovesSpec)

/-- 'glazierlaw20.LineOn', WHERE WHAT IT READS IS OF BULK AT MOST 1048576: true; the input reads as it did. -/
def lineOnUptoRow : OpenClaim := { program := "ytcdecglbkcllaaa", sum := "c889866798018876a167153a5052c21de6066f192027dd4670e6da2220963cc9", func := "glazier/glazierlaw20.LineOn", spec := "lineOn", unfollowed := true, recurses := true, apart := false, narrowed := true }
def LineOnUptoSaid : Prop := lineOnUptoRow.holds Try.pinned (OpenSpec.upto lineOnSpec)

/-- 'glazierlaw20.LineClips', WHERE WHAT IT READS IS OF BULK AT MOST 1048576: true; the input reads as it did. -/
def lineClipsUptoRow : OpenClaim := { program := "ytcdecglbkcllaaa", sum := "c889866798018876a167153a5052c21de6066f192027dd4670e6da2220963cc9", func := "glazier/glazierlaw20.LineClips", spec := "lineClips", unfollowed := true, recurses := true, apart := false, narrowed := true }
def LineClipsUptoSaid : Prop := lineClipsUptoRow.holds Try.pinned (OpenSpec.upto lineClipsSpec)

/-- 'glazierlaw20.LineWrong', WHERE WHAT IT READS IS OF BULK AT MOST 1048576: true; the input reads as it did. -/
def lineWrongUptoRow : OpenClaim := { program := "ytcdecglbkcllaaa", sum := "c889866798018876a167153a5052c21de6066f192027dd4670e6da2220963cc9", func := "glazier/glazierlaw20.LineWrong", spec := "lineWrong", unfollowed := true, recurses := true, apart := false, narrowed := true }
def LineWrongUptoSaid : Prop := lineWrongUptoRow.holds Try.pinned (OpenSpec.upto lineWrongSpec)

/-- 'glazierlaw20.LinePaths', WHERE WHAT IT READS IS OF BULK AT MOST 1048576: true; the input reads as it did. -/
def linePathsUptoRow : OpenClaim := { program := "ytcdecglbkcllaaa", sum := "c889866798018876a167153a5052c21de6066f192027dd4670e6da2220963cc9", func := "glazier/glazierlaw20.LinePaths", spec := "linePaths", unfollowed := true, recurses := true, apart := false, narrowed := true }
def LinePathsUptoSaid : Prop := linePathsUptoRow.holds Try.pinned (OpenSpec.upto linePathsSpec)

end Rows
end Go.Proofs.Ytcdecglbkcllaaa
