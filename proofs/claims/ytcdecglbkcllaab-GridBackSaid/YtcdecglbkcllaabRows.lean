/-
  No cell of these rows narrows 'for every input' (looked for: loops, veiled, ifaces, maps, wideKeys, modest, calm, conditions, laid).
  DERIVED. THE GIVEN ROWS OF THIS SEAT. 7 by the template 'for every input the law returns true; each argument reads behind the call as it read before'; 0 by the template 'total and deterministic' (their statements: YtcdecglbkcllaabTotals.lean).
  GIVEN WITH THE SEED: the statements are not yours to turn. If you find one false, say at which input.
  Laid BY PROGRAM, IN A SANDBOX (cutbox-rows.mjs): the forced cells as the released guide's own fill.sh prints them over the translation 2744c2261cec0271… (all of the seat's roots in one cut). By AI agents, Wed Nov 11 2026. No macro, syntax, notation, axiom, sorry.
-/
import Derived.Test.YtcdecglbkcllaabChecked
import GoSem.Claim
import GoSem.ClaimJoined
import GoSem.ClaimMapViews
import Derived.JoinedTies
import Derived.KernelRfl
namespace Go.Proofs.Ytcdecglbkcllaab
/- THE CELL 'sum', in the pinned program and in every row, IS THE sha256 OF THE DUMP (.gsa) THAT YtcdecglbkcllaabProg.lean LOADS. Nothing in Lean hashes anything: it is a label: what it is worth is what the hold of that sum in a sandbox is worth. -/
noncomputable def Try.pinned : Pinned := { name := "ytcdecglbkcllaab", sum := "2744c2261cec02714da40ae3a0cfca301bcbcd47702bc85fd4dc0f62d827bf95", checked := Try.checked }
namespace Rows
def none {H : Type} : Left H := { results := [], args := [] }

/-- 'glazierlaw17.GridNew': WHATEVER THE INPUT: true; the input reads as it did. -/
def gridNewSpec : ChangeSpec := { name := "gridNew", fn := fun _ => fun
  | [d1, d2, d3] => { results := [.lit (.bool true)], args := [d1, d2, d3] }
  | _ => none }
def gridNewRow : OpenClaim := { program := "ytcdecglbkcllaab", sum := "2744c2261cec02714da40ae3a0cfca301bcbcd47702bc85fd4dc0f62d827bf95", func := "glazier/glazierlaw17.GridNew", spec := "gridNew", apart := false }
def GridNewSaid : Prop := gridNewRow.holds Try.pinned (OpenSpec.ofChange gridNewSpec)

/-- ITS FALSE NEIGHBOUR: 'it returns false'. Refute it at one input. -/
def gridNewWrong : ChangeSpec := { name := "gridNew", fn := fun _ => fun
  | [d1, d2, d3] => { results := [.lit (.bool false)], args := [d1, d2, d3] }
  | _ => none }
def GridNewWrongFalsely : Prop := gridNewRow.holds Try.pinned (OpenSpec.ofChange gridNewWrong)

/-- 'glazierlaw17.GridCrops': WHATEVER THE INPUT: true; the input reads as it did. -/
def gridCropsSpec : ChangeSpec := { name := "gridCrops", fn := fun _ => fun
  | [d1, d2, d3] => { results := [.lit (.bool true)], args := [d1, d2, d3] }
  | _ => none }
def gridCropsRow : OpenClaim := { program := "ytcdecglbkcllaab", sum := "2744c2261cec02714da40ae3a0cfca301bcbcd47702bc85fd4dc0f62d827bf95", func := "glazier/glazierlaw17.GridCrops", spec := "gridCrops", apart := false }
def GridCropsSaid : Prop := gridCropsRow.holds Try.pinned (OpenSpec.ofChange gridCropsSpec)

/-- ITS FALSE NEIGHBOUR: 'it returns false'. Refute it at one input. -/
def gridCropsWrong : ChangeSpec := { name := "gridCrops", fn := fun _ => fun
  | [d1, d2, d3] => { results := [.lit (.bool false)], args := [d1, d2, d3] }
  | _ => none }
def GridCropsWrongFalsely : Prop := gridCropsRow.holds Try.pinned (OpenSpec.ofChange gridCropsWrong)

/-- 'glazierlaw17.GridSets': WHATEVER THE INPUT: true; the input reads as it did. -/
def gridSetsSpec : ChangeSpec := { name := "gridSets", fn := fun _ => fun
  | [d1, d2] => { results := [.lit (.bool true)], args := [d1, d2] }
  | _ => none }
def gridSetsRow : OpenClaim := { program := "ytcdecglbkcllaab", sum := "2744c2261cec02714da40ae3a0cfca301bcbcd47702bc85fd4dc0f62d827bf95", func := "glazier/glazierlaw17.GridSets", spec := "gridSets", apart := false }
def GridSetsSaid : Prop := gridSetsRow.holds Try.pinned (OpenSpec.ofChange gridSetsSpec)

/-- ITS FALSE NEIGHBOUR: 'it returns false'. Refute it at one input. -/
def gridSetsWrong : ChangeSpec := { name := "gridSets", fn := fun _ => fun
  | [d1, d2] => { results := [.lit (.bool false)], args := [d1, d2] }
  | _ => none }
def GridSetsWrongFalsely : Prop := gridSetsRow.holds Try.pinned (OpenSpec.ofChange gridSetsWrong)

/-- 'glazierlaw17.GridFills': WHATEVER THE INPUT: true; the input reads as it did. -/
def gridFillsSpec : ChangeSpec := { name := "gridFills", fn := fun _ => fun
  | [d1, d2, d3] => { results := [.lit (.bool true)], args := [d1, d2, d3] }
  | _ => none }
def gridFillsRow : OpenClaim := { program := "ytcdecglbkcllaab", sum := "2744c2261cec02714da40ae3a0cfca301bcbcd47702bc85fd4dc0f62d827bf95", func := "glazier/glazierlaw17.GridFills", spec := "gridFills", unfollowed := true, recurses := true, apart := false }
def GridFillsSaid : Prop := gridFillsRow.holds Try.pinned (OpenSpec.ofChange gridFillsSpec)

/-- ITS FALSE NEIGHBOUR: 'it returns false'. Refute it at one input. -/
def gridFillsWrong : ChangeSpec := { name := "gridFills", fn := fun _ => fun
  | [d1, d2, d3] => { results := [.lit (.bool false)], args := [d1, d2, d3] }
  | _ => none }
def GridFillsWrongFalsely : Prop := gridFillsRow.holds Try.pinned (OpenSpec.ofChange gridFillsWrong)

/-- 'glazierlaw17.GridLays': WHATEVER THE INPUT: true; the input reads as it did. -/
def gridLaysSpec : ChangeSpec := { name := "gridLays", fn := fun _ => fun
  | [d1, d2, d3, d4, d5] => { results := [.lit (.bool true)], args := [d1, d2, d3, d4, d5] }
  | _ => none }
def gridLaysRow : OpenClaim := { program := "ytcdecglbkcllaab", sum := "2744c2261cec02714da40ae3a0cfca301bcbcd47702bc85fd4dc0f62d827bf95", func := "glazier/glazierlaw17.GridLays", spec := "gridLays", unfollowed := true, recurses := true, apart := false }
def GridLaysSaid : Prop := gridLaysRow.holds Try.pinned (OpenSpec.ofChange gridLaysSpec)

/-- ITS FALSE NEIGHBOUR: 'it returns false'. Refute it at one input. -/
def gridLaysWrong : ChangeSpec := { name := "gridLays", fn := fun _ => fun
  | [d1, d2, d3, d4, d5] => { results := [.lit (.bool false)], args := [d1, d2, d3, d4, d5] }
  | _ => none }
def GridLaysWrongFalsely : Prop := gridLaysRow.holds Try.pinned (OpenSpec.ofChange gridLaysWrong)

/-- 'glazierlaw17.GridBack': WHATEVER THE INPUT: true; the input reads as it did. -/
def gridBackSpec : ChangeSpec := { name := "gridBack", fn := fun _ => fun
  | [d1, d2, d3, d4, d5] => { results := [.lit (.bool true)], args := [d1, d2, d3, d4, d5] }
  | _ => none }
def gridBackRow : OpenClaim := { program := "ytcdecglbkcllaab", sum := "2744c2261cec02714da40ae3a0cfca301bcbcd47702bc85fd4dc0f62d827bf95", func := "glazier/glazierlaw17.GridBack", spec := "gridBack", unfollowed := true, recurses := true, apart := false }
def GridBackSaid : Prop := gridBackRow.holds Try.pinned (OpenSpec.ofChange gridBackSpec)

/-- ITS FALSE NEIGHBOUR: 'it returns false'. Refute it at one input. -/
def gridBackWrong : ChangeSpec := { name := "gridBack", fn := fun _ => fun
  | [d1, d2, d3, d4, d5] => { results := [.lit (.bool false)], args := [d1, d2, d3, d4, d5] }
  | _ => none }
def GridBackWrongFalsely : Prop := gridBackRow.holds Try.pinned (OpenSpec.ofChange gridBackWrong)

/-- 'glazierlaw17.GridZero': WHATEVER THE INPUT: true; the input reads as it did. -/
def gridZeroSpec : ChangeSpec := { name := "gridZero", fn := fun _ => fun
  | [] => { results := [.lit (.bool true)], args := [] }
  | _ => none }
def gridZeroRow : OpenClaim := { program := "ytcdecglbkcllaab", sum := "2744c2261cec02714da40ae3a0cfca301bcbcd47702bc85fd4dc0f62d827bf95", func := "glazier/glazierlaw17.GridZero", spec := "gridZero", unfollowed := true, recurses := true, apart := false }
def GridZeroSaid : Prop := gridZeroRow.holds Try.pinned (OpenSpec.ofChange gridZeroSpec)

/-- ITS FALSE NEIGHBOUR: 'it returns false'. Refute it at one input. -/
def gridZeroWrong : ChangeSpec := { name := "gridZero", fn := fun _ => fun
  | [] => { results := [.lit (.bool false)], args := [] }
  | _ => none }
def GridZeroWrongFalsely : Prop := gridZeroRow.holds Try.pinned (OpenSpec.ofChange gridZeroWrong)

/- THE SECOND FORM. 'bulk': how many values and letters a reading holds, each counted each time it is reached (what is shared counts as often as it is met; a slice's spare places count too). A statement '..UptoSaid' is the law's where the arguments, and the package variables that the reading takes, are together of bulk at most 1048576: NARROWER than '..Said'. Prove '..Said' where nothing that the law and all that it calls make is longer than what came in: it says more and counts as full. Else prove '..UptoSaid'. A law counts once. -/
mutual
def uptoBulk {H : Type} : DataW H → Nat
  | .lit (.string bytes) => bytes.length + 1
  | .lit _ => 1
  | .nil => 1
  | .ptr d => uptoBulk d + 1
  | .slice elems spare => uptoBulkAll elems + uptoBulkAll spare + 1
  | .agg parts => uptoBulkAll parts + 1
  | .iface _ d => uptoBulk d + 1
  | .map entries => uptoBulkEntries entries + 1
  | .held _ => 1
def uptoBulkAll {H : Type} : List (DataW H) → Nat
  | [] => 0
  | d :: r => uptoBulk d + uptoBulkAll r
def uptoBulkEntries {H : Type} : List (Lit × DataW H) → Nat
  | [] => 0
  | x :: r => uptoBulkEntry x + uptoBulkEntries r
def uptoBulkEntry {H : Type} : Lit × DataW H → Nat
  | (.string bytes, d) => bytes.length + uptoBulk d + 1
  | (_, d) => uptoBulk d + 1
 end
def uptoSmall : (H : Type) → List (DataW H) → Bool := fun _ ds => decide (uptoBulkAll ds ≤ 1048576)
def OpenSpec.upto (s : _root_.Go.ChangeSpec) : _root_.Go.OpenSpec := { _root_.Go.OpenSpec.ofChange s with cond := some uptoSmall }

/-- 'glazierlaw17.GridNew', WHERE WHAT IT READS IS OF BULK AT MOST 1048576: true; the input reads as it did. -/
def gridNewUptoRow : OpenClaim := { program := "ytcdecglbkcllaab", sum := "2744c2261cec02714da40ae3a0cfca301bcbcd47702bc85fd4dc0f62d827bf95", func := "glazier/glazierlaw17.GridNew", spec := "gridNew", apart := false, narrowed := true }
def GridNewUptoSaid : Prop := gridNewUptoRow.holds Try.pinned (OpenSpec.upto gridNewSpec)

/-- 'glazierlaw17.GridCrops', WHERE WHAT IT READS IS OF BULK AT MOST 1048576: true; the input reads as it did. -/
def gridCropsUptoRow : OpenClaim := { program := "ytcdecglbkcllaab", sum := "2744c2261cec02714da40ae3a0cfca301bcbcd47702bc85fd4dc0f62d827bf95", func := "glazier/glazierlaw17.GridCrops", spec := "gridCrops", apart := false, narrowed := true }
def GridCropsUptoSaid : Prop := gridCropsUptoRow.holds Try.pinned (OpenSpec.upto gridCropsSpec)

/-- 'glazierlaw17.GridSets', WHERE WHAT IT READS IS OF BULK AT MOST 1048576: true; the input reads as it did. -/
def gridSetsUptoRow : OpenClaim := { program := "ytcdecglbkcllaab", sum := "2744c2261cec02714da40ae3a0cfca301bcbcd47702bc85fd4dc0f62d827bf95", func := "glazier/glazierlaw17.GridSets", spec := "gridSets", apart := false, narrowed := true }
def GridSetsUptoSaid : Prop := gridSetsUptoRow.holds Try.pinned (OpenSpec.upto gridSetsSpec)

/-- 'glazierlaw17.GridFills', WHERE WHAT IT READS IS OF BULK AT MOST 1048576: true; the input reads as it did. -/
def gridFillsUptoRow : OpenClaim := { program := "ytcdecglbkcllaab", sum := "2744c2261cec02714da40ae3a0cfca301bcbcd47702bc85fd4dc0f62d827bf95", func := "glazier/glazierlaw17.GridFills", spec := "gridFills", unfollowed := true, recurses := true, apart := false, narrowed := true }
def GridFillsUptoSaid : Prop := gridFillsUptoRow.holds Try.pinned (OpenSpec.upto gridFillsSpec)

/-- 'glazierlaw17.GridLays', WHERE WHAT IT READS IS OF BULK AT MOST 1048576: true; the input reads as it did. -/
def gridLaysUptoRow : OpenClaim := { program := "ytcdecglbkcllaab", sum := "2744c2261cec02714da40ae3a0cfca301bcbcd47702bc85fd4dc0f62d827bf95", func := "glazier/glazierlaw17.GridLays", spec := "gridLays", unfollowed := true, recurses := true, apart := false, narrowed := true }
def GridLaysUptoSaid : Prop := gridLaysUptoRow.holds Try.pinned (OpenSpec.upto gridLaysSpec)

/-- 'glazierlaw17.GridBack', WHERE WHAT IT READS IS OF BULK AT MOST 1048576: true; the input reads as it did. -/
def gridBackUptoRow : OpenClaim := { program := "ytcdecglbkcllaab", sum := "2744c2261cec02714da40ae3a0cfca301bcbcd47702bc85fd4dc0f62d827bf95", func := "glazier/glazierlaw17.GridBack", spec := "gridBack", unfollowed := true, recurses := true, apart := false, narrowed := true }
def GridBackUptoSaid : Prop := gridBackUptoRow.holds Try.pinned (OpenSpec.upto gridBackSpec)

/-- 'glazierlaw17.GridZero', WHERE WHAT IT READS IS OF BULK AT MOST 1048576: true; the input reads as it did. -/
def gridZeroUptoRow : OpenClaim := { program := "ytcdecglbkcllaab", sum := "2744c2261cec02714da40ae3a0cfca301bcbcd47702bc85fd4dc0f62d827bf95", func := "glazier/glazierlaw17.GridZero", spec := "gridZero", unfollowed := true, recurses := true, apart := false, narrowed := true }
def GridZeroUptoSaid : Prop := gridZeroUptoRow.holds Try.pinned (OpenSpec.upto gridZeroSpec)

end Rows
end Go.Proofs.Ytcdecglbkcllaab
