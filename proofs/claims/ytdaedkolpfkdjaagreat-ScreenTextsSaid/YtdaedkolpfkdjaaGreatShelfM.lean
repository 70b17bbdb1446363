/-
  DERIVED: THE SHELF's CONTRACTS AT THIS DUMP, IN PLAIN WORDS (tools/lay-plain.mjs out of 'YtdaedkolpfkdjaaGreatShelfM.lean', which tools/lay-shelf.mjs wrote): THE SAME DECLARATIONS UNDER THE SAME NAMES: 'import', 'namespace', 'open', 'def', 'theorem' AND NOTHING ELSE: no command of the shelf's: FOR A HAND-IN. Each laying: the table of numbers ('.._ren') and one theorem, a field a fact of the dump's own or the kernel's comparison; each contract: ONE APPLICATION.
-/
import Derived.Shelf.SlMaps.Clone
import Derived.Ground.SlmcProg
import Derived.Test.YtdaedkolpfkdjaaGreatProg
namespace Go.Proofs
open Go.Shelf
def Tryz.cloneBoxes_ren : Go.Shelf.Ren := ⟨fun | 5 => 179 | 7 => 202 | n => n, fun | 23 => 38 | 25 => 48 | 3 => 133 | 4 => 4 | 20 => 20 | n => n, fun | n => n⟩
theorem Tryz.cloneBoxes : Go.Proofs.SlLaysW.n5 Tryz.prog Tryz.cloneBoxes_ren := {
  mixed := by kernel_rfl
  f5 := ⟨Tryz.f179.name, by decide, Tryz.func179.trans (congrArg some (by kernel_rfl))⟩
  f7 := Tryz.func202.trans (congrArg some (by kernel_rfl))
  t4 := Tryz.underlying4
  a4 := Tryz.isAgg4
  z4 := Tryz.sizeOf4
  v4 := Tryz.zeroValue4
  t20 := Tryz.underlying20
  a20 := Tryz.isAgg20
  z20 := Tryz.sizeOf20
  v20 := Tryz.zeroValue20
  t23 := Tryz.underlying38
  a23 := Tryz.isAgg38
  z23 := Tryz.sizeOf38
  v23 := Tryz.zeroValue38 }
end Go.Proofs
