/-
  DERIVED: THE SHELF's CONTRACTS AT THIS DUMP, IN PLAIN WORDS (tools/lay-plain.mjs out of 'YtdaedkolpfkdjaaGreatShelf.lean', which tools/lay-shelf.mjs wrote): THE SAME DECLARATIONS UNDER THE SAME NAMES: 'import', 'namespace', 'open', 'def', 'theorem' AND NOTHING ELSE: no command of the shelf's: FOR A HAND-IN. Each laying: the table of numbers ('.._ren') and one theorem, a field a fact of the dump's own or the kernel's comparison; each contract: ONE APPLICATION.
-/
import Derived.Shelf.SlSortCmp.WholeK
import Derived.Ground.SlsfProg
import Derived.Shelf.SlGeneric
import Derived.Shelf.Small.Bits
import Derived.Shelf.Small.Strs
import Derived.Shelf.Strconv.Itoa0
import Derived.Shelf.Strings.Search1
import Derived.Shelf.Strings.Search2
import Derived.Shelf.Strings.Cut
import Derived.Shelf.LaysM
import Derived.Shelf.Strings.Shaped
import Derived.Shelf.Sort.Plain
import Derived.Ground.Names2Prog
import Derived.Shelf.Slices.CompactI
import Derived.Shelf.Slices.Cells
import Derived.Shelf.Slices.In.SortNone
import Derived.Test.YtdaedkolpfkdjaaGreatProg
namespace Go.Proofs
open Go.Shelf
def Tryz.lays189_ren : Go.Shelf.Ren := ⟨fun | 189 => 173 | 125 => 171 | 257 => 201 | 128 => 199 | 129 => 200 | 294 => 210 | 295 => 211 | 296 => 212 | 297 => 213 | 298 => 214 | 299 => 215 | 216 => 216 | 300 => 217 | 301 => 218 | 328 => 223 | 329 => 206 | 330 => 207 | 331 => 224 | 332 => 225 | 215 => 172 | 343 => 227 | n => n, fun | 28 => 243 | 3 => 3 | 46 => 208 | 0 => 0 | 51 => 47 | 53 => 306 | 4 => 4 | 183 => 299 | 182 => 298 | 131 => 231 | 5 => 5 | 9 => 9 | 218 => 313 | 222 => 317 | 228 => 325 | 229 => 27 | n => n, fun | n => n⟩
theorem Tryz.lays189 : Go.Proofs.Lays.n189 Tryz.prog Tryz.lays189_ren := {
  mixed := by kernel_rfl
  f125 := Tryz.func171.trans (congrArg some (by kernel_rfl))
  f128 := Tryz.func199.trans (congrArg some (by kernel_rfl))
  f129 := Tryz.func200.trans (congrArg some (by kernel_rfl))
  f189 := Tryz.func173.trans (congrArg some (by kernel_rfl))
  f215 := Tryz.func172.trans (congrArg some (by kernel_rfl))
  f216 := Tryz.func216.trans (congrArg some (by kernel_rfl))
  f257 := Tryz.func201.trans (congrArg some (by kernel_rfl))
  f294 := Tryz.func210.trans (congrArg some (by kernel_rfl))
  f295 := Tryz.func211.trans (congrArg some (by kernel_rfl))
  f296 := Tryz.func212.trans (congrArg some (by kernel_rfl))
  f297 := Tryz.func213.trans (congrArg some (by kernel_rfl))
  f298 := Tryz.func214.trans (congrArg some (by kernel_rfl))
  f299 := Tryz.func215.trans (congrArg some (by kernel_rfl))
  f300 := Tryz.func217.trans (congrArg some (by kernel_rfl))
  f301 := Tryz.func218.trans (congrArg some (by kernel_rfl))
  f328 := Tryz.func223.trans (congrArg some (by kernel_rfl))
  f329 := Tryz.func206.trans (congrArg some (by kernel_rfl))
  f330 := Tryz.func207.trans (congrArg some (by kernel_rfl))
  f331 := Tryz.func224.trans (congrArg some (by kernel_rfl))
  f332 := Tryz.func225.trans (congrArg some (by kernel_rfl))
  f343 := Tryz.func227.trans (congrArg some (by kernel_rfl))
  t0 := Tryz.underlying0
  a0 := Tryz.isAgg0
  z0 := Tryz.sizeOf0
  v0 := Tryz.zeroValue0
  t3 := Tryz.underlying3
  a3 := Tryz.isAgg3
  z3 := Tryz.sizeOf3
  v3 := Tryz.zeroValue3
  t4 := Tryz.underlying4
  a4 := Tryz.isAgg4
  z4 := Tryz.sizeOf4
  v4 := Tryz.zeroValue4
  t5 := Tryz.underlying5
  a5 := Tryz.isAgg5
  z5 := Tryz.sizeOf5
  v5 := Tryz.zeroValue5
  t9 := Tryz.underlying9
  a9 := Tryz.isAgg9
  z9 := Tryz.sizeOf9
  v9 := Tryz.zeroValue9
  t28 := Tryz.underlying243
  a28 := Tryz.isAgg243
  z28 := Tryz.sizeOf243
  v28 := Tryz.zeroValue243
  t46 := Tryz.underlying208
  a46 := Tryz.isAgg208
  z46 := Tryz.sizeOf208
  v46 := Tryz.zeroValue208
  t51 := Tryz.underlying47
  a51 := Tryz.isAgg47
  z51 := Tryz.sizeOf47
  v51 := Tryz.zeroValue47
  t53 := Tryz.underlying306
  a53 := Tryz.isAgg306
  z53 := Tryz.sizeOf306
  v53 := Tryz.zeroValue306
  t131 := Tryz.underlying231
  a131 := Tryz.isAgg231
  z131 := Tryz.sizeOf231
  v131 := Tryz.zeroValue231
  t182 := Tryz.underlying298
  a182 := Tryz.isAgg298
  z182 := Tryz.sizeOf298
  v182 := Tryz.zeroValue298
  t183 := Tryz.underlying299
  a183 := Tryz.isAgg299
  z183 := Tryz.sizeOf299
  v183 := Tryz.zeroValue299
  t218 := Tryz.underlying313
  a218 := Tryz.isAgg313
  z218 := Tryz.sizeOf313
  v218 := Tryz.zeroValue313
  t222 := Tryz.underlying317
  a222 := Tryz.isAgg317
  z222 := Tryz.sizeOf317
  v222 := Tryz.zeroValue317
  t228 := Tryz.underlying325
  a228 := Tryz.isAgg325
  z228 := Tryz.sizeOf325
  v228 := Tryz.zeroValue325
  t229 := Tryz.underlying27
  a229 := Tryz.isAgg27
  z229 := Tryz.sizeOf27
  v229 := Tryz.zeroValue27 }
open Go.Sort Go.RowKit in
theorem Tryz.slices_Sort_int (blk off cap : Nat) (zs : List Int) (w : World) (hH : Holds (Value.int .i64) w blk off zs.toArray) (hblk : blk < w.heap.size) (hsz : zs.length < 4611686018427387904) :
    Calls Tryz.prog 173 #[.slice (some ⟨blk, off, none⟩) zs.length cap] w fun e w' =>
      e = .returned (.tuple #[]) ∧ ∃ n os, w' = grow (putRow (Value.int .i64) (Sort.ahead w n) blk off (zs.mergeSort fun x y => decide (x ≤ y)).toArray) os := Any.slices_Sort_int Tryz.lays189 blk off cap zs w hH hblk hsz
def Tryz.laysNm220_ren : Go.Shelf.Ren := ⟨fun | 20 => 174 | n => n, fun | 22 => 243 | 3 => 3 | 4 => 4 | 0 => 0 | n => n, fun | n => n⟩
theorem Tryz.laysNm220 : Go.Proofs.Lays2.n20 Tryz.prog Tryz.laysNm220_ren := {
  mixed := by kernel_rfl
  f20 := Tryz.func174.trans (congrArg some (by kernel_rfl))
  t0 := Tryz.underlying0
  a0 := Tryz.isAgg0
  z0 := Tryz.sizeOf0
  v0 := Tryz.zeroValue0
  t3 := Tryz.underlying3
  a3 := Tryz.isAgg3
  z3 := Tryz.sizeOf3
  v3 := Tryz.zeroValue3
  t4 := Tryz.underlying4
  a4 := Tryz.isAgg4
  z4 := Tryz.sizeOf4
  v4 := Tryz.zeroValue4
  t22 := Tryz.underlying243
  a22 := Tryz.isAgg243
  z22 := Tryz.sizeOf243
  v22 := Tryz.zeroValue243
  i3 := by kernel_rfl }
open Go.RowKit Go.Lib Go.Sort in
/-- slices.Compact at []int, over an array: the library's two loops are walked. (LAID: no walk: one application.) -/
theorem Tryz.slices_Compact_int_arr (blk off cap : Nat) (d : Array Int) (w : World) (hH : Holds encI w blk off d) (hsz : d.size ≤ 9223372036854775807) (hcap : d.size ≤ cap) :
    Calls Tryz.prog 174 #[.slice (some ⟨blk, off, none⟩) d.size cap] w fun e w' => e = .returned (.slice (some ⟨blk, off, none⟩) (compactUpTo d d.size).length cap) ∧ ∃ q, w' = putRow encI (Sort.ahead w q) blk off (compactUpTo d d.size ++ List.replicate (d.size - (compactUpTo d d.size).length) 0).toArray := Any.slices_Compact_int_arr Tryz.laysNm220 blk off cap d w hH hsz hcap
open Go.RowKit Go.Lib Go.Sort in
/-- slices.Compact at []int: "Compact replaces consecutive runs of equal elements with a single copy. This is like the uniq command found on Unix. Compact modifies the contents of the slice s and returns the modified slice, which may have a smaller length. Compact zeroes the elements between the new length and the original length. The result preserves the nilness of s.": IT RETURNS THE SLICE CUT TO 'Lib.compact zs'; ITS CELLS HOLD 'Lib.compact zs', THEN ZERO VALUES up to the old length; all else is as it was, but for the count of draws. IN THE WORDS OF slices.Sort's CONTRACT ('Holds', 'putRow'): so the everyday 'slices.Sort(xs); xs = slices.Compact(xs)' goes from the one contract to the other. It asks 'zs.length ≤ cap' (every slice's: the reslicing 's[:k]' looks at it). Length 0, nil: '.._empty'. (LAID: no walk: one application.) -/
theorem Tryz.slices_Compact_int (blk off cap : Nat) (zs : List Int) (w : World) (hH : Holds (Value.int .i64) w blk off zs.toArray) (hsz : zs.length ≤ 9223372036854775807) (hcap : zs.length ≤ cap) :
    Calls Tryz.prog 174 #[.slice (some ⟨blk, off, none⟩) zs.length cap] w fun e w' => e = .returned (.slice (some ⟨blk, off, none⟩) (Lib.compact zs).length cap) ∧ ∃ q, w' = putRow (Value.int .i64) (Sort.ahead w q) blk off (Lib.compact zs ++ List.replicate (zs.length - (Lib.compact zs).length) 0).toArray := Any.slices_Compact_int Tryz.laysNm220 blk off cap zs w hH hsz hcap
open Go.RowKit Go.Lib Go.Sort in
/-- The same at a slice of length 0, a nil one too: it comes back as it is. (LAID: no walk: one application.) -/
theorem Tryz.slices_Compact_int_empty (a : Option Addr) (cap : Nat) (w : World) :
    Calls Tryz.prog 174 #[.slice a 0 cap] w fun e w' => e = .returned (.slice a 0 cap) ∧ w' = w := Any.slices_Compact_int_empty Tryz.laysNm220 a cap w
open Go.RowKit Go.Lib Go.Sort in
/-- slices.Compact at []int, of an argument: the slice cut to 'Lib.compact (elements)'; the n cells hold that, then zeros. (LAID: no walk: one application.) -/
theorem Tryz.slices_Compact_int_cells (b off n c : Nat) (zs : List Int) (w : World) (hz : n ≤ zs.length) (hbig : n ≤ 9223372036854775807) (hcap : n ≤ c) (hc : ∀ j, j < zs.length → w.cell? ⟨b, off + j, none⟩ = some (.int .i64 (zs.getD j 0))) (hf : ∀ j, j < n → w.frozen? ⟨b, off + j, none⟩ = false) :
    Calls Tryz.prog 174 #[.slice (some ⟨b, off, none⟩) n c] w fun e w' => e = .returned (.slice (some ⟨b, off, none⟩) (Lib.compact (zs.take n)).length c) ∧ ∃ q, w' = (w.drewN q).setCells b off ((Lib.compact (zs.take n) ++ List.replicate (n - (Lib.compact (zs.take n)).length) 0).map (Value.int .i64)) := Any.slices_Compact_int_cells Tryz.laysNm220 b off n c zs w hz hbig hcap hc hf
open Go.RowKit Go.Sort in
/-- .. and plain. (LAID: no walk: one application.) -/
theorem Tryz.slices_Sort_int_none (p : Option Addr) (cap : Nat) (w : World) :
    Calls Tryz.prog 173 #[.slice p 0 cap] w fun e w' => e = .returned (.tuple #[]) ∧ w' = w := Any.slices_Sort_int_none Tryz.lays189 p cap w
def Tryz.sortRect_ren : Go.Shelf.Ren := ⟨fun | 6 => 125 | 15 => 171 | 14 => 170 | 28 => 199 | 29 => 200 | 20 => 191 | 21 => 192 | 22 => 193 | 23 => 194 | 24 => 195 | 25 => 196 | 26 => 197 | 27 => 198 | 46 => 205 | 47 => 206 | 48 => 207 | 49 => 208 | 50 => 209 | 57 => 222 | n => n, fun | 22 => 31 | 24 => 103 | 25 => 242 | 3 => 3 | 39 => 208 | 0 => 0 | 53 => 47 | 55 => 306 | 4 => 4 | 46 => 299 | 45 => 298 | 50 => 231 | 5 => 5 | 9 => 9 | 66 => 313 | 70 => 317 | 76 => 325 | 77 => 27 | n => n, fun | n => n⟩
theorem Tryz.sortRect : Go.Proofs.SlLaysF0.n6 Tryz.prog Tryz.sortRect_ren := {
  mixed := by kernel_rfl
  f6 := ⟨Tryz.f125.name, by decide, Tryz.func125.trans (congrArg some (by kernel_rfl))⟩
  f14 := ⟨Tryz.f170.name, by decide, Tryz.func170.trans (congrArg some (by kernel_rfl))⟩
  f15 := Tryz.func171.trans (congrArg some (by kernel_rfl))
  f20 := ⟨Tryz.f191.name, by decide, Tryz.func191.trans (congrArg some (by kernel_rfl))⟩
  f21 := ⟨Tryz.f192.name, by decide, Tryz.func192.trans (congrArg some (by kernel_rfl))⟩
  f22 := ⟨Tryz.f193.name, by decide, Tryz.func193.trans (congrArg some (by kernel_rfl))⟩
  f23 := ⟨Tryz.f194.name, by decide, Tryz.func194.trans (congrArg some (by kernel_rfl))⟩
  f24 := ⟨Tryz.f195.name, by decide, Tryz.func195.trans (congrArg some (by kernel_rfl))⟩
  f25 := ⟨Tryz.f196.name, by decide, Tryz.func196.trans (congrArg some (by kernel_rfl))⟩
  f26 := ⟨Tryz.f197.name, by decide, Tryz.func197.trans (congrArg some (by kernel_rfl))⟩
  f27 := ⟨Tryz.f198.name, by decide, Tryz.func198.trans (congrArg some (by kernel_rfl))⟩
  f28 := Tryz.func199.trans (congrArg some (by kernel_rfl))
  f29 := Tryz.func200.trans (congrArg some (by kernel_rfl))
  f46 := ⟨Tryz.f205.name, by decide, Tryz.func205.trans (congrArg some (by kernel_rfl))⟩
  f47 := Tryz.func206.trans (congrArg some (by kernel_rfl))
  f48 := Tryz.func207.trans (congrArg some (by kernel_rfl))
  f49 := ⟨Tryz.f208.name, by decide, Tryz.func208.trans (congrArg some (by kernel_rfl))⟩
  f50 := ⟨Tryz.f209.name, by decide, Tryz.func209.trans (congrArg some (by kernel_rfl))⟩
  f57 := ⟨Tryz.f222.name, by decide, Tryz.func222.trans (congrArg some (by kernel_rfl))⟩
  t0 := Tryz.underlying0
  a0 := Tryz.isAgg0
  z0 := Tryz.sizeOf0
  v0 := Tryz.zeroValue0
  t3 := Tryz.underlying3
  a3 := Tryz.isAgg3
  z3 := Tryz.sizeOf3
  v3 := Tryz.zeroValue3
  t4 := Tryz.underlying4
  a4 := Tryz.isAgg4
  z4 := Tryz.sizeOf4
  v4 := Tryz.zeroValue4
  t5 := Tryz.underlying5
  a5 := Tryz.isAgg5
  z5 := Tryz.sizeOf5
  v5 := Tryz.zeroValue5
  t9 := Tryz.underlying9
  a9 := Tryz.isAgg9
  z9 := Tryz.sizeOf9
  v9 := Tryz.zeroValue9
  t22 := Tryz.underlying31
  a22 := Tryz.isAgg31
  z22 := Tryz.sizeOf31
  v22 := Tryz.zeroValue31
  t25 := Tryz.underlying242
  a25 := Tryz.isAgg242
  z25 := Tryz.sizeOf242
  v25 := Tryz.zeroValue242
  t39 := Tryz.underlying208
  a39 := Tryz.isAgg208
  z39 := Tryz.sizeOf208
  v39 := Tryz.zeroValue208
  t45 := Tryz.underlying298
  a45 := Tryz.isAgg298
  z45 := Tryz.sizeOf298
  v45 := Tryz.zeroValue298
  t46 := Tryz.underlying299
  a46 := Tryz.isAgg299
  z46 := Tryz.sizeOf299
  v46 := Tryz.zeroValue299
  t50 := Tryz.underlying231
  a50 := Tryz.isAgg231
  z50 := Tryz.sizeOf231
  v50 := Tryz.zeroValue231
  t53 := Tryz.underlying47
  a53 := Tryz.isAgg47
  z53 := Tryz.sizeOf47
  v53 := Tryz.zeroValue47
  t55 := Tryz.underlying306
  a55 := Tryz.isAgg306
  z55 := Tryz.sizeOf306
  v55 := Tryz.zeroValue306
  t66 := Tryz.underlying313
  a66 := Tryz.isAgg313
  z66 := Tryz.sizeOf313
  v66 := Tryz.zeroValue313
  t70 := Tryz.underlying317
  a70 := Tryz.isAgg317
  z70 := Tryz.sizeOf317
  v70 := Tryz.zeroValue317
  t76 := Tryz.underlying325
  a76 := Tryz.isAgg325
  z76 := Tryz.sizeOf325
  v76 := Tryz.zeroValue325
  t77 := Tryz.underlying27
  a77 := Tryz.isAgg27
  z77 := Tryz.sizeOf27
  v77 := Tryz.zeroValue27 }
end Go.Proofs
