/-
  Numbers of sixteen bits, opened.
-/
import Derived.Test.YtdaedkolpfkdjaaGreatZVTRow34b
section
namespace Go.Proofs.YtdaedkolpfkdjaaGreat
open Go.ChangeShapes Go.WideShapes Go.ChangeAt Go.RowKit Go.Joins
section
variable {H : Type} {enc : TypeId × Value → H} {w : World} {base : Nat} {spare : Nat → Bool} {held : Bool}
theorem bounds_u16 {n : Int} (h : (Lit.int .u16 n).wf = true) : 0 ≤ n ∧ n ≤ 65535 := by
  simp [Lit.wf, IntKind.min, IntKind.max, IntKind.signed, IntKind.bits] at h
  omega
set_option maxRecDepth 100000 in
theorem Tryz.cellsU16 : Tryz.prog.cellsOf 95 = 1 := by kernel_rfl
/-- a slice of numbers of sixteen bits. -/
theorem open_u16s {fuel : Nat} {v : Value} {y : DataW H × List MemPlace}
    (h : DataW.trod enc Tryz.prog w base spare held fuel 91 [v] = some y) : ∃ (A : Option Addr) (n c : Nat) (zs : List Int), v = .slice A n c ∧ n ≤ maxLen ∧ Rd w A n (zs.map (Value.int .u16)) ∧ ∀ z ∈ zs, 0 ≤ z ∧ z ≤ 65535 := by
  obtain ⟨A, n, c, l, e1, e2, hr, hq⟩ := open_recs (fun z : Int => [Value.int .u16 z]) 1 (by decide) (fun z => 0 ≤ z ∧ z ≤ 65535) Tryz.underlying91 Tryz.cellsU16 (fun _ => rfl) (fun cs m z hl hz => by
    match cs, hl, hz with
    | [c0], _, hz =>
      obtain ⟨k, e, _, hw⟩ := DataW.trod_int Tryz.underlying95 hz
      exact ⟨k, e, bounds_u16 hw⟩) h
  refine ⟨A, n, c, l, e1, e2, ⟨by simp [hr.1], fun hn => ?_⟩, hq⟩
  obtain ⟨b, off, e, hb, hcl⟩ := hr.2 hn
  refine ⟨b, off, e, hb, fun k u hk => ?_⟩
  simp only [List.getElem?_map, Option.map_eq_some_iff] at hk
  obtain ⟨z, hz, rfl⟩ := hk
  have := hcl k z hz 0 _ rfl
  rwa [Nat.mul_one, Nat.add_zero] at this
end
end Go.Proofs.YtdaedkolpfkdjaaGreat
end
