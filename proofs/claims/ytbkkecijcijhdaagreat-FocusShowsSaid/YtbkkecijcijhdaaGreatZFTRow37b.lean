/-
  Lists of windows, and lists of numbers, that came in, opened.
-/
import Derived.Test.YtbkkecijcijhdaaGreatZF31
import Derived.Test.YtbkkecijcijhdaaGreatZFTFShowsW
section
namespace Go.Proofs.YtbkkecijcijhdaaGreat
open Go.ChangeShapes Go.WideShapes Go.ChangeAt Go.RowKit Go.Joins

instance : Inhabited WL := ⟨⟨none, 0, 0, []⟩⟩
theorem rd_of_one {w : World} {A : Option Addr} {n : Nat} {f : Int → Value} {l : List Int} (h : RdF (fun z => [f z]) 1 w A n l) : Rd w A n (l.map f) :=
  ⟨by simpa using h.1, fun hn => by
    obtain ⟨b, off, e, hb, hcl⟩ := h.2 hn
    refine ⟨b, off, e, hb, fun k u hk => ?_⟩
    simp only [List.getElem?_map, Option.map_eq_some_iff] at hk
    obtain ⟨z, hz, rfl⟩ := hk
    have := hcl k z hz 0 _ rfl
    rwa [Nat.mul_one, Nat.add_zero] at this⟩
section
variable {H : Type} {enc : TypeId × Value → H} {w : World} {base : Nat} {spare : Nat → Bool} {held : Bool}
set_option maxRecDepth 100000 in
theorem Tryz.cellsU32 : Tryz.prog.cellsOf 48 = 1 := by kernel_rfl
set_option maxRecDepth 100000 in
theorem Tryz.cellsInt : Tryz.prog.cellsOf 3 = 1 := by kernel_rfl
set_option maxRecDepth 100000 in
theorem Tryz.cellsWl : Tryz.prog.cellsOf 120 = 1 := by kernel_rfl
theorem open_u8s37 {fuel : Nat} {v : Value} {y : DataW H × List MemPlace} (h : DataW.trod enc Tryz.prog w base spare held fuel 142 [v] = some y) : ∃ (A : Option Addr) (n c : Nat) (l : List Int), v = .slice A n c ∧ n ≤ maxLen ∧ Rd w A n (B8 l) ∧ ∀ x ∈ l, 0 ≤ x ∧ x ≤ 255 := by
  obtain ⟨A, n, c, l, e1, e2, hr, hq⟩ := open_recs (fun z : Int => [Value.int .u8 z]) 1 (by decide) (fun z => 0 ≤ z ∧ z ≤ 255) Tryz.underlying142 Tryz.cellsU8 (fun _ => rfl) (fun cs m z _ hz => by
    obtain ⟨k, e, _, hw⟩ := DataW.trod_int Tryz.underlying5 hz
    exact ⟨k, e, bounds_u8 hw⟩) h
  exact ⟨A, n, c, l, e1, e2, rd_of_one hr, hq⟩
theorem open_u32s37 {fuel : Nat} {v : Value} {y : DataW H × List MemPlace} (h : DataW.trod enc Tryz.prog w base spare held fuel 143 [v] = some y) : ∃ (A : Option Addr) (n c : Nat) (l : List Int), v = .slice A n c ∧ n ≤ maxLen ∧ Rd w A n (U32 l) ∧ ∀ x ∈ l, 0 ≤ x ∧ x ≤ 4294967295 := by
  obtain ⟨A, n, c, l, e1, e2, hr, hq⟩ := open_recs (fun z : Int => [Value.int .u32 z]) 1 (by decide) (fun z => 0 ≤ z ∧ z ≤ 4294967295) Tryz.underlying143 Tryz.cellsU32 (fun _ => rfl) (fun cs m z _ hz => by
    obtain ⟨k, e, _, hw⟩ := DataW.trod_int Tryz.underlying48 hz
    exact ⟨k, e, bounds_u32 hw⟩) h
  exact ⟨A, n, c, l, e1, e2, rd_of_one hr, hq⟩
theorem open_i64s37 {fuel : Nat} {v : Value} {y : DataW H × List MemPlace} (h : DataW.trod enc Tryz.prog w base spare held fuel 46 [v] = some y) : ∃ (A : Option Addr) (n c : Nat) (l : List Int), v = .slice A n c ∧ n ≤ maxLen ∧ Rd w A n (I64 l) := by
  obtain ⟨A, n, c, l, e1, e2, hr, _⟩ := open_recs (fun z : Int => [Value.int .i64 z]) 1 (by decide) (fun _ => True) Tryz.underlying46 Tryz.cellsInt (fun _ => rfl) (fun cs m z _ hz => by
    obtain ⟨k, e, _, _⟩ := DataW.trod_int Tryz.underlying3 hz
    exact ⟨k, e, trivial⟩) h
  exact ⟨A, n, c, l, e1, e2, rd_of_one hr⟩
/-- a list of lists of windows. -/
theorem open_wls {fuel : Nat} {v : Value} {y : DataW H × List MemPlace} (h : DataW.trod enc Tryz.prog w base spare held fuel 141 [v] = some y) :
    ∃ (A : Option Addr) (n c : Nat) (L : List WL), v = .slice A n c ∧ n ≤ maxLen ∧ RdF WL.cells 1 w A n L ∧ ∀ q ∈ L, q.at_ w :=
  open_recs WL.cells 1 (by decide) (WL.at_ w) Tryz.underlying141 Tryz.cellsWl (fun _ => rfl) (fun cs m z hl hz => by
    match cs, hl, hz with
    | [c0], _, hz =>
      obtain ⟨A, n, c, fs, rfl, hn, hr, hok⟩ := open_fwins hz
      exact ⟨⟨A, n, c, fs⟩, rfl, ⟨hn, hr, hok⟩⟩) h
end
end Go.Proofs.YtbkkecijcijhdaaGreat
end
