/-
  What the laws of glazierlaw32 share: what is lost, areas, small shifts. (XExpOneW has the same at its head.)
-/
import Derived.Test.YtbkkecijcijhdaaGreatZD35
import Derived.Test.YtbkkecijcijhdaaGreatZDTAtM
section
namespace Go.Proofs.YtbkkecijcijhdaaGreat
open Go.RowKit Go.Maps Go.Shelf

def lostP (P Q : Places) : Places := fun x y => P x y && !Q x y
theorem lostP_any {w : World} {Aa Ab : Option Addr} {na ca nb cb : Nat} {ma mb : Option Nat} {V U : Int → Places} (i : Int) (ha : VisAt w (.agg #[.slice Aa na ca, .map ma]) V) (hb : VisAt w (.agg #[.slice Ab nb cb, .map mb]) U) (hi : 0 ≤ i ∧ i ≤ 4294967295) :
    Calls Tryz.prog 51 #[.agg #[.slice Aa na ca, .map ma], .agg #[.slice Ab nb cb, .map mb], .int .u32 i] w fun e w' => ∃ u, e = .returned u ∧ RegP w' u (lostP (V i) (U i)) ∧ Below w.heap.size w w' := lost_any i ha hb hi
/-- a region's area, by places of a box that begins at (-50, -50). -/
def boxC (P : Places) : Places := fun x y => P (x - 50) (y - 50)
theorem areaC {w : World} {u : Value} {P : Places} (h : RegP w u P) (hP : ∀ x y, P x y = true → (0 ≤ x ∧ x < 20) ∧ 0 ≤ y ∧ y < 20) :
    Calls Tryz.prog 37 #[u] w fun e w' => e = .returned (.int .i64 (cntP 110 110 (boxC P) : Nat)) ∧ Below w.heap.size w w' := by
  obtain ⟨out, hr, hp⟩ := h
  have hin : ∀ x y, InR out x y → (0 ≤ x ∧ x < 20) ∧ 0 ≤ y ∧ y < 20 := fun x y hxy => hP x y (by rw [← hp, inB_iff]; exact hxy)
  have hl := (reg_box hr hp (fun x y hxy => by have := hP x y hxy; omega)).2.2
  obtain ⟨A, c, rfl, hr, hc, hn, hcn⟩ := hr
  have ha : areaL out = cntP 110 110 (boxC P) := by
    rw [areaL_S, area_off (w := 110) (h := 110) 50 50 (canon_down hc) (fun x y hxy => by have := hin x y hxy; omega)]
    exact congrArg (fun n : Nat => (n : Int)) (cntP_congr (fun x y _ _ => hp _ _))
  have := area_any A out.length c out w (by omega) hr hcn
  rw [ha] at this
  exact this
set_option maxRecDepth 100000 in
theorem small_yes (dx dy : Int) (F : Bool) (w : World) (h : (-40 ≤ dx ∧ dx ≤ 40) ∧ -40 ≤ dy ∧ dy ≤ 40) :
    Calls Tryz.prog 46 #[.agg #[.int .i64 dx, .int .i64 dy, .bool F]] w fun e w' => e = .returned (.bool true) ∧ Below w.heap.size w w' := by
  obtain ⟨⟨a, b⟩, c, d⟩ := h
  have xK := Blk.new w 88 #[.int .i64 dx, .int .i64 dy, .bool F]
  have HB := Lib.hid (bal (bre w) (.cells #[.int .i64 dx, .int .i64 dy, .bool F] 88))
  have q0 := xK.cellV (i := 0) (v := .int .i64 dx) rfl
  have q1 := xK.cellV (i := 1) (v := .int .i64 dy) rfl
  clear xK
  go_enter Tryz.func46, Tryz.ntmps46
  go_wp2_with fail
  go_ret
  exact ⟨rfl, HB.out⟩
set_option maxRecDepth 100000 in
theorem small_no (dx dy : Int) (F : Bool) (w : World) (h : ¬ ((-40 ≤ dx ∧ dx ≤ 40) ∧ -40 ≤ dy ∧ dy ≤ 40)) :
    Calls Tryz.prog 46 #[.agg #[.int .i64 dx, .int .i64 dy, .bool F]] w fun e w' => e = .returned (.bool false) ∧ Below w.heap.size w w' := by
  have xK := Blk.new w 88 #[.int .i64 dx, .int .i64 dy, .bool F]
  have HB := Lib.hid (bal (bre w) (.cells #[.int .i64 dx, .int .i64 dy, .bool F] 88))
  have q0 := xK.cellV (i := 0) (v := .int .i64 dx) rfl
  have q1 := xK.cellV (i := 1) (v := .int .i64 dy) rfl
  have HH := Lib.hid h
  clear xK h
  by_cases a : -40 ≤ dx
  · by_cases b : dx ≤ 40
    · by_cases c : -40 ≤ dy
      · have d : ¬ dy ≤ 40 := fun d => HH.out ⟨⟨a, b⟩, c, d⟩
        go_enter Tryz.func46, Tryz.ntmps46
        go_wp2_with fail
        go_ret
        exact ⟨rfl, HB.out⟩
      · go_enter Tryz.func46, Tryz.ntmps46
        go_wp2_with fail
        go_ret
        exact ⟨rfl, HB.out⟩
    · go_enter Tryz.func46, Tryz.ntmps46
      go_wp2_with fail
      go_ret
      exact ⟨rfl, HB.out⟩
  · go_enter Tryz.func46, Tryz.ntmps46
    go_wp2_with fail
    go_ret
    exact ⟨rfl, HB.out⟩
end Go.Proofs.YtbkkecijcijhdaaGreat
end
