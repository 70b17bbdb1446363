/-
  The windows, shifts and rectangles of glazierlaw32 that came in, opened.
  The walks of slices.Equal at rectangles, and of band.Same. (What PSetsA has of it, for a seat without PlaceSets.)
  The calls on regions, by the places that they have.
-/
import Derived.Test.YtbkkecijcijhdaaGreatZD28
import Derived.Test.YtbkkecijcijhdaaGreatZD29
import Derived.Test.YtbkkecijcijhdaaGreatZD19
import Derived.Test.YtbkkecijcijhdaaGreatZD06
import Derived.Test.YtbkkecijcijhdaaGreatZD22
import Derived.Test.YtbkkecijcijhdaaGreatZD20
import Derived.Test.YtbkkecijcijhdaaGreatZD21
section
namespace Go.Proofs.YtbkkecijcijhdaaGreat
open Go.ChangeShapes Go.WideShapes Go.ChangeAt Go.RowKit Go.Joins

instance : Inhabited XW := ⟨⟨0, ⟨0, 0, 0, 0, false⟩, ⟨0, 0, 0, 0, false⟩⟩⟩
section
variable {H : Type} {enc : TypeId × Value → H} {w : World} {base : Nat} {spare : Nat → Bool} {held : Bool}
set_option maxRecDepth 100000 in
theorem Tryz.cellsB32 : Tryz.prog.cellsOf 4 = 1 := by kernel_rfl
set_option maxRecDepth 100000 in
theorem Tryz.cellsI64 : Tryz.prog.cellsOf 3 = 1 := by kernel_rfl
set_option maxRecDepth 100000 in
theorem Tryz.cellsSp : Tryz.prog.cellsOf 175 = 5 := by kernel_rfl
set_option maxRecDepth 100000 in
theorem Tryz.cellsWin32 : Tryz.prog.cellsOf 177 = 11 := by kernel_rfl
set_option maxRecDepth 100000 in
theorem Tryz.cellsShf : Tryz.prog.cellsOf 88 = 3 := by kernel_rfl
set_option maxRecDepth 100000 in
theorem open_spot {cs : List Value} {n : Nat} {z : DataW H × List MemPlace} (hl : cs.length = 5) (hz : DataW.trod enc Tryz.prog w base spare held n 175 cs = some z) : ∃ s : SpW, cs = s.cells ∧ s.ok := by
  obtain ⟨xs, n', _, _, _, hxl, hel⟩ := DataW.trod_struct Tryz.underlying175 hz
  match cs, hl, hel with
  | [c0, c1, c2, c3, c4], _, hel =>
    have hxl' : xs.length = 5 := hxl
    have k0 : DataW.trod enc Tryz.prog w base spare held n' 63 (([c0, c1, c2, c3, c4].drop 0).take (Tryz.prog.cellsOf 63)) = xs[0]? := hel 0 _ rfl
    rw [show xs[0]? = some xs[0] from List.getElem?_eq_getElem (by omega)] at k0
    rw [Tryz.cellsI8] at k0
    obtain ⟨x0, e0, _, w0⟩ := DataW.trod_int Tryz.underlying63 k0
    have k1 : DataW.trod enc Tryz.prog w base spare held n' 63 (([c0, c1, c2, c3, c4].drop 1).take (Tryz.prog.cellsOf 63)) = xs[1]? := hel 1 _ rfl
    rw [show xs[1]? = some xs[1] from List.getElem?_eq_getElem (by omega)] at k1
    rw [Tryz.cellsI8] at k1
    obtain ⟨x1, e1, _, w1⟩ := DataW.trod_int Tryz.underlying63 k1
    have k2 : DataW.trod enc Tryz.prog w base spare held n' 5 (([c0, c1, c2, c3, c4].drop 2).take (Tryz.prog.cellsOf 5)) = xs[2]? := hel 2 _ rfl
    rw [show xs[2]? = some xs[2] from List.getElem?_eq_getElem (by omega)] at k2
    rw [Tryz.cellsU8] at k2
    obtain ⟨x2, e2, _, w2⟩ := DataW.trod_int Tryz.underlying5 k2
    have k3 : DataW.trod enc Tryz.prog w base spare held n' 5 (([c0, c1, c2, c3, c4].drop 3).take (Tryz.prog.cellsOf 5)) = xs[3]? := hel 3 _ rfl
    rw [show xs[3]? = some xs[3] from List.getElem?_eq_getElem (by omega)] at k3
    rw [Tryz.cellsU8] at k3
    obtain ⟨x3, e3, _, w3⟩ := DataW.trod_int Tryz.underlying5 k3
    have k4 : DataW.trod enc Tryz.prog w base spare held n' 4 (([c0, c1, c2, c3, c4].drop 4).take (Tryz.prog.cellsOf 4)) = xs[4]? := hel 4 _ rfl
    rw [show xs[4]? = some xs[4] from List.getElem?_eq_getElem (by omega)] at k4
    rw [Tryz.cellsB32] at k4
    obtain ⟨x4, e4, _⟩ := DataW.trod_bool Tryz.underlying4 k4
    simp at e0 e1 e2 e3 e4
    subst e0 e1 e2 e3 e4
    exact ⟨⟨x0, x1, x2, x3, x4⟩, rfl, ⟨⟨bounds_i8 w0, bounds_i8 w1⟩, bounds_u8 w2, bounds_u8 w3⟩⟩
set_option maxRecDepth 100000 in
theorem open_win32 {cs : List Value} {n : Nat} {z : DataW H × List MemPlace} (hl : cs.length = 11) (hz : DataW.trod enc Tryz.prog w base spare held n 177 cs = some z) : ∃ x : XW, cs = x.cells ∧ x.ok := by
  obtain ⟨xs, n', _, _, _, hxl, hel⟩ := DataW.trod_struct Tryz.underlying177 hz
  match cs, hl, hel with
  | [c0, c1, c2, c3, c4, c5, d1, d2, d3, d4, d5], _, hel =>
    have hxl' : xs.length = 3 := hxl
    have k0 : DataW.trod enc Tryz.prog w base spare held n' 5 (([c0, c1, c2, c3, c4, c5, d1, d2, d3, d4, d5].drop 0).take (Tryz.prog.cellsOf 5)) = xs[0]? := hel 0 _ rfl
    have k1 : DataW.trod enc Tryz.prog w base spare held n' 175 (([c0, c1, c2, c3, c4, c5, d1, d2, d3, d4, d5].drop 1).take (Tryz.prog.cellsOf 175)) = xs[1]? := hel 1 _ rfl
    have k2 : DataW.trod enc Tryz.prog w base spare held n' 175 (([c0, c1, c2, c3, c4, c5, d1, d2, d3, d4, d5].drop 6).take (Tryz.prog.cellsOf 175)) = xs[2]? := hel 2 _ rfl
    rw [show xs[0]? = some xs[0] from List.getElem?_eq_getElem (by omega), Tryz.cellsU8] at k0
    rw [show xs[1]? = some xs[1] from List.getElem?_eq_getElem (by omega), Tryz.cellsSp] at k1
    rw [show xs[2]? = some xs[2] from List.getElem?_eq_getElem (by omega), Tryz.cellsSp] at k2
    obtain ⟨x0, e0, _, w0⟩ := DataW.trod_int Tryz.underlying5 k0
    obtain ⟨s1, e1, w1⟩ := open_spot rfl (show DataW.trod enc Tryz.prog w base spare held n' 175 [c1, c2, c3, c4, c5] = some xs[1] from k1)
    obtain ⟨s2, e2, w2⟩ := open_spot rfl (show DataW.trod enc Tryz.prog w base spare held n' 175 [d1, d2, d3, d4, d5] = some xs[2] from k2)
    simp at e0
    subst e0
    refine ⟨⟨x0, s1, s2⟩, ?_, bounds_u8 w0, w1, w2⟩
    show [Value.int .u8 x0] ++ ([c1, c2, c3, c4, c5] ++ [d1, d2, d3, d4, d5]) = _
    rw [e1, e2]
    rfl
/-- a slice of windows. -/
theorem open_wins32 {fuel : Nat} {v : Value} {y : DataW H × List MemPlace} (h : DataW.trod enc Tryz.prog w base spare held fuel 86 [v] = some y) :
    ∃ (A : Option Addr) (n c : Nat) (l : List XW), v = .slice A n c ∧ n ≤ maxLen ∧ RdF XW.cells 11 w A n l ∧ ∀ x ∈ l, x.ok :=
  open_recs XW.cells 11 (by decide) XW.ok Tryz.underlying86 Tryz.cellsWin32 (fun _ => rfl) (fun _ _ _ hl hz => open_win32 hl hz) h
set_option maxRecDepth 100000 in
theorem open_shift {cs : List Value} {n : Nat} {z : DataW H × List MemPlace} (hl : cs.length = 3) (hz : DataW.trod enc Tryz.prog w base spare held n 88 cs = some z) : ∃ s : SH, cs = s.cells := by
  obtain ⟨xs, n', _, _, _, hxl, hel⟩ := DataW.trod_struct Tryz.underlying88 hz
  match cs, hl, hel with
  | [c0, c1, c2], _, hel =>
    have hxl' : xs.length = 3 := hxl
    have k0 : DataW.trod enc Tryz.prog w base spare held n' 3 (([c0, c1, c2].drop 0).take (Tryz.prog.cellsOf 3)) = xs[0]? := hel 0 _ rfl
    have k1 : DataW.trod enc Tryz.prog w base spare held n' 3 (([c0, c1, c2].drop 1).take (Tryz.prog.cellsOf 3)) = xs[1]? := hel 1 _ rfl
    have k2 : DataW.trod enc Tryz.prog w base spare held n' 4 (([c0, c1, c2].drop 2).take (Tryz.prog.cellsOf 4)) = xs[2]? := hel 2 _ rfl
    rw [show xs[0]? = some xs[0] from List.getElem?_eq_getElem (by omega), Tryz.cellsI64] at k0
    rw [show xs[1]? = some xs[1] from List.getElem?_eq_getElem (by omega), Tryz.cellsI64] at k1
    rw [show xs[2]? = some xs[2] from List.getElem?_eq_getElem (by omega), Tryz.cellsB32] at k2
    obtain ⟨x0, e0, _, _⟩ := DataW.trod_int Tryz.underlying3 k0
    obtain ⟨x1, e1, _, _⟩ := DataW.trod_int Tryz.underlying3 k1
    obtain ⟨x2, e2, _⟩ := DataW.trod_bool Tryz.underlying4 k2
    simp at e0 e1 e2
    subst e0 e1 e2
    exact ⟨⟨x0, x1, x2⟩, rfl⟩
/-- a slice of shifts. -/
theorem open_shifts {fuel : Nat} {v : Value} {y : DataW H × List MemPlace} (h : DataW.trod enc Tryz.prog w base spare held fuel 110 [v] = some y) :
    ∃ (A : Option Addr) (n c : Nat) (l : List SH), v = .slice A n c ∧ n ≤ maxLen ∧ RdF SH.cells 3 w A n l := by
  obtain ⟨A, n, c, l, e1, e2, e3, _⟩ := open_recs SH.cells 3 (by decide) (fun _ => True) Tryz.underlying110 Tryz.cellsShf (fun _ => rfl) (fun _ _ _ hl hz => by
    obtain ⟨s, e⟩ := open_shift hl hz
    exact ⟨s, e, trivial⟩) h
  exact ⟨A, n, c, l, e1, e2, e3⟩
theorem open_q4 {cs : List Value} {n : Nat} {z : DataW H × List MemPlace} (hl : cs.length = 4) (hz : DataW.trod enc Tryz.prog w base spare held n 64 cs = some z) : ∃ q : Q4, cs = q.cells ∧ q.ok := by
  match cs, hl, hz with
  | [c0, c1, c2, c3], _, hz =>
    obtain ⟨y0, y1, y2, y3, m0, _, g0, g1, g2, g3⟩ := trod_array4 Tryz.underlying64 Tryz.cellsU8 hz
    obtain ⟨x0, e0, _, w0⟩ := DataW.trod_int Tryz.underlying5 g0
    obtain ⟨x1, e1, _, w1⟩ := DataW.trod_int Tryz.underlying5 g1
    obtain ⟨x2, e2, _, w2⟩ := DataW.trod_int Tryz.underlying5 g2
    obtain ⟨x3, e3, _, w3⟩ := DataW.trod_int Tryz.underlying5 g3
    simp at e0 e1 e2 e3
    subst e0 e1 e2 e3
    exact ⟨⟨x0, x1, x2, x3⟩, rfl, ⟨⟨bounds_u8 w0, bounds_u8 w1⟩, bounds_u8 w2, bounds_u8 w3⟩⟩
/-- a slice of four small numbers each. -/
theorem open_q4s {fuel : Nat} {v : Value} {y : DataW H × List MemPlace} (h : DataW.trod enc Tryz.prog w base spare held fuel 97 [v] = some y) :
    ∃ (A : Option Addr) (n c : Nat) (l : List Q4), v = .slice A n c ∧ n ≤ maxLen ∧ RdF Q4.cells 4 w A n l ∧ ∀ q ∈ l, q.ok :=
  open_recs Q4.cells 4 (by decide) Q4.ok Tryz.underlying97 Tryz.cellsQ4 (fun _ => rfl) (fun _ _ _ hl hz => open_q4 hl hz) h
end
end Go.Proofs.YtbkkecijcijhdaaGreat
end

section
namespace Go.Proofs.YtbkkecijcijhdaaGreat
open Go.RowKit Go.Maps Go.Shelf

theorem run_neq_rcE (w : World) (a b c d a' b' c' d' : Int) : (binOp .neq 113 (.agg #[.int .i64 a, .int .i64 b, .int .i64 c, .int .i64 d]) (.agg #[.int .i64 a', .int .i64 b', .int .i64 c', .int .i64 d'])).run Tryz.prog w = .ok (.bool (!(a == a' && b == b' && c == c' && d == d'))) w := by
  cases h1 : (a == a') <;> cases h2 : (b == b') <;> cases h3 : (c == c') <;> cases h4 : (d == d') <;> simp [go_sem, h1, h2, h3, h4]
attribute [local go_sem ↓] run_neq_rcE

set_option maxRecDepth 100000 in
set_option maxHeartbeats 2000000 in
theorem equalR_eq (A A' : Option Addr) (n c c' : Nat) (rs : List RC) (w : World) (hn : n ≤ 1000000000000) (hr : RdR w A n rs) (hq : RdR w A' n rs) :
    Calls Tryz.prog 89 #[.slice A n c, .slice A' n c'] w fun e w' => e = .returned (.bool true) ∧ Below w.heap.size w w' := by
  have HR := Lib.hid hr
  have HQ := Lib.hid hq
  have HL := Lib.hid hr.1
  have e0 : ((n : Int) != (n : Int)) = false := by simp
  clear hr hq
  go_enter Tryz.func89, Tryz.ntmps89
  go_wp2_with fail
  go_loopw [13, 5] (fun i _ wr => ∃ k : Nat, i = .int .i64 k ∧ k ≤ n ∧ Below w.heap.size w wr) (fun i _ _ => n - (intOf i).toNat)
  case atStart => exact ⟨0, rfl, by omega, bre w⟩
  case round =>
    obtain ⟨k, rfl, hk, hB⟩ := hrel
    have HB := Lib.hid hB
    by_cases hlt : k < n
    · obtain ⟨r, hr⟩ : ∃ r, rs[k]? = some r := ⟨_, List.getElem?_eq_getElem (by have := HL.out; omega)⟩
      obtain ⟨b, off, rfl, hb, hcl⟩ := (HR.out.below hB).2 (by omega)
      obtain ⟨b', off', rfl, hb', hcl'⟩ := (HQ.out.below hB).2 (by omega)
      obtain ⟨c0, c1, c2, c3⟩ := hcl k r hr
      obtain ⟨d0, d1, d2, d3⟩ := hcl' k r hr
      have k1 : (k : Int) < (n : Int) := by omega
      have k0 : (0 : Int) ≤ (k : Int) := by omega
      clear hB hr hcl hcl'
      go_wp2_with fail
      go_quiet (fail)
      go_wp2_with fail
      go_roundw
      case rel => exact ⟨k + 1, by go_num, by omega, below_drewN HB.out _⟩
      case measure => simp [intOf]; omega
    · obtain rfl : k = n := by omega
      clear hB
      go_wp2_with fail
      go_ret
      exact ⟨rfl, HB.out⟩

set_option maxRecDepth 100000 in
set_option maxHeartbeats 2000000 in
theorem bandSame_eq (A A' : Option Addr) (n c c' : Nat) (rs : List RC) (w : World) (hn : n ≤ 1000000000000) (hr : RdR w A n rs) (hq : RdR w A' n rs) :
    Calls Tryz.prog 36 #[.agg #[.slice A n c], .agg #[.slice A' n c']] w fun e w' => e = .returned (.bool true) ∧ Below w.heap.size w w' := by
  have HR := Lib.hid hr
  have HQ := Lib.hid hq
  clear hr hq
  go_enter Tryz.func36, Tryz.ntmps36
  have HB := Lib.hid (bal (bal (bre w) (.cells #[.slice A n c] 60)) (.cells #[.slice A' n c'] 60))
  go_wp2_with (go_at_call 89; refine (equalR_eq A A' n _ _ rs _ hn (HR.out.below HB.out) (HQ.out.below HB.out)).mono ?_; rintro e w1 ⟨rfl, hb⟩; have HB1 := Lib.hid (bstep HB.out hb); clear hb)
  go_ret
  exact ⟨rfl, HB1.out⟩
end Go.Proofs.YtbkkecijcijhdaaGreat
end

section
namespace Go.Proofs.YtbkkecijcijhdaaGreat
open Go.RowKit Go.Maps Go.Shelf

/-- a region that has just these places. -/
def RegP (w : World) (u : Value) (P : Places) : Prop := ∃ out, RegAt w u out ∧ ∀ x y, inB out x y = P x y
/-- places of a small box. -/
def BoxP (P : Places) : Prop := ∀ x y, P x y = true → (-150 ≤ x ∧ x < 150) ∧ -150 ≤ y ∧ y < 150
section
variable {w : World} {u u' : Value} {P Q : Places}
theorem RegP.below {w' : World} (h : RegP w u P) (hb : Below w.heap.size w w') : RegP w' u P := by
  obtain ⟨out, h1, h2⟩ := h
  exact ⟨out, h1.below hb, h2⟩
theorem RegP.congr (h : RegP w u P) (e : ∀ x y, P x y = Q x y) : RegP w u Q := by
  obtain ⟨out, h1, h2⟩ := h
  exact ⟨out, h1, fun x y => by rw [h2, e]⟩
theorem RegP.form (h : RegP w u P) : ∃ A n c, u = .agg #[.slice A n c] := by
  obtain ⟨out, ⟨A, c, e, _⟩, _⟩ := h
  exact ⟨A, _, c, e⟩
theorem RegP.nil (w : World) (c : Nat) : RegP w (.agg #[.slice none 0 c]) (fun _ _ => false) := ⟨[], reg_nil w c, fun _ _ => rfl⟩
theorem BoxP.and (h : BoxP P) (f : Int → Int → Bool) : BoxP (fun x y => P x y && f x y) := fun x y hxy => by
  rw [Bool.and_eq_true] at hxy
  exact h x y hxy.1
theorem BoxP.or (h : BoxP P) (h' : BoxP Q) : BoxP (fun x y => P x y || Q x y) := fun x y hxy => by
  rw [Bool.or_eq_true] at hxy
  rcases hxy with hxy | hxy
  · exact h x y hxy
  · exact h' x y hxy
theorem reg_box {out : List RC} (hr : RegAt w u out) (hp : ∀ x y, inB out x y = P x y) (hb : BoxP P) : EdgeIn out (upto (-150) 300) (upto (-150) 300) ∧ areaL out = cntP 300 300 (fun x y => P (x - 150) (y - 150)) ∧ out.length ≤ 100000 := by
  have hin : ∀ x y, InR out x y → (-150 ≤ x ∧ x < 150) ∧ -150 ≤ y ∧ y < 150 := fun x y hxy => hb x y (by rw [← hp, inB_iff]; exact hxy)
  have hc : Canon out := by obtain ⟨_, _, _, _, hc, _⟩ := hr; exact hc
  have ha : areaL out = cntP 300 300 (fun x y => P (x - 150) (y - 150)) := by
    rw [areaL_S, area_off (w := 300) (h := 300) 150 150 (canon_down hc) (fun x y hxy => by have := hin x y hxy; omega)]
    exact congrArg (fun n : Nat => (n : Int)) (cntP_congr (fun x y _ _ => hp _ _))
  refine ⟨box_edges hr.pos (fun x y hxy => by have := hin x y hxy; omega), ha, ?_⟩
  have h1 := len_area hr.pos
  rw [← areaL_S, ha] at h1
  have h2 := cntP_le 300 300 (fun x y => P (x - 150) (y - 150))
  omega
theorem meetP (h : RegP w u P) (h' : RegP w u' Q) (hP : BoxP P) (hQ : BoxP Q) :
    Calls Tryz.prog 59 #[u, u'] w fun e w' => ∃ v, e = .returned v ∧ RegP w' v (fun x y => P x y && Q x y) ∧ Below w.heap.size w w' := by
  obtain ⟨a, ha, pa⟩ := h
  obtain ⟨b, hb, pb⟩ := h'
  have e1 := (reg_box ha pa hP).1
  have e2 := (reg_box hb pb hQ).1
  refine (meet_any u u' a b (upto (-150) 300) (upto (-150) 300) w ha hb (e1.append e2) (by rw [upto_len]; decide)).mono ?_
  rintro e w' ⟨v, out, rfl, h1, h2, _, h3⟩
  exact ⟨v, rfl, ⟨out, h1, fun x y => by rw [h2, pa, pb]⟩, h3⟩
theorem minusP (h : RegP w u P) (h' : RegP w u' Q) (hP : BoxP P) (hQ : BoxP Q) :
    Calls Tryz.prog 86 #[u, u'] w fun e w' => ∃ v, e = .returned v ∧ RegP w' v (fun x y => P x y && !Q x y) ∧ Below w.heap.size w w' := by
  obtain ⟨a, ha, pa⟩ := h
  obtain ⟨b, hb, pb⟩ := h'
  have e1 := (reg_box ha pa hP).1
  have e2 := (reg_box hb pb hQ).1
  refine (minus_any u u' a b (upto (-150) 300) (upto (-150) 300) w ha hb (e1.append e2) (by rw [upto_len]; decide)).mono ?_
  rintro e w' ⟨v, out, rfl, h1, h2, _, h3⟩
  exact ⟨v, rfl, ⟨out, h1, fun x y => by rw [h2, pa, pb]⟩, h3⟩
theorem shiftP (dx dy : Int) (h : RegP w u P) (hP : BoxP P) (hx : -1000 ≤ dx ∧ dx ≤ 1000) (hy : -1000 ≤ dy ∧ dy ≤ 1000) :
    Calls Tryz.prog 84 #[u, .int .i64 dx, .int .i64 dy] w fun e w' => ∃ v, e = .returned v ∧ RegP w' v (fun x y => P (x - dx) (y - dy)) ∧ Below w.heap.size w w' := by
  obtain ⟨a, ha, pa⟩ := h
  have hl := (reg_box ha pa hP).2.2
  have hcn := ha.cnt
  refine (shift_any u a dx dy w ha (by omega) (by omega) hl).mono ?_
  rintro e w' ⟨v, out, rfl, h1, h2, h3⟩
  refine ⟨v, rfl, ⟨out, h1, fun x y => ?_⟩, h3⟩
  rw [Bool.eq_iff_iff, inB_iff, h2, shift_places hcn, ← inB_iff, pa]
  constructor
  · exact fun h => h.1
  · intro h
    have := hP _ _ h
    exact ⟨h, by omega, by omega⟩
theorem hasP (x y : Int) (h : RegP w u P) :
    Calls Tryz.prog 40 #[u, .int .i64 x, .int .i64 y] w fun e w' => e = .returned (.bool (P x y)) ∧ Below w.heap.size w w' := by
  obtain ⟨out, ⟨A, c, rfl, hr, hc, hn, hcn⟩, hp⟩ := h
  have := hasR_any A out.length c out x y w hn hr hcn
  rw [hasL_inB (canon_down hc), hp] at this
  exact this
theorem emptyP (h : RegP w u P) :
    Calls Tryz.prog 34 #[u] w fun e w' => ∃ b : Bool, e = .returned (.bool b) ∧ (b = true ↔ ∀ x y, P x y = false) ∧ Below w.heap.size w w' := by
  obtain ⟨out, ⟨A, c, rfl, hr, hc, hn, hcn⟩, hp⟩ := h
  refine (empty_any A out.length c w).mono ?_
  rintro e w' ⟨rfl, hb⟩
  refine ⟨_, rfl, ?_, hb⟩
  rw [decide_eq_true_eq]
  constructor
  · intro h0 x y
    rw [← hp, List.length_eq_zero_iff.1 h0]
    rfl
  · intro h0
    rw [no_places hc (fun x y hxy => by
      have h1 := (inB_iff out x y).2 hxy
      rw [hp, h0] at h1
      cases h1)]
    rfl
theorem emptyP_yes (h : RegP w u P) (h0 : ∀ x y, P x y = false) :
    Calls Tryz.prog 34 #[u] w fun e w' => e = .returned (.bool true) ∧ Below w.heap.size w w' := by
  refine (emptyP h).mono ?_
  rintro e w' ⟨b, rfl, hb, h1⟩
  rw [hb.2 h0]
  exact ⟨rfl, h1⟩
theorem sameP (h : RegP w u P) (h' : RegP w u' Q) (e : ∀ x y, P x y = Q x y) :
    Calls Tryz.prog 36 #[u, u'] w fun e w' => e = .returned (.bool true) ∧ Below w.heap.size w w' := by
  obtain ⟨out, ha, pa⟩ := h
  obtain ⟨out', hb, pb⟩ := h'
  obtain rfl := reg_uniq ha hb (fun x y => by rw [pa, pb, e])
  obtain ⟨A, c, rfl, hr, hc, hn, hcn⟩ := ha
  obtain ⟨A', c', rfl, hr', _⟩ := hb
  exact bandSame_eq A A' out.length c c' out w hn hr hr'
end
/-- what a view says of what shows. -/
structure VisAt (w : World) (v : Value) (V : Int → Places) : Prop where
  form : ∃ A n c m, v = .agg #[.slice A n c, .map m]
  call : ∀ w' : World, Below w.heap.size w w' → ∀ i : Int, (0 ≤ i ∧ i ≤ 4294967295) → Calls Tryz.prog 33 #[v, .int .u32 i] w' fun e w'' => ∃ u, e = .returned u ∧ RegP w'' u (V i) ∧ Below w'.heap.size w' w''
  small : ∀ i x y, V i x y = true → (0 ≤ x ∧ x < 20) ∧ 0 ≤ y ∧ y < 20
theorem VisAt.below {w w' : World} {v : Value} {V : Int → Places} (h : VisAt w v V) (hb : Below w.heap.size w w') : VisAt w' v V :=
  ⟨h.form, fun w2 h2 => h.call w2 (bstep hb h2), h.small⟩
theorem VisAt.box {w : World} {v : Value} {V : Int → Places} (h : VisAt w v V) (i : Int) : BoxP (V i) := fun x y hxy => by
  have := h.small i x y hxy
  omega
theorem SeenG.vis {w : World} {v : Value} {RW RH : Nat} {ns : Nodes} {bx : Int → Option VB} {og : Int → Int × Int} (h : SeenG w v RW RH ns bx og) (hn : TreeOk ns) (hw : RW ≤ 20 ∧ RH ≤ 20) (hb : ∀ k b, k ≠ 1 → bx k = some b → ∀ x y, b.area x y = true → (0 ≤ x ∧ x < 20) ∧ 0 ≤ y ∧ y < 20) : VisAt w v (visG RW RH ns bx) :=
  ⟨h.form, fun w' hw' i hi => by
    refine ((h.below hw').visible hn i hi).mono ?_
    rintro e w'' ⟨u, out, rfl, h1, h2, _, _, h3⟩
    exact ⟨u, rfl, ⟨out, h1, fun x y => h2 x y⟩, h3⟩, fun i x y hs => vis_in hn (by omega) hb hs⟩
end Go.Proofs.YtbkkecijcijhdaaGreat
end
