/-
  The walks of small words of windows: may a number be a place, a side, an id, a gravity?
  The walks of package band's small functions: which rectangles count; the comparers and predicates that it hands to the library.
-/
import Derived.Test.YtbfefkhejknmoaaGreatDoorCh1
import Derived.Test.YtbfefkhejknmoaaGreatDoorCh2
import Derived.Outline
namespace Go.Proofs.YtbfefkhejknmoaaGreatDoor
open Go.RowKit

theorem ret_boolP {a b : Bool} (h : b = a) : Ending.returned (.bool a) = .returned (.bool b) := by rw [h]
def coordB (n : Int) : Bool := decide (-32768 ≤ n) && decide (n ≤ 32767)
def sideB (n : Int) : Bool := decide (1 ≤ n) && decide (n ≤ 128)

set_option maxRecDepth 100000 in
theorem coord_any (n : Int) (w : World) : Calls Tryz.prog 37 #[.int .i64 n] w fun e w' => e = .returned (.bool (coordB n)) ∧ w = w' := by
  unfold coordB
  cases d1 : decide (-32768 ≤ n) <;> cases d2 : decide (n ≤ 32767)
  all_goals
    go_enter Tryz.func37, Tryz.ntmps37
    go_wp2_with fail
    go_ret
    exact ⟨rfl, rfl⟩
set_option maxRecDepth 100000 in
theorem side_any (n : Int) (w : World) : Calls Tryz.prog 38 #[.int .i64 n] w fun e w' => e = .returned (.bool (sideB n)) ∧ w = w' := by
  unfold sideB
  cases d1 : decide (1 ≤ n) <;> cases d2 : decide (n ≤ 128)
  all_goals
    go_enter Tryz.func38, Tryz.ntmps38
    go_wp2_with fail
    go_ret
    exact ⟨rfl, rfl⟩

/-- a gravity's code. -/
def gravC (g : Int) : Int := if 0 ≤ g ∧ g ≤ 10 then 0 else 10
set_option maxRecDepth 100000 in
theorem gcheck_any (g : Int) (w : World) : Calls Tryz.prog 43 #[.int .i64 g] w fun e w' => e = .returned (.int .i64 (gravC g)) ∧ w = w' := by
  have t : (decide (g < 0) = true ∧ gravC g = 10) ∨ (decide (g < 0) = false ∧ ((decide (10 < g) = true ∧ gravC g = 10) ∨ (decide (10 < g) = false ∧ gravC g = 0))) := by
    simp only [decide_eq_true_eq, decide_eq_false_iff_not]
    unfold gravC
    split <;> omega
  rcases t with ⟨d1, e⟩ | ⟨d1, ⟨d2, e⟩ | ⟨d2, e⟩⟩
  all_goals
    rw [e]
    clear e
    go_enter Tryz.func43, Tryz.ntmps43
    go_wp2_with fail
    go_ret
    exact ⟨rfl, rfl⟩

set_option maxRecDepth 100000 in
theorem isClient_any (n : Int) (w : World) : Calls Tryz.prog 80 #[.int .i64 n] w fun e w' => e = .returned (.bool (decide (1 ≤ n) && decide (n ≤ 8))) ∧ w = w' := by
  cases d1 : decide (1 ≤ n) <;> cases d2 : decide (n ≤ 8)
  all_goals
    go_enter Tryz.func80, Tryz.ntmps80
    go_wp2_with fail
    go_ret
    exact ⟨rfl, rfl⟩

/-- whose an id is. -/
def clientI (id : Int) : Int := if id = 1 then 0 else if id % 1048576 = 0 ∨ id / 1048576 < 1 ∨ 8 < id / 1048576 then 0 else id / 1048576
def clientB (id : Int) : Bool := decide (id = 1) || !(decide (id % 1048576 = 0) || decide (id / 1048576 < 1) || decide (8 < id / 1048576))
/-- an id's code. -/
def idC (id : Int) : Int := if id = 0 then 6 else if clientB id then 0 else 1

set_option maxRecDepth 100000 in
set_option maxHeartbeats 1000000 in
theorem client_any (id : Int) (w : World) (h : 0 ≤ id ∧ id ≤ 4294967295) : Calls Tryz.prog 59 #[.int .u32 id] w fun e w' => e = .returned (.tuple #[.int .i64 (clientI id), .bool (clientB id)]) ∧ w = w' := by
  have hq : 0 ≤ id / 1048576 ∧ id / 1048576 ≤ 4294967295 := by omega
  have hr : 0 ≤ id % 1048576 ∧ id % 1048576 ≤ 1048576 := by omega
  have h' := h
  by_cases h1 : id = 1
  · subst h1
    have e1 : clientI 1 = 0 := by decide
    have e2 : clientB 1 = true := by decide
    rw [e1, e2]
    clear e1 e2 hq hr
    go_enter Tryz.func59, Tryz.ntmps59
    go_wp2_with fail
    go_ret2
    exact ⟨rfl, rfl⟩
  · have d1 : (id == 1) = false := by simp [h1]
    by_cases h2 : id % 1048576 = 0
    · have d2 : (id % 1048576 == 0) = true := by simp [h2]
      have e1 : clientI id = 0 := by unfold clientI; rw [if_neg h1, if_pos (.inl h2)]
      have e2 : clientB id = false := by unfold clientB; simp [h1, h2]
      rw [e1, e2]
      clear e1 e2 h1 h2 hq hr
      go_enter Tryz.func59, Tryz.ntmps59
      go_wp2_with fail
      go_ret2
      exact ⟨rfl, rfl⟩
    · have d2 : (id % 1048576 == 0) = false := by simp [h2]
      obtain ⟨cl, hcl⟩ : ∃ cl, (decide (1 ≤ id / 1048576) && decide (id / 1048576 ≤ 8)) = cl := ⟨_, rfl⟩
      have e1 : clientI id = if cl then id / 1048576 else 0 := by
        unfold clientI
        rw [if_neg h1, ← hcl]
        by_cases h3 : 1 ≤ id / 1048576 ∧ id / 1048576 ≤ 8
        · rw [if_neg (by omega), if_pos (by simp only [Bool.and_eq_true, decide_eq_true_eq]; exact h3)]
        · rw [if_pos (by omega), if_neg (by simp only [Bool.and_eq_true, decide_eq_true_eq]; exact h3)]
      have e2 : clientB id = cl := by
        unfold clientB
        rw [← hcl, Bool.eq_iff_iff]
        simp only [h1, h2, decide_false, Bool.false_or, Bool.not_or, Bool.and_eq_true, Bool.not_eq_true', decide_eq_false_iff_not, decide_eq_true_eq]
        omega
      rw [e1, e2]
      have HCL := Lib.hid hcl
      clear e1 e2 h1 h2 hcl hr
      cases cl
      all_goals
        go_enter Tryz.func59, Tryz.ntmps59
        go_wp2_with (go_at_call 80; refine (isClient_any _ _).mono ?_; rintro e w' ⟨rfl, rfl⟩; rw [HCL.out])
        go_ret2
        exact ⟨rfl, rfl⟩

set_option maxRecDepth 100000 in
set_option maxHeartbeats 1000000 in
theorem check_any (id : Int) (w : World) (h : 0 ≤ id ∧ id ≤ 4294967295) : Calls Tryz.prog 35 #[.int .u32 id] w fun e w' => e = .returned (.int .i64 (idC id)) ∧ w = w' := by
  by_cases h1 : id = 0
  · subst h1
    rw [show idC 0 = 6 from rfl]
    go_enter Tryz.func35, Tryz.ntmps35
    go_wp2_with fail
    go_ret
    exact ⟨rfl, rfl⟩
  · have d1 : (id == 0) = false := by simp [h1]
    obtain ⟨cb, hc⟩ : ∃ cb, clientB id = cb := ⟨_, rfl⟩
    have e1 : idC id = if cb then 0 else 1 := by unfold idC; rw [if_neg h1, hc]
    have HC := Lib.hid hc
    rw [e1]
    clear e1 h1 hc
    cases cb
    all_goals
      go_enter Tryz.func35, Tryz.ntmps35
      go_wp2_with (go_at_call 59; refine (client_any _ _ h).mono ?_; rintro e w' ⟨rfl, rfl⟩; rw [HC.out])
      go_ret
      exact ⟨rfl, rfl⟩

end Go.Proofs.YtbfefkhejknmoaaGreatDoor

namespace Go.Proofs.YtbfefkhejknmoaaGreatDoor
open Go.RowKit

/-- a rectangle. -/
structure RC where
  X : Int
  Y : Int
  W : Int
  H : Int
  deriving Inhabited, DecidableEq
/-- how it stands in cells. -/
def RC.cells (r : RC) : List Value := [.int .i64 r.X, .int .i64 r.Y, .int .i64 r.W, .int .i64 r.H]
def fitsB (f n : Int) : Bool := decide (-1048576 ≤ f ∧ 0 < n ∧ f + n ≤ 1048576)
def RC.cnt (r : RC) : Bool := fitsB r.X r.W && fitsB r.Y r.H
theorem fits_iff (f n : Int) : fitsB f n = true ↔ -1048576 ≤ f ∧ 0 < n ∧ f + n ≤ 1048576 := by simp [fitsB]
theorem fits_no {f n : Int} (h : ¬ (-1048576 ≤ f ∧ 0 < n ∧ f + n ≤ 1048576)) : fitsB f n = false := by
  cases hc : fitsB f n
  · rfl
  · exact absurd ((fits_iff f n).1 hc) h

set_option maxRecDepth 100000 in
set_option maxHeartbeats 1000000 in
theorem fits_any (f n : Int) (w : World) (hf : f ≤ 9223372036854775807) : Calls Tryz.prog 85 #[.int .i64 f, .int .i64 n] w fun e w' => e = .returned (.bool (fitsB f n)) ∧ w = w' := by
  have t : decide (-1048576 ≤ f) = false ∨ (decide (-1048576 ≤ f) = true ∧ (decide (0 < n) = false ∨ (decide (0 < n) = true ∧ (decide (n ≤ 1048576 - f) = false ∨ decide (n ≤ 1048576 - f) = true)))) := by
    simp only [decide_eq_true_eq, decide_eq_false_iff_not]; omega
  rcases t with d1 | ⟨d1, d2 | ⟨d2, d3 | d3⟩⟩
  case inr.inr.inr =>
    have hb : -1048576 ≤ f := by simpa using d1
    have hv : fitsB f n = true := (fits_iff f n).2 (by simp only [decide_eq_true_eq] at d1 d2 d3; omega)
    have HV := Lib.hid hv
    clear hv
    go_enter Tryz.func85, Tryz.ntmps85
    go_wp2_with fail
    go_ret
    exact ⟨ret_bool HV.out.symm, rfl⟩
  all_goals
    have hv : fitsB f n = false := fits_no (by simp only [decide_eq_false_iff_not, decide_eq_true_eq] at *; omega)
    have HV := Lib.hid hv
    clear hv
    try (have hb : -1048576 ≤ f := (by simpa using d1))
    go_enter Tryz.func85, Tryz.ntmps85
    go_wp2_with fail
    go_ret
    exact ⟨ret_bool HV.out.symm, rfl⟩

set_option maxHeartbeats 1000000 in
theorem bcounts_any (r : RC) (w : World) (hx : r.X ≤ 9223372036854775807) (hy : r.Y ≤ 9223372036854775807) :
    Calls Tryz.prog 64 #[.agg #[.int .i64 r.X, .int .i64 r.Y, .int .i64 r.W, .int .i64 r.H]] w fun e w' => e = .returned (.bool r.cnt) ∧ w' = w.alloc (.cells #[.int .i64 r.X, .int .i64 r.Y, .int .i64 r.W, .int .i64 r.H] 29) := by
  cases h1 : fitsB r.X r.W
  · have hv : r.cnt = false := by simp [RC.cnt, h1]
    have HV := Lib.hid hv
    clear hv
    go_enter Tryz.func64, Tryz.ntmps64
    go_wp2_with (go_at_call 85; refine (fits_any _ _ _ (by assumption)).mono ?_; rintro e w' ⟨rfl, rfl⟩)
    go_ret
    exact ⟨ret_bool HV.out.symm, rfl⟩
  · have hv : r.cnt = fitsB r.Y r.H := by simp [RC.cnt, h1]
    have HV := Lib.hid hv
    clear hv
    go_enter Tryz.func64, Tryz.ntmps64
    go_wp2_with (go_at_call 85; refine (fits_any _ _ _ (by assumption)).mono ?_; rintro e w' ⟨rfl, rfl⟩)
    go_ret
    exact ⟨ret_bool HV.out.symm, rfl⟩

/-- what Go's comparer tells of two numbers. -/
def cmpI (a b : Int) : Int := if a < b then -1 else if b < a then 1 else 0
set_option maxHeartbeats 400000 in
theorem isNaN_any (a : Int) (w : World) : Calls Tryz.prog 88 #[.int .i64 a] w fun e w' => e = .returned (.bool false) ∧ w = w' := by
  go_enter Tryz.func88, Tryz.ntmps88
  go_wp2_with fail
  go_ret
  simp
set_option maxHeartbeats 1000000 in
theorem compare_any (a b : Int) (w : World) : Calls Tryz.prog 68 #[.int .i64 a, .int .i64 b] w fun e w' => e = .returned (.int .i64 (cmpI a b)) ∧ w = w' := by
  have t : (decide (a < b) = true ∧ cmpI a b = -1) ∨ (decide (a < b) = false ∧ decide (b < a) = true ∧ cmpI a b = 1) ∨ (decide (a < b) = false ∧ decide (b < a) = false ∧ cmpI a b = 0) := by
    unfold cmpI
    by_cases h1 : a < b
    · exact .inl ⟨decide_eq_true h1, if_pos h1⟩
    · by_cases h2 : b < a
      · exact .inr (.inl ⟨decide_eq_false h1, decide_eq_true h2, by rw [if_neg h1, if_pos h2]⟩)
      · exact .inr (.inr ⟨decide_eq_false h1, decide_eq_false h2, by rw [if_neg h1, if_neg h2]⟩)
  rcases t with ⟨d1, hv⟩ | ⟨d1, d2, hv⟩ | ⟨d1, d2, hv⟩
  all_goals
    have HV := Lib.hid hv
    clear hv
    go_enter Tryz.func68, Tryz.ntmps68
    go_wp2_with (go_at_call 88; refine (isNaN_any _ _).mono ?_; rintro e w' ⟨rfl, rfl⟩)
    go_ret
    exact ⟨ret_int HV.out.symm, rfl⟩

/-- by rows, then across. -/
def cmpX (a b : RC) : Int := cmpI a.X b.X

set_option maxHeartbeats 1000000 in
theorem of3_any (x y : RC) (w : World) : Calls Tryz.prog 72 #[.agg #[.int .i64 x.X, .int .i64 x.Y, .int .i64 x.W, .int .i64 x.H], .agg #[.int .i64 y.X, .int .i64 y.Y, .int .i64 y.W, .int .i64 y.H]] w fun e w' => e = .returned (.int .i64 (cmpX x y)) ∧ w' = (w.alloc (.cells #[.int .i64 x.X, .int .i64 x.Y, .int .i64 x.W, .int .i64 x.H] 29)).alloc (.cells #[.int .i64 y.X, .int .i64 y.Y, .int .i64 y.W, .int .i64 y.H] 29) := by
  go_enter Tryz.func72, Tryz.ntmps72
  go_wp2_with (go_at_call 68; refine (compare_any _ _ _).mono ?_; rintro e w' ⟨rfl, rfl⟩)
  go_ret
  exact ⟨rfl, rfl⟩

/-- the first that is not 0. -/
def orI (a b : Int) : Int := if a ≠ 0 then a else b
set_option maxHeartbeats 1000000 in
theorem or2_any (a b : Int) (g : Nat) (w : World) (h : w.cell? ⟨g, 0, none⟩ = some (.int .i64 a) ∧ w.cell? ⟨g, 1, none⟩ = some (.int .i64 b)) :
    Calls Tryz.prog 67 #[.slice (some ⟨g, 0, none⟩) 2 2] w fun e w' => e = .returned (.int .i64 (orI a b)) ∧ w = w' := by
  obtain ⟨h0, h1⟩ := h
  by_cases ha : a = 0
  · subst ha
    have hv : orI 0 b = b := by simp [orI]
    have HV := Lib.hid hv
    clear hv
    by_cases hb : b = 0
    · subst hb
      go_enter Tryz.func67, Tryz.ntmps67
      go_wp2_with fail
      refine wp_loop_rounds 3 ?_
      rw [rounds_succ]
      go_wp2_with fail
      rw [rounds_succ]
      go_wp2_with fail
      rw [rounds_succ]
      go_wp2_with fail
      go_ret
      exact ⟨ret_int HV.out.symm, rfl⟩
    · have d : (b != 0) = true := by simpa using hb
      go_enter Tryz.func67, Tryz.ntmps67
      go_wp2_with fail
      refine wp_loop_rounds 2 ?_
      rw [rounds_succ]
      go_wp2_with fail
      rw [rounds_succ]
      go_wp2_with fail
      go_ret
      exact ⟨ret_int HV.out.symm, rfl⟩
  · have hv : orI a b = a := if_pos ha
    have HV := Lib.hid hv
    have d : (a != 0) = true := by simpa using ha
    clear hv
    go_enter Tryz.func67, Tryz.ntmps67
    go_wp2_with fail
    refine wp_loop_rounds 1 ?_
    rw [rounds_succ]
    go_wp2_with fail
    go_ret
    exact ⟨ret_int HV.out.symm, rfl⟩

def cmpYX (a b : RC) : Int := orI (cmpI a.Y b.Y) (cmpI a.X b.X)
theorem two_at (w : World) (a b : Int) (t : TypeId) : (w.alloc (.cells #[.int .i64 a, .int .i64 b] t)).cell? ⟨w.heap.size, 0, none⟩ = some (.int .i64 a) ∧ (w.alloc (.cells #[.int .i64 a, .int .i64 b] t)).cell? ⟨w.heap.size, 1, none⟩ = some (.int .i64 b) :=
  ⟨(Blk.new w t _).cellV rfl, (Blk.new w t _).cellV rfl⟩
set_option maxHeartbeats 2000000 in
theorem of1_any (x y : RC) (w : World) : Calls Tryz.prog 66 #[.agg #[.int .i64 x.X, .int .i64 x.Y, .int .i64 x.W, .int .i64 x.H], .agg #[.int .i64 y.X, .int .i64 y.Y, .int .i64 y.W, .int .i64 y.H]] w fun e w' => e = .returned (.int .i64 (cmpYX x y)) ∧ w' = (((w.alloc (.cells #[.int .i64 x.X, .int .i64 x.Y, .int .i64 x.W, .int .i64 x.H] 29)).alloc (.cells #[.int .i64 y.X, .int .i64 y.Y, .int .i64 y.W, .int .i64 y.H] 29)).alloc (.cells #[.int .i64 (cmpI x.Y y.Y), .int .i64 (cmpI x.X y.X)] 3)).drew := by
  go_enter Tryz.func66, Tryz.ntmps66
  go_wp2_with fail
  have b0 := (Blk.new w 29 #[.int .i64 x.X, .int .i64 x.Y, .int .i64 x.W, .int .i64 x.H]).alloc (.cells #[.int .i64 y.X, .int .i64 y.Y, .int .i64 y.W, .int .i64 y.H] 29)
  have b1 := Blk.new (w.alloc (.cells #[.int .i64 x.X, .int .i64 x.Y, .int .i64 x.W, .int .i64 x.H] 29)) 29 #[.int .i64 y.X, .int .i64 y.Y, .int .i64 y.W, .int .i64 y.H]
  rw [World.size_alloc] at b1
  obtain ⟨Z, hZ⟩ : ∃ Z, (w.alloc (.cells #[.int .i64 x.X, .int .i64 x.Y, .int .i64 x.W, .int .i64 x.H] 29)).alloc (.cells #[.int .i64 y.X, .int .i64 y.Y, .int .i64 y.W, .int .i64 y.H] 29) = Z := ⟨_, rfl⟩
  rw [hZ] at b0 b1 ⊢
  have c0 := b0.cellV (i := 0) (v := .int .i64 x.X) rfl
  have c1 := b0.cellV (i := 1) (v := .int .i64 x.Y) rfl
  have d0 := b1.cellV (i := 0) (v := .int .i64 y.X) rfl
  have d1 := b1.cellV (i := 1) (v := .int .i64 y.Y) rfl
  have z0 := b0.lt
  have z1 := b1.lt
  have HZ := Lib.hid hZ
  clear b0 b1 hZ
  go_region_held3 (fun w' => w'.cell? ⟨w.heap.size, 0, none⟩ = some (.int .i64 x.X) ∧ w'.cell? ⟨w.heap.size, 1, none⟩ = some (.int .i64 x.Y) ∧ w'.cell? ⟨w.heap.size + 1, 0, none⟩ = some (.int .i64 y.X) ∧ w'.cell? ⟨w.heap.size + 1, 1, none⟩ = some (.int .i64 y.Y))
    (go_keep)
    (first | (go_at_call 68; refine (compare_any _ _ _).mono ?_; rintro e w' ⟨rfl, rfl⟩) | (go_at_call 67; refine (or2_any _ _ _ _ (by exact two_at _ _ _ _)).mono ?_; rintro e w' ⟨rfl, rfl⟩))
  go_wp2_with fail
  go_ret
  exact ⟨rfl, by rw [HZ.out]⟩

end Go.Proofs.YtbfefkhejknmoaaGreatDoor
