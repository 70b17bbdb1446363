/-
  The walks of small words of windows: may a number be a place, a side, an id, a gravity?
  The walks of package band's small functions: which rectangles count; the comparers and predicates that it hands to the library.
  Slices of rectangles; the walks of band.alike with slices.EqualFunc, and of slices.Clip.
  The walks of a region's Empty and Area.
  The walks of place.New, Set, Box.
  The walks of a place's twin and Set.
  The walks of a place's Set: what is wrong.
-/
import Derived.Test.YtdaedkolpfkdjaaGreatZT00
import Derived.Test.YtdaedkolpfkdjaaGreatZT01
import Derived.Outline
import Derived.Carry
import Derived.Test.YtdaedkolpfkdjaaGreatShelfM
section
namespace Go.Proofs.YtdaedkolpfkdjaaGreat
open Go.RowKit

def coordB (n : Int) : Bool := decide (-32768 ≤ n) && decide (n ≤ 32767)
def sideB (n : Int) : Bool := decide (1 ≤ n) && decide (n ≤ 128)

set_option maxRecDepth 100000 in
theorem coord_any (n : Int) (w : World) : Calls Tryz.prog 140 #[.int .i64 n] w fun e w' => e = .returned (.bool (coordB n)) ∧ w = w' := by
  unfold coordB
  cases d1 : decide (-32768 ≤ n) <;> cases d2 : decide (n ≤ 32767)
  all_goals
    go_enter Tryz.func140, Tryz.ntmps140
    go_wp2_with fail
    go_ret
    exact ⟨rfl, rfl⟩
set_option maxRecDepth 100000 in
theorem side_any (n : Int) (w : World) : Calls Tryz.prog 137 #[.int .i64 n] w fun e w' => e = .returned (.bool (sideB n)) ∧ w = w' := by
  unfold sideB
  cases d1 : decide (1 ≤ n) <;> cases d2 : decide (n ≤ 128)
  all_goals
    go_enter Tryz.func137, Tryz.ntmps137
    go_wp2_with fail
    go_ret
    exact ⟨rfl, rfl⟩

/-- a gravity's code. -/
def gravC (g : Int) : Int := if 0 ≤ g ∧ g ≤ 10 then 0 else 10
set_option maxRecDepth 100000 in
theorem gcheck_any (g : Int) (w : World) : Calls Tryz.prog 141 #[.int .i64 g] w fun e w' => e = .returned (.int .i64 (gravC g)) ∧ w = w' := by
  have t : (decide (g < 0) = true ∧ gravC g = 10) ∨ (decide (g < 0) = false ∧ ((decide (10 < g) = true ∧ gravC g = 10) ∨ (decide (10 < g) = false ∧ gravC g = 0))) := by
    simp only [decide_eq_true_eq, decide_eq_false_iff_not]
    unfold gravC
    split <;> omega
  rcases t with ⟨d1, e⟩ | ⟨d1, ⟨d2, e⟩ | ⟨d2, e⟩⟩
  all_goals
    rw [e]
    clear e
    go_enter Tryz.func141, Tryz.ntmps141
    go_wp2_with fail
    go_ret
    exact ⟨rfl, rfl⟩

set_option maxRecDepth 100000 in
theorem isClient_any (n : Int) (w : World) : Calls Tryz.prog 167 #[.int .i64 n] w fun e w' => e = .returned (.bool (decide (1 ≤ n) && decide (n ≤ 8))) ∧ w = w' := by
  cases d1 : decide (1 ≤ n) <;> cases d2 : decide (n ≤ 8)
  all_goals
    go_enter Tryz.func167, Tryz.ntmps167
    go_wp2_with fail
    go_ret
    exact ⟨rfl, rfl⟩

/-- whose an id is. -/
def clientI (id : Int) : Int := if id = 1 then 0 else if id % 1048576 = 0 ∨ id / 1048576 < 1 ∨ 8 < id / 1048576 then 0 else id / 1048576
def clientB (id : Int) : Bool := decide (id = 1) || !(decide (id % 1048576 = 0) || decide (id / 1048576 < 1) || decide (8 < id / 1048576))
/-- an id's code. -/
def idC (id : Int) : Int := if id = 0 then 6 else if clientB id then 0 else 1

set_option maxRecDepth 100000 in
set_option maxHeartbeats 1000000 in
theorem client_any (id : Int) (w : World) (h : 0 ≤ id ∧ id ≤ 4294967295) : Calls Tryz.prog 117 #[.int .u32 id] w fun e w' => e = .returned (.tuple #[.int .i64 (clientI id), .bool (clientB id)]) ∧ w = w' := by
  have hq : 0 ≤ id / 1048576 ∧ id / 1048576 ≤ 4294967295 := by omega
  have hr : 0 ≤ id % 1048576 ∧ id % 1048576 ≤ 1048576 := by omega
  have h' := h
  by_cases h1 : id = 1
  · subst h1
    have e1 : clientI 1 = 0 := by decide
    have e2 : clientB 1 = true := by decide
    rw [e1, e2]
    clear e1 e2 hq hr
    go_enter Tryz.func117, Tryz.ntmps117
    go_wp2_with fail
    go_ret2
    exact ⟨rfl, rfl⟩
  · have d1 : (id == 1) = false := by simp [h1]
    by_cases h2 : id % 1048576 = 0
    · have d2 : (id % 1048576 == 0) = true := by simp [h2]
      have e1 : clientI id = 0 := by unfold clientI; rw [if_neg h1, if_pos (.inl h2)]
      have e2 : clientB id = false := by unfold clientB; simp [h1, h2]
      rw [e1, e2]
      clear e1 e2 h1 h2 hq hr
      go_enter Tryz.func117, Tryz.ntmps117
      go_wp2_with fail
      go_ret2
      exact ⟨rfl, rfl⟩
    · have d2 : (id % 1048576 == 0) = false := by simp [h2]
      obtain ⟨cl, hcl⟩ : ∃ cl, (decide (1 ≤ id / 1048576) && decide (id / 1048576 ≤ 8)) = cl := ⟨_, rfl⟩
      have e1 : clientI id = if cl then id / 1048576 else 0 := by
        unfold clientI
        rw [if_neg h1, ← hcl]
        by_cases h3 : 1 ≤ id / 1048576 ∧ id / 1048576 ≤ 8
        · rw [if_neg (by omega), if_pos (by simp only [Bool.and_eq_true, decide_eq_true_eq]; exact h3)]
        · rw [if_pos (by omega), if_neg (by simp only [Bool.and_eq_true, decide_eq_true_eq]; exact h3)]
      have e2 : clientB id = cl := by
        unfold clientB
        rw [← hcl, Bool.eq_iff_iff]
        simp only [h1, h2, decide_false, Bool.false_or, Bool.not_or, Bool.and_eq_true, Bool.not_eq_true', decide_eq_false_iff_not, decide_eq_true_eq]
        omega
      rw [e1, e2]
      have HCL := Lib.hid hcl
      clear e1 e2 h1 h2 hcl hr
      cases cl
      all_goals
        go_enter Tryz.func117, Tryz.ntmps117
        go_wp2_with (go_at_call 167; refine (isClient_any _ _).mono ?_; rintro e w' ⟨rfl, rfl⟩; rw [HCL.out])
        go_ret2
        exact ⟨rfl, rfl⟩

set_option maxRecDepth 100000 in
set_option maxHeartbeats 1000000 in
theorem check_any (id : Int) (w : World) (h : 0 ≤ id ∧ id ≤ 4294967295) : Calls Tryz.prog 64 #[.int .u32 id] w fun e w' => e = .returned (.int .i64 (idC id)) ∧ w = w' := by
  by_cases h1 : id = 0
  · subst h1
    rw [show idC 0 = 6 from rfl]
    go_enter Tryz.func64, Tryz.ntmps64
    go_wp2_with fail
    go_ret
    exact ⟨rfl, rfl⟩
  · have d1 : (id == 0) = false := by simp [h1]
    obtain ⟨cb, hc⟩ : ∃ cb, clientB id = cb := ⟨_, rfl⟩
    have e1 : idC id = if cb then 0 else 1 := by unfold idC; rw [if_neg h1, hc]
    have HC := Lib.hid hc
    rw [e1]
    clear e1 h1 hc
    cases cb
    all_goals
      go_enter Tryz.func64, Tryz.ntmps64
      go_wp2_with (go_at_call 117; refine (client_any _ _ h).mono ?_; rintro e w' ⟨rfl, rfl⟩; rw [HC.out])
      go_ret
      exact ⟨rfl, rfl⟩

end Go.Proofs.YtdaedkolpfkdjaaGreat
end

section
namespace Go.Proofs.YtdaedkolpfkdjaaGreat
open Go.RowKit

/-- a rectangle. -/
structure RC where
  X : Int
  Y : Int
  W : Int
  H : Int
  deriving Inhabited, DecidableEq
/-- how it stands in cells. -/
def RC.cells (r : RC) : List Value := [.int .i64 r.X, .int .i64 r.Y, .int .i64 r.W, .int .i64 r.H]
def fitsB (f n : Int) : Bool := decide (-1048576 ≤ f ∧ 0 < n ∧ f + n ≤ 1048576)
def RC.cnt (r : RC) : Bool := fitsB r.X r.W && fitsB r.Y r.H
theorem fits_iff (f n : Int) : fitsB f n = true ↔ -1048576 ≤ f ∧ 0 < n ∧ f + n ≤ 1048576 := by simp [fitsB]
theorem fits_no {f n : Int} (h : ¬ (-1048576 ≤ f ∧ 0 < n ∧ f + n ≤ 1048576)) : fitsB f n = false := by
  cases hc : fitsB f n
  · rfl
  · exact absurd ((fits_iff f n).1 hc) h

set_option maxRecDepth 100000 in
set_option maxHeartbeats 1000000 in
theorem fits_any (f n : Int) (w : World) (hf : f ≤ 9223372036854775807) : Calls Tryz.prog 169 #[.int .i64 f, .int .i64 n] w fun e w' => e = .returned (.bool (fitsB f n)) ∧ w = w' := by
  have t : decide (-1048576 ≤ f) = false ∨ (decide (-1048576 ≤ f) = true ∧ (decide (0 < n) = false ∨ (decide (0 < n) = true ∧ (decide (n ≤ 1048576 - f) = false ∨ decide (n ≤ 1048576 - f) = true)))) := by
    simp only [decide_eq_true_eq, decide_eq_false_iff_not]; omega
  rcases t with d1 | ⟨d1, d2 | ⟨d2, d3 | d3⟩⟩
  case inr.inr.inr =>
    have hb : -1048576 ≤ f := by simpa using d1
    have hv : fitsB f n = true := (fits_iff f n).2 (by simp only [decide_eq_true_eq] at d1 d2 d3; omega)
    have HV := Lib.hid hv
    clear hv
    go_enter Tryz.func169, Tryz.ntmps169
    go_wp2_with fail
    go_ret
    exact ⟨ret_bool HV.out.symm, rfl⟩
  all_goals
    have hv : fitsB f n = false := fits_no (by simp only [decide_eq_false_iff_not, decide_eq_true_eq] at *; omega)
    have HV := Lib.hid hv
    clear hv
    try (have hb : -1048576 ≤ f := (by simpa using d1))
    go_enter Tryz.func169, Tryz.ntmps169
    go_wp2_with fail
    go_ret
    exact ⟨ret_bool HV.out.symm, rfl⟩

set_option maxHeartbeats 1000000 in
theorem bcounts_any (r : RC) (w : World) (hx : r.X ≤ 9223372036854775807) (hy : r.Y ≤ 9223372036854775807) :
    Calls Tryz.prog 124 #[.agg #[.int .i64 r.X, .int .i64 r.Y, .int .i64 r.W, .int .i64 r.H]] w fun e w' => e = .returned (.bool r.cnt) ∧ w' = w.alloc (.cells #[.int .i64 r.X, .int .i64 r.Y, .int .i64 r.W, .int .i64 r.H] 103) := by
  cases h1 : fitsB r.X r.W
  · have hv : r.cnt = false := by simp [RC.cnt, h1]
    have HV := Lib.hid hv
    clear hv
    go_enter Tryz.func124, Tryz.ntmps124
    go_wp2_with (go_at_call 169; refine (fits_any _ _ _ (by assumption)).mono ?_; rintro e w' ⟨rfl, rfl⟩)
    go_ret
    exact ⟨ret_bool HV.out.symm, rfl⟩
  · have hv : r.cnt = fitsB r.Y r.H := by simp [RC.cnt, h1]
    have HV := Lib.hid hv
    clear hv
    go_enter Tryz.func124, Tryz.ntmps124
    go_wp2_with (go_at_call 169; refine (fits_any _ _ _ (by assumption)).mono ?_; rintro e w' ⟨rfl, rfl⟩)
    go_ret
    exact ⟨ret_bool HV.out.symm, rfl⟩

/-- what Go's comparer tells of two numbers. -/
def cmpI (a b : Int) : Int := if a < b then -1 else if b < a then 1 else 0
set_option maxHeartbeats 400000 in
theorem isNaN_any (a : Int) (w : World) : Calls Tryz.prog 172 #[.int .i64 a] w fun e w' => e = .returned (.bool false) ∧ w = w' := by
  go_enter Tryz.func172, Tryz.ntmps172
  go_wp2_with fail
  go_ret
  simp
set_option maxHeartbeats 1000000 in
theorem compare_any (a b : Int) (w : World) : Calls Tryz.prog 128 #[.int .i64 a, .int .i64 b] w fun e w' => e = .returned (.int .i64 (cmpI a b)) ∧ w = w' := by
  have t : (decide (a < b) = true ∧ cmpI a b = -1) ∨ (decide (a < b) = false ∧ decide (b < a) = true ∧ cmpI a b = 1) ∨ (decide (a < b) = false ∧ decide (b < a) = false ∧ cmpI a b = 0) := by
    unfold cmpI
    by_cases h1 : a < b
    · exact .inl ⟨decide_eq_true h1, if_pos h1⟩
    · by_cases h2 : b < a
      · exact .inr (.inl ⟨decide_eq_false h1, decide_eq_true h2, by rw [if_neg h1, if_pos h2]⟩)
      · exact .inr (.inr ⟨decide_eq_false h1, decide_eq_false h2, by rw [if_neg h1, if_neg h2]⟩)
  rcases t with ⟨d1, hv⟩ | ⟨d1, d2, hv⟩ | ⟨d1, d2, hv⟩
  all_goals
    have HV := Lib.hid hv
    clear hv
    go_enter Tryz.func128, Tryz.ntmps128
    go_wp2_with (go_at_call 172; refine (isNaN_any _ _).mono ?_; rintro e w' ⟨rfl, rfl⟩)
    go_ret
    exact ⟨ret_int HV.out.symm, rfl⟩

/-- by rows, then across. -/
def cmpX (a b : RC) : Int := cmpI a.X b.X

set_option maxHeartbeats 1000000 in
theorem of3_any (x y : RC) (w : World) : Calls Tryz.prog 132 #[.agg #[.int .i64 x.X, .int .i64 x.Y, .int .i64 x.W, .int .i64 x.H], .agg #[.int .i64 y.X, .int .i64 y.Y, .int .i64 y.W, .int .i64 y.H]] w fun e w' => e = .returned (.int .i64 (cmpX x y)) ∧ w' = (w.alloc (.cells #[.int .i64 x.X, .int .i64 x.Y, .int .i64 x.W, .int .i64 x.H] 103)).alloc (.cells #[.int .i64 y.X, .int .i64 y.Y, .int .i64 y.W, .int .i64 y.H] 103) := by
  go_enter Tryz.func132, Tryz.ntmps132
  go_wp2_with (go_at_call 128; refine (compare_any _ _ _).mono ?_; rintro e w' ⟨rfl, rfl⟩)
  go_ret
  exact ⟨rfl, rfl⟩

/-- the first that is not 0. -/
def orI (a b : Int) : Int := if a ≠ 0 then a else b
set_option maxHeartbeats 1000000 in
theorem or2_any (a b : Int) (g : Nat) (w : World) (h : w.cell? ⟨g, 0, none⟩ = some (.int .i64 a) ∧ w.cell? ⟨g, 1, none⟩ = some (.int .i64 b)) :
    Calls Tryz.prog 127 #[.slice (some ⟨g, 0, none⟩) 2 2] w fun e w' => e = .returned (.int .i64 (orI a b)) ∧ w = w' := by
  obtain ⟨h0, h1⟩ := h
  by_cases ha : a = 0
  · subst ha
    have hv : orI 0 b = b := by simp [orI]
    have HV := Lib.hid hv
    clear hv
    by_cases hb : b = 0
    · subst hb
      go_enter Tryz.func127, Tryz.ntmps127
      go_wp2_with fail
      refine wp_loop_rounds 3 ?_
      rw [rounds_succ]
      go_wp2_with fail
      rw [rounds_succ]
      go_wp2_with fail
      rw [rounds_succ]
      go_wp2_with fail
      go_ret
      exact ⟨ret_int HV.out.symm, rfl⟩
    · have d : (b != 0) = true := by simpa using hb
      go_enter Tryz.func127, Tryz.ntmps127
      go_wp2_with fail
      refine wp_loop_rounds 2 ?_
      rw [rounds_succ]
      go_wp2_with fail
      rw [rounds_succ]
      go_wp2_with fail
      go_ret
      exact ⟨ret_int HV.out.symm, rfl⟩
  · have hv : orI a b = a := if_pos ha
    have HV := Lib.hid hv
    have d : (a != 0) = true := by simpa using ha
    clear hv
    go_enter Tryz.func127, Tryz.ntmps127
    go_wp2_with fail
    refine wp_loop_rounds 1 ?_
    rw [rounds_succ]
    go_wp2_with fail
    go_ret
    exact ⟨ret_int HV.out.symm, rfl⟩

def cmpYX (a b : RC) : Int := orI (cmpI a.Y b.Y) (cmpI a.X b.X)
theorem two_at (w : World) (a b : Int) (t : TypeId) : (w.alloc (.cells #[.int .i64 a, .int .i64 b] t)).cell? ⟨w.heap.size, 0, none⟩ = some (.int .i64 a) ∧ (w.alloc (.cells #[.int .i64 a, .int .i64 b] t)).cell? ⟨w.heap.size, 1, none⟩ = some (.int .i64 b) :=
  ⟨(Blk.new w t _).cellV rfl, (Blk.new w t _).cellV rfl⟩
set_option maxHeartbeats 2000000 in
theorem of1_any (x y : RC) (w : World) : Calls Tryz.prog 126 #[.agg #[.int .i64 x.X, .int .i64 x.Y, .int .i64 x.W, .int .i64 x.H], .agg #[.int .i64 y.X, .int .i64 y.Y, .int .i64 y.W, .int .i64 y.H]] w fun e w' => e = .returned (.int .i64 (cmpYX x y)) ∧ w' = (((w.alloc (.cells #[.int .i64 x.X, .int .i64 x.Y, .int .i64 x.W, .int .i64 x.H] 103)).alloc (.cells #[.int .i64 y.X, .int .i64 y.Y, .int .i64 y.W, .int .i64 y.H] 103)).alloc (.cells #[.int .i64 (cmpI x.Y y.Y), .int .i64 (cmpI x.X y.X)] 3)).drew := by
  go_enter Tryz.func126, Tryz.ntmps126
  go_wp2_with fail
  have b0 := (Blk.new w 103 #[.int .i64 x.X, .int .i64 x.Y, .int .i64 x.W, .int .i64 x.H]).alloc (.cells #[.int .i64 y.X, .int .i64 y.Y, .int .i64 y.W, .int .i64 y.H] 103)
  have b1 := Blk.new (w.alloc (.cells #[.int .i64 x.X, .int .i64 x.Y, .int .i64 x.W, .int .i64 x.H] 103)) 103 #[.int .i64 y.X, .int .i64 y.Y, .int .i64 y.W, .int .i64 y.H]
  rw [World.size_alloc] at b1
  obtain ⟨Z, hZ⟩ : ∃ Z, (w.alloc (.cells #[.int .i64 x.X, .int .i64 x.Y, .int .i64 x.W, .int .i64 x.H] 103)).alloc (.cells #[.int .i64 y.X, .int .i64 y.Y, .int .i64 y.W, .int .i64 y.H] 103) = Z := ⟨_, rfl⟩
  rw [hZ] at b0 b1 ⊢
  have c0 := b0.cellV (i := 0) (v := .int .i64 x.X) rfl
  have c1 := b0.cellV (i := 1) (v := .int .i64 x.Y) rfl
  have d0 := b1.cellV (i := 0) (v := .int .i64 y.X) rfl
  have d1 := b1.cellV (i := 1) (v := .int .i64 y.Y) rfl
  have z0 := b0.lt
  have z1 := b1.lt
  have HZ := Lib.hid hZ
  clear b0 b1 hZ
  go_region_held3 (fun w' => w'.cell? ⟨w.heap.size, 0, none⟩ = some (.int .i64 x.X) ∧ w'.cell? ⟨w.heap.size, 1, none⟩ = some (.int .i64 x.Y) ∧ w'.cell? ⟨w.heap.size + 1, 0, none⟩ = some (.int .i64 y.X) ∧ w'.cell? ⟨w.heap.size + 1, 1, none⟩ = some (.int .i64 y.Y))
    (go_keep)
    (first | (go_at_call 128; refine (compare_any _ _ _).mono ?_; rintro e w' ⟨rfl, rfl⟩) | (go_at_call 127; refine (or2_any _ _ _ _ (by exact two_at _ _ _ _)).mono ?_; rintro e w' ⟨rfl, rfl⟩))
  go_wp2_with fail
  go_ret
  exact ⟨rfl, by rw [HZ.out]⟩

end Go.Proofs.YtdaedkolpfkdjaaGreat
end

section
namespace Go.Proofs.YtdaedkolpfkdjaaGreat
open Go.RowKit

/-- four cells read as a rectangle. -/
def RcAt (w : World) (b o : Nat) (r : RC) : Prop := w.cell? ⟨b, o, none⟩ = some (.int .i64 r.X) ∧ w.cell? ⟨b, o + 1, none⟩ = some (.int .i64 r.Y) ∧ w.cell? ⟨b, o + 1 + 1, none⟩ = some (.int .i64 r.W) ∧ w.cell? ⟨b, o + 1 + 1 + 1, none⟩ = some (.int .i64 r.H)
theorem RcAt.below {w w' : World} {b o : Nat} {r : RC} (h : RcAt w b o r) (hb : Below w.heap.size w w') (hl : b < w.heap.size) : RcAt w' b o r :=
  ⟨(hb.cell (p := ⟨b, o, none⟩) hl).trans h.1, (hb.cell (p := ⟨b, o + 1, none⟩) hl).trans h.2.1, (hb.cell (p := ⟨b, o + 1 + 1, none⟩) hl).trans h.2.2.1, (hb.cell (p := ⟨b, o + 1 + 1 + 1, none⟩) hl).trans h.2.2.2⟩
/-- a slice reads as rectangles. -/
def RdR (w : World) (A : Option Addr) (n : Nat) (rs : List RC) : Prop :=
  rs.length = n ∧ (0 < n → ∃ b off, A = some ⟨b, off, none⟩ ∧ b < w.heap.size ∧ ∀ k r, rs[k]? = some r → RcAt w b (off + k * 4) r)
theorem RdR.below {w w' : World} {A : Option Addr} {n : Nat} {rs : List RC} (h : RdR w A n rs) (hb : Below w.heap.size w w') : RdR w' A n rs :=
  ⟨h.1, fun hn => by
    obtain ⟨b, off, e, hl, hc⟩ := h.2 hn
    exact ⟨b, off, e, Nat.lt_of_lt_of_le hl hb.size, fun k r hk => (hc k r hk).below hb hl⟩⟩
/-- rectangles of the places that numbers allow. -/
def RC.ok (r : RC) : Prop := -4194304 ≤ r.X ∧ r.X ≤ 4194304 ∧ -4194304 ≤ r.Y ∧ r.Y ≤ 4194304 ∧ -4194304 ≤ r.W ∧ r.W ≤ 4194304 ∧ -4194304 ≤ r.H ∧ r.H ≤ 4194304
/-- does a rectangle go on in the next one? -/
def RC.on (x y : RC) : Bool := x.X == y.X && x.W == y.W && x.Y + x.H == y.Y

set_option maxHeartbeats 1000000 in
theorem alike1_any (x y : RC) (w : World) (hx : x.ok) : Calls Tryz.prog 178 #[.agg #[.int .i64 x.X, .int .i64 x.Y, .int .i64 x.W, .int .i64 x.H], .agg #[.int .i64 y.X, .int .i64 y.Y, .int .i64 y.W, .int .i64 y.H]] w fun e w' => e = .returned (.bool (x.on y)) ∧ w' = (w.alloc (.cells #[.int .i64 x.X, .int .i64 x.Y, .int .i64 x.W, .int .i64 x.H] 103)).alloc (.cells #[.int .i64 y.X, .int .i64 y.Y, .int .i64 y.W, .int .i64 y.H] 103) := by
  obtain ⟨_, _, h3, h4, _, _, h7, h8⟩ := hx
  cases d1 : (x.X == y.X)
  · have hv : x.on y = false := by simp [RC.on, d1]
    have HV := Lib.hid hv
    clear hv
    go_enter Tryz.func178, Tryz.ntmps178
    go_wp2_with fail
    go_ret
    exact ⟨ret_bool HV.out.symm, rfl⟩
  · cases d2 : (x.W == y.W)
    · have hv : x.on y = false := by simp [RC.on, d2]
      have HV := Lib.hid hv
      clear hv
      go_enter Tryz.func178, Tryz.ntmps178
      go_wp2_with fail
      go_ret
      exact ⟨ret_bool HV.out.symm, rfl⟩
    · have hv : x.on y = (x.Y + x.H == y.Y) := by simp only [RC.on, d1, d2, Bool.true_and]
      have HV := Lib.hid hv
      clear hv
      go_enter Tryz.func178, Tryz.ntmps178
      go_wp2_with fail
      go_ret
      exact ⟨ret_bool HV.out.symm, rfl⟩

/-- the same number of rectangles, each going on in the other's. -/
def onB (a b : List RC) : Bool := decide (a.length = b.length) && (List.zipWith RC.on a b).all id
theorem onB_len {a b : List RC} (h : a.length ≠ b.length) : onB a b = false := by simp [onB, h]
theorem onB_no {a b : List RC} {k : Nat} {x y : RC} (hx : a[k]? = some x) (hy : b[k]? = some y) (h : x.on y = false) : onB a b = false := by
  unfold onB
  have : (List.zipWith RC.on a b).all id = false := by
    rw [List.all_eq_false]
    refine ⟨false, ?_, by simp⟩
    have hk : (List.zipWith RC.on a b)[k]? = some false := by simp [List.getElem?_zipWith, hx, hy, h]
    exact List.mem_of_getElem? hk
  rw [this, Bool.and_false]
theorem onB_yes {a b : List RC} (hl : a.length = b.length) (h : ∀ (k : Nat) x y, a[k]? = some x → b[k]? = some y → x.on y = true) : onB a b = true := by
  unfold onB
  simp only [hl, decide_true, Bool.true_and, List.all_eq_true]
  intro v hv
  obtain ⟨k, hk⟩ := List.getElem?_of_mem hv
  rw [List.getElem?_zipWith] at hk
  cases hx : a[k]? with
  | none => simp [hx] at hk
  | some x =>
    cases hy : b[k]? with
    | none => simp [hx, hy] at hk
    | some y =>
      simp [hx, hy] at hk
      subst hk
      exact h k x y hx hy

set_option maxHeartbeats 400000 in
theorem equalF_len (A B : Option Addr) (n m c d : Nat) (f : Value) (w : World) (hnm : n ≠ m) : Calls Tryz.prog 177 #[.slice A n c, .slice B m d, f] w fun e w' => e = .returned (.bool false) ∧ Below w.heap.size w w' := by
  have h1 : ((n : Int) != (m : Int)) = true := by simp; omega
  have h2 : (n != m) = true := by simp; omega
  clear hnm
  go_enter Tryz.func177, Tryz.ntmps177
  go_wp2_with fail
  go_ret
  exact ⟨rfl, bre w⟩

set_option maxRecDepth 100000 in
set_option maxHeartbeats 2000000 in
theorem equalF_any (A B : Option Addr) (n c d : Nat) (rs qs : List RC) (w : World) (hn : n ≤ 9223372036854775806) (hr : RdR w A n rs) (hq : RdR w B n qs) (hok : ∀ r ∈ rs, r.ok) :
    Calls Tryz.prog 177 #[.slice A n c, .slice B n d, .func (.func 178) #[] #[]] w fun e w' => e = .returned (.bool (onB rs qs)) ∧ Below w.heap.size w w' := by
  have HR := Lib.hid hr
  have HQ := Lib.hid hq
  have HOK := Lib.hid hok
  clear hr hq hok
  go_enter Tryz.func177, Tryz.ntmps177
  go_wp2_with fail
  go_loopw [17] (fun i wr => ∃ k : Nat, i = .int .i64 k ∧ k ≤ n ∧ (∀ (j : Nat) x y, j < k → rs[j]? = some x → qs[j]? = some y → x.on y = true) ∧ Below w.heap.size w wr) (fun i _ => n - (intOf i).toNat)
  case atStart => exact ⟨0, rfl, by omega, fun j _ _ hj => absurd hj (by omega), bre w⟩
  case round =>
    obtain ⟨k, rfl, hk, hall, hB⟩ := hrel
    have HA := Lib.hid hall
    have HB := Lib.hid hB
    clear hall hB
    by_cases hlt : k < n
    · obtain ⟨x, hx⟩ : ∃ x, rs[k]? = some x := ⟨_, List.getElem?_eq_getElem (by have := HR.out.1; omega)⟩
      obtain ⟨y, hy⟩ : ∃ y, qs[k]? = some y := ⟨_, List.getElem?_eq_getElem (by have := HQ.out.1; omega)⟩
      obtain ⟨b, off, rfl, hbl, hc⟩ := (HR.out.below HB.out).2 (by omega)
      obtain ⟨b', off', rfl, hbl', hc'⟩ := (HQ.out.below HB.out).2 (by omega)
      obtain ⟨x0, x1, x2, x3⟩ := hc k x hx
      obtain ⟨y0, y1, y2, y3⟩ := hc' k y hy
      have k0 : (0 : Int) ≤ (k : Int) := by omega
      have k1 : (k : Int) < (n : Int) := by omega
      have HX := Lib.hid hx
      have HY := Lib.hid hy
      clear hc hc' hx hy
      cases hon : x.on y
      · have hv := onB_no HX.out HY.out hon
        have HV := Lib.hid hv
        have HON := Lib.hid hon
        clear hv hon
        go_wp2_with fail
        refine (alike1_any x y _ (HOK.out x (List.mem_of_getElem? HX.out))).mono ?_
        rintro e w' ⟨rfl, rfl⟩
        rw [HON.out]
        go_wp2_with fail
        go_ret
        exact ⟨ret_bool HV.out.symm, bstep HB.out (bal (bal (bal (bal (bre wr) _) _) _) _)⟩
      · have HON := Lib.hid hon
        clear hon
        go_wp2_with fail
        refine (alike1_any x y _ (HOK.out x (List.mem_of_getElem? HX.out))).mono ?_
        rintro e w' ⟨rfl, rfl⟩
        rw [HON.out]
        go_wp2_with fail
        go_roundw
        case rel =>
          refine ⟨k + 1, by go_num, by omega, fun j u v hj hu hv => ?_, bstep HB.out (bal (bal (bal (bal (bre wr) _) _) _) _)⟩
          by_cases hjk : j = k
          · subst hjk
            have e1 := HX.out.symm.trans hu
            have e2 := HY.out.symm.trans hv
            cases e1
            cases e2
            exact HON.out
          · exact HA.out j u v (by omega) hu hv
        case measure => simp [intOf]; omega
    · obtain rfl : k = n := by omega
      have hv : onB rs qs = true := onB_yes (by rw [HR.out.1, HQ.out.1]) (fun j u v hu hv => HA.out j u v (by have := (List.getElem?_eq_some_iff.1 hu).1; have := HR.out.1; omega) hu hv)
      have HV := Lib.hid hv
      clear hv
      go_wp2_with fail
      go_ret
      exact ⟨ret_bool HV.out.symm, HB.out⟩

/-- a band goes on in the next one. -/
def alikeB (a b : List RC) : Bool := decide (0 < a.length) && onB a b
set_option maxHeartbeats 1000000 in
theorem alike_any (A B : Option Addr) (n m c d : Nat) (rs qs : List RC) (w : World) (hn : n ≤ 9223372036854775806) (hr : RdR w A n rs) (hq : RdR w B m qs) (hok : ∀ r ∈ rs, r.ok) :
    Calls Tryz.prog 134 #[.slice A n c, .slice B m d] w fun e w' => e = .returned (.bool (alikeB rs qs)) ∧ Below w.heap.size w w' := by
  have HR := Lib.hid hr
  have HQ := Lib.hid hq
  have HOK := Lib.hid hok
  clear hr hq hok
  by_cases h0 : 0 < n
  · have d0 : decide ((0 : Int) < (n : Int)) = true := by simp; omega
    by_cases hnm : n = m
    · subst hnm
      have hv : alikeB rs qs = onB rs qs := by unfold alikeB; rw [HR.out.1]; simp [h0]
      have HV := Lib.hid hv
      clear hv
      go_enter Tryz.func134, Tryz.ntmps134
      go_wp2_with fail
      refine (equalF_any A B n c d rs qs w hn HR.out HQ.out HOK.out).mono ?_
      rintro e w' ⟨rfl, hb⟩
      go_wp2_with fail
      go_ret
      exact ⟨ret_bool HV.out.symm, hb⟩
    · have hv : alikeB rs qs = false := by unfold alikeB; rw [onB_len (by rw [HR.out.1, HQ.out.1]; exact hnm), Bool.and_false]
      have HV := Lib.hid hv
      clear hv
      go_enter Tryz.func134, Tryz.ntmps134
      go_wp2_with fail
      refine (equalF_len A B n m c d _ w hnm).mono ?_
      rintro e w' ⟨rfl, hb⟩
      go_wp2_with fail
      go_ret
      exact ⟨ret_bool HV.out.symm, hb⟩
  · have d0 : decide ((0 : Int) < (n : Int)) = false := by simp; omega
    have hv : alikeB rs qs = false := by unfold alikeB; rw [HR.out.1]; simp [h0]
    have HV := Lib.hid hv
    clear hv
    go_enter Tryz.func134, Tryz.ntmps134
    go_wp2_with fail
    go_ret
    exact ⟨ret_bool HV.out.symm, bre w⟩

set_option maxHeartbeats 1000000 in
theorem clip_any (g n c : Nat) (w : World) (hc : n ≤ c) :
    Calls Tryz.prog 135 #[.slice (some ⟨g, 0, none⟩) n c] w fun e w' => e = .returned (.slice (some ⟨g, 0, none⟩) n n) ∧ w = w' := by
  go_enter Tryz.func135, Tryz.ntmps135
  go_wp2_with fail
  go_ret
  exact ⟨rfl, rfl⟩
set_option maxHeartbeats 1000000 in
theorem clip_nil (w : World) :
    Calls Tryz.prog 135 #[.slice none 0 0] w fun e w' => e = .returned (.slice none 0 0) ∧ w = w' := by
  go_enter Tryz.func135, Tryz.ntmps135
  go_wp2_with fail
  go_ret
  exact ⟨rfl, rfl⟩

end Go.Proofs.YtdaedkolpfkdjaaGreat
end

section
namespace Go.Proofs.YtdaedkolpfkdjaaGreat
open Go.RowKit

/-- how many places rectangles have, one by one. -/
def areaL (rs : List RC) : Int := rs.foldl (fun s r => s + r.W * r.H) 0
set_option maxHeartbeats 1000000 in
theorem empty_any (A : Option Addr) (n c : Nat) (w : World) :
    Calls Tryz.prog 45 #[.agg #[.slice A n c]] w fun e w' => e = .returned (.bool (decide (n = 0))) ∧ Below w.heap.size w w' := by
  have t : ((n : Int) == 0) = decide (n = 0) := by
    by_cases h : n = 0
    · subst h; rfl
    · have : ¬ ((n : Int) = 0) := by omega
      simp [h]
  have HT := Lib.hid t
  clear t
  go_enter Tryz.func45, Tryz.ntmps45
  go_wp2_with fail
  go_ret
  exact ⟨ret_bool HT.out, bal (bre w) _⟩

end Go.Proofs.YtdaedkolpfkdjaaGreat
end

section
namespace Go.Proofs.YtdaedkolpfkdjaaGreat
open Go.RowKit Go.Maps

/-- a window's box, its shape as it lies. -/
structure BX where
  X : Int
  Y : Int
  W : Int
  H : Int
  M : Bool
  G : Int
  B : Int
  S : Bool
  A : Option Addr
  n : Nat
  c : Nat
def BX.v (b : BX) : Value := .agg #[.int .i64 b.X, .int .i64 b.Y, .int .i64 b.W, .int .i64 b.H, .bool b.M, .int .i64 b.G, .int .i64 b.B, .bool b.S, .slice b.A b.n b.c]
def zBX : BX := ⟨0, 0, 0, 0, false, 0, 0, false, none, 0, 0⟩
theorem bxv_getD (o : Option BX) : (o.map BX.v).getD zBX.v = (o.getD zBX).v := by cases o <;> rfl
/-- boxes of windows. -/
abbrev Bxs := Int → Option BX
def Bxs.f (bs : Bxs) : Int → Option Value := fun i => (bs i).map BX.v
/-- a place: its boxes. -/
def PlaceIs (w : World) (v : Value) (n : Nat) (bs : Bxs) : Prop := ∃ mb, v = .agg #[.map mb] ∧ MapOpt Tryz.prog 48 .u32 w mb n bs.f
theorem PlaceIs.below {w w' : World} {v : Value} {n : Nat} {bs : Bxs} (h : PlaceIs w v n bs) (hb : Below w.heap.size w w') : PlaceIs w' v n bs := by
  obtain ⟨mb, e, h⟩ := h
  exact ⟨mb, e, h.below hb⟩
theorem Tryz.zeroBox (w : World) : (zeroValue 133).run Tryz.prog w = .ok zBX.v w := by kernel_rfl
theorem u32_wf {i : Int} (h : 0 ≤ i ∧ i ≤ 4294967295) : (Lit.int .u32 i).wf = true := by
  simp [Lit.wf, IntKind.min, IntKind.max, IntKind.signed, IntKind.bits]
  omega

/-- the root's box. -/
def rootBX (W H : Int) : BX := ⟨0, 0, W, H, true, 1, 1, false, none, 0, 0⟩
set_option maxRecDepth 100000 in
set_option maxHeartbeats 1000000 in
theorem pnew_any (W H : Int) (w : World) (h1 : sideB W = true) (h2 : sideB H = true) :
    Calls Tryz.prog 79 #[.int .i64 W, .int .i64 H] w fun e w' => ∃ pv, e = .returned (.tuple #[pv, .int .i64 0]) ∧ PlaceIs w' pv 1 (fun i => if i = 1 then some (rootBX W H) else none) ∧ Below w.heap.size w w' := by
  have H1 := Lib.hid h1
  have H2 := Lib.hid h2
  clear h1 h2
  have hmm := @run_makeMap Tryz.prog
  have hmade : MapIs Tryz.prog 48 .u32 (((w.alloc (.cells #[.map none] 40)).alloc (.cells #[.int .i64 0, .int .i64 0, .int .i64 W, .int .i64 H, .bool true, .int .i64 1, .int .i64 1, .bool false, .slice none 0 0] 133)).alloc (.map #[] 0)) (w.heap.size + 1 + 1) 0 (fun _ => none) := by
    have := MapIs.made (P := Tryz.prog) (k := 48) (q := .u32) ((w.alloc (.cells #[.map none] 40)).alloc (.cells #[.int .i64 0, .int .i64 0, .int .i64 W, .int .i64 H, .bool true, .int .i64 1, .int .i64 1, .bool false, .slice none 0 0] 133))
    rwa [World.size_alloc, World.size_alloc] at this
  obtain ⟨w4, hrun, hm4, hg4⟩ := hmade.run_put Tryz.underlying48 Tryz.underlying38 (by simp only [maxLen]; omega) 1 (.agg #[.int .i64 0, .int .i64 0, .int .i64 W, .int .i64 H, .bool true, .int .i64 1, .int .i64 1, .bool false, .slice none 0 0]) (by decide)
  have bres := (((Blk.new w 40 #[.map none]).alloc (.cells #[.int .i64 0, .int .i64 0, .int .i64 W, .int .i64 H, .bool true, .int .i64 1, .int .i64 1, .bool false, .slice none 0 0] 133)).alloc (.map #[] 0)).grown hg4 (by intro e; injection e with e; omega)
  have r0 := bres.cellV (i := 0) (v := .map none) rfl
  have rf := bres.frozen 0
  have HBR := Lib.hid bres
  have rl : w.heap.size < w4.heap.size := Nat.lt_of_lt_of_le (by simp; omega) hg4.size
  have hB4 : Below w.heap.size w w4 := (bal (bal (bal (bre w) _) _) _).grown hg4 (by simp; omega) (fun q e => by cases e; omega)
  have HM4 := Lib.hid hm4
  have HB4 := Lib.hid hB4
  clear hmade hm4 hg4 hB4 bres
  go_enter Tryz.func79, Tryz.ntmps79
  go_wp2_with (first
    | (go_at_call 137; refine (side_any W _).mono ?_; rintro e w' ⟨rfl, rfl⟩; rw [H1.out])
    | (go_at_call 137; refine (side_any H _).mono ?_; rintro e w' ⟨rfl, rfl⟩; rw [H2.out]))
  have hr := (HBR.out.set_ 0 (.map (some (w.heap.size + 1 + 1)))).cellV (i := 0) (v := .map (some (w.heap.size + 1 + 1))) rfl
  have ef : (fun j : Int => if j = 1 then some (Value.agg #[.int .i64 0, .int .i64 0, .int .i64 W, .int .i64 H, .bool true, .int .i64 1, .int .i64 1, .bool false, .slice none 0 0]) else none) = Bxs.f (fun i => if i = 1 then some (rootBX W H) else none) := by
    funext j
    by_cases hj : j = 1 <;> simp [Bxs.f, hj, rootBX, BX.v]
  have hm5 := (HM4.out.setCell (a := ⟨w.heap.size, 0, none⟩) (by simp; omega) (.map (some (w.heap.size + 1 + 1))))
  rw [ef] at hm5
  exact bodyPost_ret (v := .tuple #[.agg #[.map (some (w.heap.size + 1 + 1))], .int .i64 0]) (by simp [results, Tryz.results79, go_sem, hr]) rfl ⟨_, rfl, ⟨_, rfl, .inr ⟨_, rfl, hm5⟩⟩, bset HB4.out (Nat.le_refl _) _⟩
set_option maxRecDepth 100000 in
set_option maxHeartbeats 1000000 in
theorem box_any (pv : Value) (n : Nat) (bs : Bxs) (id : Int) (w : World) (hid : 0 ≤ id ∧ id ≤ 4294967295) (hp : PlaceIs w pv n bs) :
    Calls Tryz.prog 60 #[pv, .int .u32 id] w fun e w' => e = .returned (.tuple #[((bs id).getD zBX).v, .bool (bs id).isSome]) ∧ Below w.heap.size w w' := by
  obtain ⟨mb, rfl, hm⟩ := hp
  have HM := Lib.hid hm
  have HWF := Lib.hid (u32_wf hid)
  clear hm
  go_enter Tryz.func60, Tryz.ntmps60
  obtain ⟨b, hb⟩ : ∃ b, (bs id).getD zBX = b := ⟨_, rfl⟩
  have HG := Lib.hid (show (bs.f id).getD zBX.v = b.v from (bxv_getD (bs id)).trans (by rw [hb]))
  have HS := Lib.hid (show (bs.f id).isSome = (bs id).isSome by simp [Bxs.f])
  rw [hb]
  clear hb
  go_wp2_with (at_lookup; refine opt_look_ok rfl _ _ 38 rfl 48 133 .u32 Tryz.underlying48 Tryz.underlying38 zBX.v (Tryz.zeroBox _) mb n bs.f rfl (HM.out.below (by first | exact bre _ | exact bal (bre _) _ | exact bal (bal (bre _) _) _)) id rfl HWF.out ?_; rw [HG.out, HS.out]; unfold BX.v)
  refine bodyPost_ret (v := .tuple #[b.v, .bool (bs id).isSome]) (by simp [results, Tryz.results60, go_sem, BX.v]) rfl ⟨rfl, ?_⟩
  repeat (first | exact bre _ | refine bal ?_ _ | refine bset ?_ (by simp) _ | refine bset ?_ (by simp; omega) _)

end Go.Proofs.YtdaedkolpfkdjaaGreat
end

section
namespace Go.Proofs.YtdaedkolpfkdjaaGreat
open Go.RowKit Go.Maps Go.Shelf

theorem clone_boxes (b n : Nat) (f : Int → Option Value) (w : World) (h : MapIs Tryz.prog 48 .u32 w b n f) :
    Calls Tryz.prog 179 #[.map (some b)] w fun e w' => e = .returned (.map (some w.heap.size)) ∧ MapIs Tryz.prog 48 .u32 w' w.heap.size n f ∧ Below w.heap.size w w' := by
  obtain ⟨D, hD, h2⟩ := h
  exact (AnyW.maps_Clone_owns Tryz.cloneBoxes 48 rawR b n D w hD).mono fun e w' ⟨he, h1, _, hB⟩ => ⟨he, ⟨D, h1, h2⟩, hB⟩

theorem blk_new3 (w : World) (o o' : Obj) (t : TypeId) (cs : Array Value) : Blk (((w.alloc o).alloc o').alloc (.cells cs t)) (w.heap.size + 1 + 1) t cs := by
  have := Blk.new ((w.alloc o).alloc o') t cs
  rwa [show ((w.alloc o).alloc o').heap.size = w.heap.size + 1 + 1 from by simp] at this
theorem blk_new2 (w : World) (o : Obj) (t : TypeId) (cs : Array Value) : Blk ((w.alloc o).alloc (.cells cs t)) (w.heap.size + 1) t cs := by
  have := Blk.new (w.alloc o) t cs
  rwa [show (w.alloc o).heap.size = w.heap.size + 1 from by simp] at this

set_option maxRecDepth 100000 in
set_option maxHeartbeats 1000000 in
theorem ptwin_any (b n : Nat) (bs : Bxs) (w : World) (h : MapIs Tryz.prog 48 .u32 w b n bs.f) :
    Calls Tryz.prog 142 #[.agg #[.map (some b)]] w fun e w' => ∃ b', e = .returned (.agg #[.map (some b')]) ∧ w.heap.size ≤ b' ∧ MapIs Tryz.prog 48 .u32 w' b' n bs.f ∧ Below w.heap.size w w' := by
  have HM := Lib.hid h
  clear h
  go_enter Tryz.func142, Tryz.ntmps142
  have bres := blk_new2 w (.cells #[.map (some b)] 40) 40 #[.map none]
  have HBR := Lib.hid bres
  clear bres
  go_wp2_with (go_at_call 179; refine (clone_boxes b n _ _ ((HM.out.alloc _).alloc _)).mono ?_; rintro e w1 ⟨rfl, hm1, hb1⟩; have bR := HBR.out.belowS hb1; have r0 := bR.cellV (i := 0) (v := .map none) rfl; have rf := bR.frozen 0; have rl := bR.lt; have HB1 := Lib.hid hb1; rw [World.size_alloc, World.size_alloc] at hm1; have HM1 := Lib.hid hm1; have HBR1 := Lib.hid bR; clear hb1 hm1 bR)
  have hr := (HBR1.out.set_ 0 (.map (some (w.heap.size + 1 + 1)))).cellV (i := 0) (v := .map (some (w.heap.size + 1 + 1))) rfl
  have hm2 := HM1.out.setCell (a := ⟨w.heap.size + 1, 0, none⟩) (by simp) (.map (some (w.heap.size + 1 + 1)))
  exact bodyPost_ret (v := .agg #[.map (some (w.heap.size + 1 + 1))]) (by simp [results, Tryz.results142, go_sem, hr]) rfl ⟨_, rfl, by omega, hm2, bset (bstep (bal (bal (bre w) _) _) HB1.out) (by simp) _⟩

end Go.Proofs.YtdaedkolpfkdjaaGreat
end

section
namespace Go.Proofs.YtdaedkolpfkdjaaGreat
open Go.RowKit Go.Maps Go.Shelf

/-- what is wrong with a box that is set. -/
def SetErr (id : Int) (b : BX) (n : Nat) (has : Bool) (code : Int) : Prop :=
  (id = 1 ∧ code = 23) ∨ (id ≠ 1 ∧ ((idC id ≠ 0 ∧ code = idC id) ∨ (idC id = 0 ∧ ((coordB b.X = false ∧ code = 1) ∨ (coordB b.X = true ∧ ((coordB b.Y = false ∧ code = 1) ∨ (coordB b.Y = true ∧ ((sideB b.W = false ∧ code = 17) ∨ (sideB b.W = true ∧ ((sideB b.H = false ∧ code = 17) ∨ (sideB b.H = true ∧ ((gravC b.G = 10 ∧ code = 10) ∨ (gravC b.G = 0 ∧ ((gravC b.B = 10 ∧ code = 10) ∨ (gravC b.B = 0 ∧ ((b.S = false ∧ decide (b.n = 0) = false ∧ code = 14) ∨ ((b.S = true ∨ (b.S = false ∧ decide (b.n = 0) = true)) ∧ ((has = false ∧ decide ((64 : Int) ≤ (n : Int)) = true ∧ code = 5) ∨ (has = false ∧ decide ((64 : Int) ≤ (n : Int)) = false ∧ ((n : Int) == 0) = true ∧ code = 9)))))))))))))))))))

set_option maxRecDepth 100000 in
set_option maxHeartbeats 4000000 in
theorem pset_err (pv : Value) (n : Nat) (bs : Bxs) (id : Int) (b : BX) (code : Int) (w : World) (hid : 0 ≤ id ∧ id ≤ 4294967295) (_hn : n ≤ 1000) (hp : PlaceIs w pv n bs) (ht : SetErr id b n (bs id).isSome code) :
    Calls Tryz.prog 81 #[pv, .int .u32 id, b.v] w fun e w' => e = .returned (.tuple #[pv, .int .i64 code]) ∧ Below w.heap.size w w' := by
  obtain ⟨mb, rfl, hm⟩ := hp
  have HM := Lib.hid hm
  have HWF := Lib.hid (u32_wf hid)
  obtain ⟨b0, hb0⟩ : ∃ b0, (bs id).getD zBX = b0 := ⟨_, rfl⟩
  have HG := Lib.hid (show (bs.f id).getD zBX.v = b0.v from (bxv_getD (bs id)).trans (by rw [hb0]))
  obtain ⟨hs, hhs⟩ : ∃ hs, (bs id).isSome = hs := ⟨_, rfl⟩
  have HS := Lib.hid (show (bs.f id).isSome = hs by rw [← hhs]; simp [Bxs.f])
  rw [hhs] at ht
  obtain ⟨X, Y, W, H, M, G, B, S, A, sn, c⟩ := b
  unfold SetErr at ht
  dsimp only at ht
  unfold BX.v
  dsimp only
  clear hm hb0 hhs
  rcases ht with ⟨h1, rfl⟩ | ⟨h1, ⟨h2, rfl⟩ | ⟨h2, ht⟩⟩
  · have d1 : (id == 1) = true := by simp [h1]
    clear h1
    go_enter Tryz.func81, Tryz.ntmps81
    go_wp2_with fail
    exact bodyPost_ret (v := .tuple #[.agg #[.map mb], .int .i64 23]) (by simp [results, Tryz.results81, go_sem]) rfl ⟨rfl, (by repeat (first | exact bre _ | refine bal ?_ _ | refine bset ?_ (by simp) _ | refine bset ?_ (by simp; omega) _))⟩
  · have d1 : (id == 1) = false := by simp [h1]
    obtain ⟨cd, hcd⟩ : ∃ cd, idC id = cd := ⟨_, rfl⟩
    rw [hcd] at h2 ⊢
    have d2 : (cd != 0) = true := by simp [h2]
    have HCK := Lib.hid hcd
    clear h1 hcd h2
    go_enter Tryz.func81, Tryz.ntmps81
    go_wp2_with (go_at_call 64; refine (check_any _ _ hid).mono ?_; rintro e w' ⟨rfl, rfl⟩; rw [HCK.out])
    exact bodyPost_ret (v := .tuple #[.agg #[.map mb], .int .i64 cd]) (by simp [results, Tryz.results81, go_sem]) rfl ⟨rfl, (by repeat (first | exact bre _ | refine bal ?_ _ | refine bset ?_ (by simp) _ | refine bset ?_ (by simp; omega) _))⟩
  · have d1 : (id == 1) = false := by simp [h1]
    have HCK := Lib.hid h2
    clear h1 h2
    have HBP := Lib.hid ((((Blk.new w 40 #[.map mb]).alloc (.cells #[.int .i64 X, .int .i64 Y, .int .i64 W, .int .i64 H, .bool M, .int .i64 G, .int .i64 B, .bool S, .slice A sn c] 133)).alloc (.cells #[.map none] 40)).alloc (.cells #[.int .i64 b0.X, .int .i64 b0.Y, .int .i64 b0.W, .int .i64 b0.H, .bool b0.M, .int .i64 b0.G, .int .i64 b0.B, .bool b0.S, .slice b0.A b0.n b0.c] 133))
    have HBR := Lib.hid ((blk_new3 w (.cells #[.map mb] 40) (.cells #[.int .i64 X, .int .i64 Y, .int .i64 W, .int .i64 H, .bool M, .int .i64 G, .int .i64 B, .bool S, .slice A sn c] 133) 40 #[.map none]).alloc (.cells #[.int .i64 b0.X, .int .i64 b0.Y, .int .i64 b0.W, .int .i64 b0.H, .bool b0.M, .int .i64 b0.G, .int .i64 b0.B, .bool b0.S, .slice b0.A b0.n b0.c] 133))
    rcases ht with ⟨hx, rfl⟩ | ⟨hx, ⟨hy, rfl⟩ | ⟨hy, ⟨hw', rfl⟩ | ⟨hw', ⟨hh, rfl⟩ | ⟨hh, ⟨hg, rfl⟩ | ⟨hg, ⟨hb, rfl⟩ | ⟨hb, ⟨rfl, he, rfl⟩ | ⟨rfl | ⟨rfl, he⟩, ⟨rfl, hn64, rfl⟩ | ⟨rfl, hn64, hn0, rfl⟩⟩⟩⟩⟩⟩⟩⟩
    all_goals
      (try have HX9 := Lib.hid hx)
      (try have HY9 := Lib.hid hy)
      (try have HW9 := Lib.hid hw')
      (try have HH9 := Lib.hid hh)
      (try have HG9 := Lib.hid hg)
      (try have HB9 := Lib.hid hb)
      (try have HE9 := Lib.hid he)
      (try clear hx)
      (try clear hy)
      (try clear hw')
      (try clear hh)
      (try clear hg)
      (try clear hb)
      (try clear he)
      go_enter Tryz.func81, Tryz.ntmps81
      go_wp2_with (first
            | (go_at_call 64; refine (check_any _ _ hid).mono ?_; rintro e w' ⟨rfl, rfl⟩; rw [HCK.out])
            | (at_lookup; refine opt_look_ok rfl _ _ 38 rfl 48 133 .u32 Tryz.underlying48 Tryz.underlying38 zBX.v (Tryz.zeroBox _) mb n bs.f rfl (HM.out.below (by repeat (first | exact bre _ | refine bal ?_ _ | refine bset ?_ (by simp) _ | refine bset ?_ (by simp; omega) _))) id rfl HWF.out ?_; rw [HG.out, HS.out]; unfold BX.v)
            | (go_at_call 140; refine (coord_any _ _).mono ?_; rintro e w' ⟨rfl, rfl⟩; first | rw [HX9.out] | rw [HY9.out])
            | (go_at_call 137; refine (side_any _ _).mono ?_; rintro e w' ⟨rfl, rfl⟩; first | rw [HW9.out] | rw [HH9.out])
            | (go_at_call 141; refine (gcheck_any _ _).mono ?_; rintro e w' ⟨rfl, rfl⟩; first | rw [HG9.out] | rw [HB9.out])
            | (go_at_call 45; refine (empty_any A sn c _).mono ?_; rintro e w13 ⟨rfl, hb13⟩; rw [HE9.out]; have bP := HBP.out.belowS hb13; have bR := HBR.out.belowS hb13; have p0 := bP.cellV (i := 0) (v := .map mb) rfl; have r0 := bR.cellV (i := 0) (v := .map none) rfl; have rf := bR.frozen 0; have rl := bR.lt; have HBE := Lib.hid (bstep (bal (bal (bal (bal (bre w) _) _) _) _) hb13); have HR13 := Lib.hid bR; clear hb13 bP bR)
            | (at_len; refine opt_len rfl _ 38 rfl 48 133 .u32 Tryz.underlying38 mb n bs.f rfl (HM.out.below (by repeat (first | exact HBE.out | exact bre _ | refine bal ?_ _ | refine bset ?_ (by simp) _ | refine bset ?_ (by simp; omega) _))) ?_)
            | (at_len; refine opt_len_if _ 38 rfl 48 133 .u32 Tryz.underlying38 mb n bs.f rfl (HM.out.below (by repeat (first | exact HBE.out | exact bre _ | refine bal ?_ _ | refine bset ?_ (by simp) _ | refine bset ?_ (by simp; omega) _))) (by go_simp) ?_))
      first
        | exact bodyPost_ret (v := .tuple #[.agg #[.map mb], .int .i64 1]) (by simp [results, Tryz.results81, go_sem]) rfl ⟨rfl, (by repeat (first | exact bre _ | refine bal ?_ _ | refine bset ?_ (by simp) _ | refine bset ?_ (by simp; omega) _))⟩
        | exact bodyPost_ret (v := .tuple #[.agg #[.map mb], .int .i64 17]) (by simp [results, Tryz.results81, go_sem]) rfl ⟨rfl, (by repeat (first | exact bre _ | refine bal ?_ _ | refine bset ?_ (by simp) _ | refine bset ?_ (by simp; omega) _))⟩
        | exact bodyPost_ret (v := .tuple #[.agg #[.map mb], .int .i64 10]) (by simp [results, Tryz.results81, go_sem]) rfl ⟨rfl, (by repeat (first | exact bre _ | refine bal ?_ _ | refine bset ?_ (by simp) _ | refine bset ?_ (by simp; omega) _))⟩
        | exact bodyPost_ret (v := .tuple #[.agg #[.map mb], .int .i64 14]) (by simp [results, Tryz.results81, go_sem, (HR13.out.set_ 0 (.map mb)).cellV (i := 0) (v := .map mb) rfl]) rfl ⟨rfl, bset HBE.out (by show w.heap.size ≤ w.heap.size + 1 + 1; omega) _⟩
        | exact bodyPost_ret (v := .tuple #[.agg #[.map mb], .int .i64 5]) (by simp [results, Tryz.results81, go_sem, (HR13.out.set_ 0 (.map mb)).cellV (i := 0) (v := .map mb) rfl]) rfl ⟨rfl, bset HBE.out (by show w.heap.size ≤ w.heap.size + 1 + 1; omega) _⟩
        | exact bodyPost_ret (v := .tuple #[.agg #[.map mb], .int .i64 9]) (by simp [results, Tryz.results81, go_sem, (HR13.out.set_ 0 (.map mb)).cellV (i := 0) (v := .map mb) rfl]) rfl ⟨rfl, bset HBE.out (by show w.heap.size ≤ w.heap.size + 1 + 1; omega) _⟩
        | exact bodyPost_ret (v := .tuple #[.agg #[.map mb], .int .i64 5]) (by simp [results, Tryz.results81, go_sem]) rfl ⟨rfl, (by repeat (first | exact bre _ | refine bal ?_ _ | refine bset ?_ (by simp) _ | refine bset ?_ (by simp; omega) _))⟩
        | exact bodyPost_ret (v := .tuple #[.agg #[.map mb], .int .i64 9]) (by simp [results, Tryz.results81, go_sem]) rfl ⟨rfl, (by repeat (first | exact bre _ | refine bal ?_ _ | refine bset ?_ (by simp) _ | refine bset ?_ (by simp; omega) _))⟩

end Go.Proofs.YtdaedkolpfkdjaaGreat
end
