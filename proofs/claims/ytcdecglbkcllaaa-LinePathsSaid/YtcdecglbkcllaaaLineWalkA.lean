/-
  The walks of the small functions under a line: right, near, flat, track and its two closures; the document's Right, far, Long, near, At.
-/
import Derived.Test.YtcdecglbkcllaaaProg
import Derived.Test.YtcdecglbkcllaaaLineMath
import Derived.WalkKit
import Derived.WalkSpells
import Derived.WalkLawsBesides
import Derived.RegionTactic
import Derived.Deep.QuietTactic
import Derived.BigQuiet
import Derived.Deep.RegionHeld3
import Derived.Lib.Hide
namespace Go.Proofs.Ytcdecglbkcllaaa.Ln
open Go.RowKit

abbrev I (n : Int) : Value := .int .i64 n
abbrev P2 (x y : Int) : Value := .agg #[.int .i64 x, .int .i64 y]

theorem setCell_drewN (w : World) (n : Nat) (a : Addr) (v : Value) : (w.drewN n).setCell a v = (w.setCell a v).drewN n := rfl
theorem alloc_drewN (w : World) (n : Nat) (o : Obj) : (w.drewN n).alloc o = (w.alloc o).drewN n := rfl
attribute [go_sem] setCell_drewN alloc_drewN

/-- what lay when the call began lies as it lay: one step more. -/
theorem bstep {w W w' : World} (h : Below w.heap.size w W) (hb : Below W.heap.size W w') : Below w.heap.size w w' := h.trans (hb.mono h.size)
theorem bal {w W : World} (h : Below w.heap.size w W) (o : Obj) : Below w.heap.size w (W.alloc o) := h.alloc h.size o
theorem bre (w : World) : Below w.heap.size w w := Below.refl _ _

theorem same_of {P : Program} {f : FuncId} {args : Array Value} {w : World} {v : Value} (h : Calls P f args w fun e w' => e = .returned v ∧ w = w') :
    Calls P f args w fun e w' => e = .returned v ∧ w' = w := h.mono fun _ _ ⟨a, b⟩ => ⟨a, b.symm⟩

theorem bcell {W w1 : World} (hb : Below W.heap.size W w1) : (∀ b o, b < W.heap.size → w1.cell? ⟨b, o, none⟩ = W.cell? ⟨b, o, none⟩) ∧ (∀ b o, b < W.heap.size → w1.frozen? ⟨b, o, none⟩ = W.frozen? ⟨b, o, none⟩) :=
  ⟨fun b o h => hb.cell (p := ⟨b, o, none⟩) h, fun b o h => hb.frozen (p := ⟨b, o, none⟩) h⟩

set_option maxHeartbeats 400000 in
theorem coord_any (n : Int) (w : World) :
    Calls Try.prog 48 #[.int .i64 n] w fun e w' => e = .returned (.bool (coordB n)) ∧ w = w' := by
  by_cases h1 : -1048576 ≤ n
  all_goals by_cases h2 : n ≤ 1048576
  all_goals
    go_enter Try.func48, Try.ntmps48
    go_wp2
    go_ret
    simp [coordB, h1, h2]

set_option maxHeartbeats 400000 in
theorem abs_any (n : Int) (w : World) (h1 : -9223372036854775808 < n) (h2 : n ≤ 9223372036854775807) :
    Calls Try.prog 50 #[.int .i64 n] w fun e w' => e = .returned (.int .i64 (n.natAbs : Int)) ∧ w = w' := by
  go_enter Try.func50, Try.ntmps50
  go_wp2
  all_goals
    go_ret
    simp
    omega

set_option maxHeartbeats 400000 in
theorem sign_any (n : Int) (w : World) :
    Calls Try.prog 52 #[.int .i64 n] w fun e w' => e = .returned (.int .i64 (sgn n)) ∧ w = w' := by
  go_enter Try.func52, Try.ntmps52
  go_wp2
  all_goals
    go_ret
    simp [sgn]
    try omega

set_option maxHeartbeats 400000 in
theorem near_any (p n : Int) (w : World) (h1 : -17592186044416 ≤ p) (h2 : p ≤ 17592186044416) (h3 : 0 ≤ n) (h4 : n ≤ 4194304) :
    Calls Try.prog 53 #[.int .i64 p, .int .i64 n] w fun e w' => e = .returned (.int .i64 (nr p n)) ∧ w = w' := by
  by_cases h0 : n = 0
  · subst h0
    go_enter Try.func53, Try.ntmps53
    go_wp2
    go_ret
    simp [nr]
  · have h5 : 0 < n := by omega
    have h6 : (n == 0) = false := by simp [h0]
    have hb := tdiv_bd (2 * p - n) (2 * n) (by omega) (by omega)
    clear h0
    go_enter Try.func53, Try.ntmps53
    go_wp2
    · have h : 0 < (2 * p - n).tmod (2 * n) := by assumption
      go_ret
      simp [nr_tdiv' p n h5 h]
    · have h : (2 * p - n).tmod (2 * n) ≤ 0 := by assumption
      go_ret
      simp [nr_tdiv p n h5 h]

set_option maxHeartbeats 400000 in
theorem right_any (x y : Int) (w : World) :
    Calls Try.prog 33 #[.agg #[.int .i64 x, .int .i64 y]] w fun e w' => e = .returned (.bool (rightB x y)) ∧ w' = w.alloc (.cells #[.int .i64 x, .int .i64 y] 23) := by
  cases hx : coordB x
  all_goals
    go_enter Try.func33, Try.ntmps33
    go_wp2_with (go_at_call 48; refine (coord_any _ _).mono ?_; rintro e w' ⟨rfl, rfl⟩)
    go_ret
    simp [rightB, hx]

set_option maxHeartbeats 400000 in
theorem flat_any (ax ay bx by' : Int) (w : World) (h1 : rightB ax ay = true) (h2 : rightB bx by' = true) :
    Calls Try.prog 49 #[.agg #[.int .i64 ax, .int .i64 ay], .agg #[.int .i64 bx, .int .i64 by']] w fun e w' => e = .returned (.bool (flatB ax ay bx by')) ∧ Below w.heap.size w w' := by
  have h1 := right_bd h1
  have h2 := right_bd h2
  go_enter Try.func49, Try.ntmps49
  go_wp2_with fail
  go_quiet ((go_at_call 50; exact Calls.quiet_of_same (same_of (abs_any _ _ (by omega) (by omega)))))
  go_wp2_with fail
  go_ret
  exact ⟨rfl, (((Below.refl _ _).alloc (Nat.le_refl _) _).alloc (by simp) _) |> fun h => below_drewN h _⟩

/-- the function value that tells a line's places: in which boxes it finds what. -/
def AtFn (W : World) (lo hi : Nat) (f : Value) (ax ay bx by' : Int) : Prop :=
  (flatB ax ay bx by' = true ∧ ∃ b1 b2 b3 b4, f = .func (.func 51) #[] #[.pointer (some ⟨b1, 0, none⟩), .pointer (some ⟨b2, 0, none⟩), .pointer (some ⟨b3, 0, none⟩), .pointer (some ⟨b4, 0, none⟩)] ∧
    (lo ≤ b1 ∧ b1 < hi ∧ lo ≤ b2 ∧ b2 < hi ∧ lo ≤ b3 ∧ b3 < hi ∧ lo ≤ b4 ∧ b4 < hi) ∧
    W.cell? ⟨b1, 0, none⟩ = some (I ax) ∧ W.cell? ⟨b1, 1, none⟩ = some (I ay) ∧ W.cell? ⟨b2, 0, none⟩ = some (I (bx - ax)) ∧ W.cell? ⟨b3, 0, none⟩ = some (I (by' - ay)) ∧ W.cell? ⟨b4, 0, none⟩ = some (I (bx - ax).natAbs)) ∨
  (flatB ax ay bx by' = false ∧ ∃ b1 b2 b3 b4, f = .func (.func 54) #[] #[.pointer (some ⟨b1, 0, none⟩), .pointer (some ⟨b2, 0, none⟩), .pointer (some ⟨b3, 0, none⟩), .pointer (some ⟨b4, 0, none⟩)] ∧
    (lo ≤ b1 ∧ b1 < hi ∧ lo ≤ b2 ∧ b2 < hi ∧ lo ≤ b3 ∧ b3 < hi ∧ lo ≤ b4 ∧ b4 < hi) ∧
    W.cell? ⟨b1, 0, none⟩ = some (I ax) ∧ W.cell? ⟨b1, 1, none⟩ = some (I ay) ∧ W.cell? ⟨b2, 0, none⟩ = some (I (bx - ax)) ∧ W.cell? ⟨b3, 0, none⟩ = some (I (by' - ay).natAbs) ∧ W.cell? ⟨b4, 0, none⟩ = some (I (by' - ay)))

set_option maxHeartbeats 1000000 in
theorem track_any (ax ay bx by' : Int) (w : World) (h1 : rightB ax ay = true) (h2 : rightB bx by' = true) :
    Calls Try.prog 34 #[.agg #[.int .i64 ax, .int .i64 ay], .agg #[.int .i64 bx, .int .i64 by']] w fun e w' => ∃ f, e = .returned (.tuple #[.int .i64 (stpI ax ay bx by'), f]) ∧ AtFn w' w.heap.size w'.heap.size f ax ay bx by' ∧ Below w.heap.size w w' := by
  have b1 := right_bd h1
  have b2 := right_bd h2
  have H1 := Lib.hid h1
  have H2 := Lib.hid h2
  clear h1 h2
  go_enter Try.func34, Try.ntmps34
  go_wp2_with fail
  go_region
  all_goals
    cases hf : flatB ax ay bx by'
    all_goals
      go_wp2_with (first
        | (go_at_call 49; refine (flat_any _ _ _ _ _ H1.out H2.out).mono ?_; rintro e w1 ⟨rfl, hb⟩; obtain ⟨hc, hfz⟩ := bcell hb; have hz := hb.size; simp at hz)
        | (go_at_call 50; refine (abs_any _ _ (by omega) (by omega)).mono ?_; rintro e w' ⟨rfl, rfl⟩))
      go_ret2
      have hbb : Below w.heap.size w w1 := by
        refine Below.trans ?_ (hb.mono (by simp; omega))
        exact below_drewN (((((Below.refl _ w).alloc (Nat.le_refl _) _).alloc (by simp) _).alloc (by simp; omega) _).alloc (by simp; omega) _) 1
      refine ⟨_, by rw [stpI, stp, hf]; rfl, ?_, hbb.alloc hbb.size _⟩
      first
        | refine .inr ⟨hf, _, _, _, _, rfl, by simp; omega, ?_⟩
        | refine .inl ⟨hf, _, _, _, _, rfl, by simp; omega, ?_⟩
      refine ⟨?_, ?_, ?_, ?_, ?_⟩ <;> first | (go_simp; done) | (rw [World.cell?_alloc_lt _ _ _ (by dsimp only; omega)]; go_simp)
end Go.Proofs.Ytcdecglbkcllaaa.Ln
