/-
  The walks of small words of windows: may a number be a place, a side, an id, a gravity?
-/
import Derived.Test.YtbfefkhejknmoaaGreatDoorBase
import Derived.Test.YtbfefkhejknmoaaGreatDoorMapRaw
import Derived.Outline
namespace Go.Proofs.YtbfefkhejknmoaaGreatDoor
open Go.RowKit

theorem ret_boolP {a b : Bool} (h : b = a) : Ending.returned (.bool a) = .returned (.bool b) := by rw [h]
def coordB (n : Int) : Bool := decide (-32768 ≤ n) && decide (n ≤ 32767)
def sideB (n : Int) : Bool := decide (1 ≤ n) && decide (n ≤ 128)

set_option maxRecDepth 100000 in
theorem coord_any (n : Int) (w : World) : Calls Tryz.prog 37 #[.int .i64 n] w fun e w' => e = .returned (.bool (coordB n)) ∧ w = w' := by
  unfold coordB
  cases d1 : decide (-32768 ≤ n) <;> cases d2 : decide (n ≤ 32767)
  all_goals
    go_enter Tryz.func37, Tryz.ntmps37
    go_wp2_with fail
    go_ret
    exact ⟨rfl, rfl⟩
set_option maxRecDepth 100000 in
theorem side_any (n : Int) (w : World) : Calls Tryz.prog 38 #[.int .i64 n] w fun e w' => e = .returned (.bool (sideB n)) ∧ w = w' := by
  unfold sideB
  cases d1 : decide (1 ≤ n) <;> cases d2 : decide (n ≤ 128)
  all_goals
    go_enter Tryz.func38, Tryz.ntmps38
    go_wp2_with fail
    go_ret
    exact ⟨rfl, rfl⟩

/-- a gravity's code. -/
def gravC (g : Int) : Int := if 0 ≤ g ∧ g ≤ 10 then 0 else 10
set_option maxRecDepth 100000 in
theorem gcheck_any (g : Int) (w : World) : Calls Tryz.prog 43 #[.int .i64 g] w fun e w' => e = .returned (.int .i64 (gravC g)) ∧ w = w' := by
  have t : (decide (g < 0) = true ∧ gravC g = 10) ∨ (decide (g < 0) = false ∧ ((decide (10 < g) = true ∧ gravC g = 10) ∨ (decide (10 < g) = false ∧ gravC g = 0))) := by
    simp only [decide_eq_true_eq, decide_eq_false_iff_not]
    unfold gravC
    split <;> omega
  rcases t with ⟨d1, e⟩ | ⟨d1, ⟨d2, e⟩ | ⟨d2, e⟩⟩
  all_goals
    rw [e]
    clear e
    go_enter Tryz.func43, Tryz.ntmps43
    go_wp2_with fail
    go_ret
    exact ⟨rfl, rfl⟩

set_option maxRecDepth 100000 in
theorem isClient_any (n : Int) (w : World) : Calls Tryz.prog 80 #[.int .i64 n] w fun e w' => e = .returned (.bool (decide (1 ≤ n) && decide (n ≤ 8))) ∧ w = w' := by
  cases d1 : decide (1 ≤ n) <;> cases d2 : decide (n ≤ 8)
  all_goals
    go_enter Tryz.func80, Tryz.ntmps80
    go_wp2_with fail
    go_ret
    exact ⟨rfl, rfl⟩

/-- whose an id is. -/
def clientI (id : Int) : Int := if id = 1 then 0 else if id % 1048576 = 0 ∨ id / 1048576 < 1 ∨ 8 < id / 1048576 then 0 else id / 1048576
def clientB (id : Int) : Bool := decide (id = 1) || !(decide (id % 1048576 = 0) || decide (id / 1048576 < 1) || decide (8 < id / 1048576))
/-- an id's code. -/
def idC (id : Int) : Int := if id = 0 then 6 else if clientB id then 0 else 1

set_option maxRecDepth 100000 in
set_option maxHeartbeats 1000000 in
theorem client_any (id : Int) (w : World) (h : 0 ≤ id ∧ id ≤ 4294967295) : Calls Tryz.prog 59 #[.int .u32 id] w fun e w' => e = .returned (.tuple #[.int .i64 (clientI id), .bool (clientB id)]) ∧ w = w' := by
  have hq : 0 ≤ id / 1048576 ∧ id / 1048576 ≤ 4294967295 := by omega
  have hr : 0 ≤ id % 1048576 ∧ id % 1048576 ≤ 1048576 := by omega
  have h' := h
  by_cases h1 : id = 1
  · subst h1
    have e1 : clientI 1 = 0 := by decide
    have e2 : clientB 1 = true := by decide
    rw [e1, e2]
    clear e1 e2 hq hr
    go_enter Tryz.func59, Tryz.ntmps59
    go_wp2_with fail
    go_ret2
    exact ⟨rfl, rfl⟩
  · have d1 : (id == 1) = false := by simp [h1]
    by_cases h2 : id % 1048576 = 0
    · have d2 : (id % 1048576 == 0) = true := by simp [h2]
      have e1 : clientI id = 0 := by unfold clientI; rw [if_neg h1, if_pos (.inl h2)]
      have e2 : clientB id = false := by unfold clientB; simp [h1, h2]
      rw [e1, e2]
      clear e1 e2 h1 h2 hq hr
      go_enter Tryz.func59, Tryz.ntmps59
      go_wp2_with fail
      go_ret2
      exact ⟨rfl, rfl⟩
    · have d2 : (id % 1048576 == 0) = false := by simp [h2]
      obtain ⟨cl, hcl⟩ : ∃ cl, (decide (1 ≤ id / 1048576) && decide (id / 1048576 ≤ 8)) = cl := ⟨_, rfl⟩
      have e1 : clientI id = if cl then id / 1048576 else 0 := by
        unfold clientI
        rw [if_neg h1, ← hcl]
        by_cases h3 : 1 ≤ id / 1048576 ∧ id / 1048576 ≤ 8
        · rw [if_neg (by omega), if_pos (by simp only [Bool.and_eq_true, decide_eq_true_eq]; exact h3)]
        · rw [if_pos (by omega), if_neg (by simp only [Bool.and_eq_true, decide_eq_true_eq]; exact h3)]
      have e2 : clientB id = cl := by
        unfold clientB
        rw [← hcl, Bool.eq_iff_iff]
        simp only [h1, h2, decide_false, Bool.false_or, Bool.not_or, Bool.and_eq_true, Bool.not_eq_true', decide_eq_false_iff_not, decide_eq_true_eq]
        omega
      rw [e1, e2]
      have HCL := Lib.hid hcl
      clear e1 e2 h1 h2 hcl hr
      cases cl
      all_goals
        go_enter Tryz.func59, Tryz.ntmps59
        go_wp2_with (go_at_call 80; refine (isClient_any _ _).mono ?_; rintro e w' ⟨rfl, rfl⟩; rw [HCL.out])
        go_ret2
        exact ⟨rfl, rfl⟩

set_option maxRecDepth 100000 in
set_option maxHeartbeats 1000000 in
theorem check_any (id : Int) (w : World) (h : 0 ≤ id ∧ id ≤ 4294967295) : Calls Tryz.prog 35 #[.int .u32 id] w fun e w' => e = .returned (.int .i64 (idC id)) ∧ w = w' := by
  by_cases h1 : id = 0
  · subst h1
    rw [show idC 0 = 6 from rfl]
    go_enter Tryz.func35, Tryz.ntmps35
    go_wp2_with fail
    go_ret
    exact ⟨rfl, rfl⟩
  · have d1 : (id == 0) = false := by simp [h1]
    obtain ⟨cb, hc⟩ : ∃ cb, clientB id = cb := ⟨_, rfl⟩
    have e1 : idC id = if cb then 0 else 1 := by unfold idC; rw [if_neg h1, hc]
    have HC := Lib.hid hc
    rw [e1]
    clear e1 h1 hc
    cases cb
    all_goals
      go_enter Tryz.func35, Tryz.ntmps35
      go_wp2_with (go_at_call 59; refine (client_any _ _ h).mono ?_; rintro e w' ⟨rfl, rfl⟩; rw [HC.out])
      go_ret
      exact ⟨rfl, rfl⟩

end Go.Proofs.YtbfefkhejknmoaaGreatDoor
