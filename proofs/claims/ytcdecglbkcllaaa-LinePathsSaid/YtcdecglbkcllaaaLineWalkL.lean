/-
  The walk of the law LineOn.
-/
import Derived.Test.YtcdecglbkcllaaaLineWalkK
namespace Go.Proofs.Ytcdecglbkcllaaa.Ln
open Go.RowKit Go.Shelf

def onAll (ax ay bx by' x y : Int) : Bool := rightB ax ay && rightB bx by' && rightB x y && onB ax ay bx by' x y
theorem on_any (ax ay bx by' x y : Int) (w : World) :
    Calls Try.prog 17 #[.agg #[.int .i64 ax, .int .i64 ay], .agg #[.int .i64 bx, .int .i64 by'], .int .i64 x, .int .i64 y] w fun e w' => e = .returned (.bool (onAll ax ay bx by' x y)) ∧ Below w.heap.size w w' := by
  cases h : (rightB ax ay && rightB bx by' && rightB x y)
  · have : onAll ax ay bx by' x y = false := by unfold onAll; rw [h]; rfl
    rw [this]
    exact on_no ax ay bx by' x y w h
  · have : onAll ax ay bx by' x y = onB ax ay bx by' x y := by unfold onAll; rw [h, Bool.true_and]
    rw [this]
    simp only [Bool.and_eq_true] at h
    exact on_yes ax ay bx by' x y w h.1.1 h.1.2 h.2
theorem ron_any (ax ay bx by' x y : Int) (w : World) :
    Calls Try.prog 18 #[.agg #[.int .i64 ax, .int .i64 ay], .agg #[.int .i64 bx, .int .i64 by'], .int .i64 x, .int .i64 y] w fun e w' => e = .returned (.bool (onAll ax ay bx by' x y)) ∧ Below w.heap.size w w' := by
  cases h : (rightB ax ay && rightB bx by' && rightB x y)
  · have : onAll ax ay bx by' x y = false := by unfold onAll; rw [h]; rfl
    rw [this]
    exact ron_no ax ay bx by' x y w h
  · have : onAll ax ay bx by' x y = onB ax ay bx by' x y := by unfold onAll; rw [h, Bool.true_and]
    rw [this]
    simp only [Bool.and_eq_true] at h
    exact ron_yes ax ay bx by' x y w h.1.1 h.1.2 h.2

/-- the cells of three points' boxes. -/
theorem box6 {W w' : World} {g : Nat} {ax ay bx by' x y : Int} (hb : Below W.heap.size W w') (h : W.cell? ⟨g, 0, none⟩ = some (.int .i64 ax) ∧ W.cell? ⟨g, 1, none⟩ = some (.int .i64 ay) ∧ W.cell? ⟨g + 1, 0, none⟩ = some (.int .i64 bx) ∧ W.cell? ⟨g + 1, 1, none⟩ = some (.int .i64 by') ∧ W.cell? ⟨g + 1 + 1, 0, none⟩ = some (.int .i64 x) ∧ W.cell? ⟨g + 1 + 1, 1, none⟩ = some (.int .i64 y)) :
    w'.cell? ⟨g, 0, none⟩ = some (.int .i64 ax) ∧ w'.cell? ⟨g, 1, none⟩ = some (.int .i64 ay) ∧ w'.cell? ⟨g + 1, 0, none⟩ = some (.int .i64 bx) ∧ w'.cell? ⟨g + 1, 1, none⟩ = some (.int .i64 by') ∧ w'.cell? ⟨g + 1 + 1, 0, none⟩ = some (.int .i64 x) ∧ w'.cell? ⟨g + 1 + 1, 1, none⟩ = some (.int .i64 y) := by
  obtain ⟨h0, h1, h2, h3, h4, h5⟩ := h
  have l0 := block_lt_of_cell h0
  have l2 := block_lt_of_cell h2
  have l4 := block_lt_of_cell h4
  exact ⟨(hb.cell (p := ⟨g, 0, none⟩) l0).trans h0, (hb.cell (p := ⟨g, 1, none⟩) l0).trans h1, (hb.cell (p := ⟨g + 1, 0, none⟩) l2).trans h2, (hb.cell (p := ⟨g + 1, 1, none⟩) l2).trans h3, (hb.cell (p := ⟨g + 1 + 1, 0, none⟩) l4).trans h4, (hb.cell (p := ⟨g + 1 + 1, 1, none⟩) l4).trans h5⟩

set_option maxRecDepth 100000 in
set_option maxHeartbeats 2000000 in
theorem lineOn_any (ax ay bx by' x y : Int) (w : World) :
    Calls Try.prog 6 #[.agg #[.int .i64 ax, .int .i64 ay], .agg #[.int .i64 bx, .int .i64 by'], .agg #[.int .i64 x, .int .i64 y]] w fun e w' => e = .returned (.bool true) ∧ Below w.heap.size w w' := by
  go_enter Try.func6, Try.ntmps6
  go_wp2_with fail
  have hS : (((w.alloc (.cells #[.int .i64 ax, .int .i64 ay] 23)).alloc (.cells #[.int .i64 bx, .int .i64 by'] 23)).alloc (.cells #[.int .i64 x, .int .i64 y] 23)).cell? ⟨w.heap.size, 0, none⟩ = some (.int .i64 ax) ∧ (((w.alloc (.cells #[.int .i64 ax, .int .i64 ay] 23)).alloc (.cells #[.int .i64 bx, .int .i64 by'] 23)).alloc (.cells #[.int .i64 x, .int .i64 y] 23)).cell? ⟨w.heap.size, 1, none⟩ = some (.int .i64 ay) ∧ (((w.alloc (.cells #[.int .i64 ax, .int .i64 ay] 23)).alloc (.cells #[.int .i64 bx, .int .i64 by'] 23)).alloc (.cells #[.int .i64 x, .int .i64 y] 23)).cell? ⟨w.heap.size + 1, 0, none⟩ = some (.int .i64 bx) ∧ (((w.alloc (.cells #[.int .i64 ax, .int .i64 ay] 23)).alloc (.cells #[.int .i64 bx, .int .i64 by'] 23)).alloc (.cells #[.int .i64 x, .int .i64 y] 23)).cell? ⟨w.heap.size + 1, 1, none⟩ = some (.int .i64 by') ∧ (((w.alloc (.cells #[.int .i64 ax, .int .i64 ay] 23)).alloc (.cells #[.int .i64 bx, .int .i64 by'] 23)).alloc (.cells #[.int .i64 x, .int .i64 y] 23)).cell? ⟨w.heap.size + 1 + 1, 0, none⟩ = some (.int .i64 x) ∧ (((w.alloc (.cells #[.int .i64 ax, .int .i64 ay] 23)).alloc (.cells #[.int .i64 bx, .int .i64 by'] 23)).alloc (.cells #[.int .i64 x, .int .i64 y] 23)).cell? ⟨w.heap.size + 1 + 1, 1, none⟩ = some (.int .i64 y) := by
    refine ⟨?_, ?_, ?_, ?_, ?_, ?_⟩ <;> go_simp
  have hB : Below w.heap.size w (((w.alloc (.cells #[.int .i64 ax, .int .i64 ay] 23)).alloc (.cells #[.int .i64 bx, .int .i64 by'] 23)).alloc (.cells #[.int .i64 x, .int .i64 y] 23)) := bal (bal (bal (bre w) _) _) _
  obtain ⟨X, hX⟩ : ∃ X, ((w.alloc (.cells #[.int .i64 ax, .int .i64 ay] 23)).alloc (.cells #[.int .i64 bx, .int .i64 by'] 23)).alloc (.cells #[.int .i64 x, .int .i64 y] 23) = X := ⟨_, rfl⟩
  rw [hX] at hS hB ⊢
  clear hX
  obtain ⟨g, hg⟩ : ∃ g, w.heap.size = g := ⟨_, rfl⟩
  have HB := Lib.hid hB
  rw [hg] at hS ⊢
  clear hB
  have HG := Lib.hid hg
  clear hg
  have HS := Lib.hid hS
  obtain ⟨c0, c1, c2, c3, c4, c5⟩ := hS
  go_region_held3 (fun w' => w'.cell? ⟨g, 0, none⟩ = some (.int .i64 ax) ∧ w'.cell? ⟨g, 1, none⟩ = some (.int .i64 ay) ∧ w'.cell? ⟨g + 1, 0, none⟩ = some (.int .i64 bx) ∧ w'.cell? ⟨g + 1, 1, none⟩ = some (.int .i64 by') ∧ w'.cell? ⟨g + 1 + 1, 0, none⟩ = some (.int .i64 x) ∧ w'.cell? ⟨g + 1 + 1, 1, none⟩ = some (.int .i64 y))
    (first | go_keep | exact box6 hb3 HS.out | exact box6 hb4 (box6 hb3 HS.out) | exact box6 hb5 (box6 hb4 (box6 hb3 HS.out)))
    (first | (go_at_call 17; refine (on_any _ _ _ _ _ _ _).mono ?_; rintro e w3 ⟨rfl, hb3⟩; have hb3 : Below X.heap.size X w3 := undrewX hb3 rfl rfl rfl rfl) | (go_at_call 18; refine (ron_any _ _ _ _ _ _ _).mono ?_; rintro e w4 ⟨rfl, hb4⟩) | (go_at_call 12; refine (awake_any _).mono ?_; rintro e w5 ⟨rfl, hb5⟩))
  go_wp2_with fail
  go_ret
  refine ⟨rfl, ?_⟩
  clear HG
  exact bstep (bstep (bstep HB.out hb3) hb4) hb5

end Go.Proofs.Ytcdecglbkcllaaa.Ln
