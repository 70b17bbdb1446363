/-
  The walks of line.part and line.On, and of the document's On.
-/
import Derived.Test.YtcdecglbkcllaaaLineWalkI
namespace Go.Proofs.Ytcdecglbkcllaaa.Ln
open Go.RowKit Go.Shelf

def pLo (start d low size : Int) : Int := if d < 0 then start - (low + size - 1) else low - start
def pHi (start d low size : Int) : Int := if d < 0 then start - low else low + size - 1 - start
/-- the steps of a line that a rectangle's sides leave of its longer way. -/
def partLo (ax ay bx by' X Y W H : Int) : Int := if flatB ax ay bx by' then pLo ax (sgn (bx - ax)) X W else pLo ay (sgn (by' - ay)) Y H
def partHi (ax ay bx by' X Y W H : Int) : Int := if flatB ax ay bx by' then pHi ax (sgn (bx - ax)) X W else pHi ay (sgn (by' - ay)) Y H

theorem ret_two {a b c d : Int} (h : a = b ∧ c = d) : Ending.returned (.tuple #[.int .i64 a, .int .i64 c]) = .returned (.tuple #[.int .i64 b, .int .i64 d]) := by rw [h.1, h.2]
theorem sgn_bd (d : Int) : -1 ≤ sgn d ∧ sgn d ≤ 1 := by unfold sgn; split <;> (try split) <;> omega

set_option maxRecDepth 100000 in
set_option maxHeartbeats 2000000 in
theorem part_any (ax ay bx by' n X Y W H : Int) (w : World) (h1 : rightB ax ay = true) (h2 : rightB bx by' = true) (hX : -1048576 ≤ X ∧ X ≤ 1048576) (hY : -1048576 ≤ Y ∧ Y ≤ 1048576) (hW : 0 ≤ W ∧ W ≤ 2097152) (hH : 0 ≤ H ∧ H ≤ 2097152) :
    Calls Try.prog 38 #[.agg #[.int .i64 ax, .int .i64 ay], .agg #[.int .i64 bx, .int .i64 by'], .int .i64 n, .agg #[.int .i64 X, .int .i64 Y, .int .i64 W, .int .i64 H]] w fun e w' => e = .returned (.tuple #[.int .i64 (max (partLo ax ay bx by' X Y W H) 0), .int .i64 (min (partHi ax ay bx by' X Y W H) n)]) ∧ Below w.heap.size w w' := by
  have b1 := right_bd h1
  have b2 := right_bd h2
  have H1 := Lib.hid h1
  have H2 := Lib.hid h2
  clear h1 h2
  have e1 : IntKind.i64.wrap (bx - ax) = bx - ax := IntWalk.i64_in _ (by omega)
  have e2 : IntKind.i64.wrap (by' - ay) = by' - ay := IntWalk.i64_in _ (by omega)
  cases hf : flatB ax ay bx by'
  · have hlo : partLo ax ay bx by' X Y W H = pLo ay (sgn (by' - ay)) Y H := by unfold partLo; rw [if_neg (by rw [hf]; simp)]
    have hhi : partHi ax ay bx by' X Y W H = pHi ay (sgn (by' - ay)) Y H := by unfold partHi; rw [if_neg (by rw [hf]; simp)]
    have HLO := Lib.hid hlo
    have HHI := Lib.hid hhi
    clear hlo hhi
    by_cases hs : sgn (by' - ay) < 0
    all_goals
      go_enter Try.func38, Try.ntmps38
      go_wp2_with fail
      go_quiet ((go_at_call 52; exact Calls.quiet_of_same (same_of (sign_any _ _))))
      go_wp2_with (go_at_call 49; refine (flat_any _ _ _ _ _ H1.out H2.out).mono ?_; rintro e w1 ⟨rfl, hb⟩)
      have c0 : w1.cell? ⟨w.heap.size, 1, none⟩ = some (.int .i64 ay) := (hb.cell (p := ⟨w.heap.size, 1, none⟩) (by simp; omega)).trans (by go_simp)
      have c1 : w1.cell? ⟨w.heap.size + 1, 1, none⟩ = some (.int .i64 by') := (hb.cell (p := ⟨w.heap.size + 1, 1, none⟩) (by simp)).trans (by go_simp)
      have c2 : w1.cell? ⟨w.heap.size + 1 + 1, 1, none⟩ = some (.int .i64 Y) := (hb.cell (p := ⟨w.heap.size + 1 + 1, 1, none⟩) (by simp)).trans (by go_simp)
      have c3 : w1.cell? ⟨w.heap.size + 1 + 1, 3, none⟩ = some (.int .i64 H) := (hb.cell (p := ⟨w.heap.size + 1 + 1, 3, none⟩) (by simp)).trans (by go_simp)
      have HB : Hid (Below w.heap.size w w1) := bstep (below_drewN (bal (bal (bal (bre w) _) _) _) _) hb
      clear hb
      go_quiet ((go_at_call 52; exact Calls.quiet_of_same (same_of (sign_any _ _))))
      clear e1 e2
      go_wp2_with fail
      all_goals
        go_ret2
        refine ⟨ret_two ?_, below_drewN HB.out _⟩
        rw [HLO.out, HHI.out]
        unfold pLo pHi
        refine ⟨?_, ?_⟩
        all_goals (split <;> omega)
  · have hlo : partLo ax ay bx by' X Y W H = pLo ax (sgn (bx - ax)) X W := by unfold partLo; rw [if_pos hf]
    have hhi : partHi ax ay bx by' X Y W H = pHi ax (sgn (bx - ax)) X W := by unfold partHi; rw [if_pos hf]
    have HLO := Lib.hid hlo
    have HHI := Lib.hid hhi
    clear hlo hhi
    by_cases hs : sgn (bx - ax) < 0
    all_goals
      go_enter Try.func38, Try.ntmps38
      go_wp2_with fail
      go_quiet ((go_at_call 52; exact Calls.quiet_of_same (same_of (sign_any _ _))))
      clear e1 e2
      go_wp2_with (go_at_call 49; refine (flat_any _ _ _ _ _ H1.out H2.out).mono ?_; rintro e w1 ⟨rfl, hb⟩)
      all_goals
        go_ret2
        refine ⟨ret_two ?_, bstep (below_drewN (bal (bal (bal (bre w) _) _) _) _) hb⟩
        rw [HLO.out, HHI.out]
        unfold pLo pHi
        refine ⟨?_, ?_⟩
        all_goals (split <;> omega)

end Go.Proofs.Ytcdecglbkcllaaa.Ln
