/-
  The walks of line.Clip, and of the document's Within; what cut tells of a whole line is what the document tells.
-/
import Derived.Test.YtcdecglbkcllaaaLineWalkN
namespace Go.Proofs.Ytcdecglbkcllaaa.Ln
open Go.RowKit Go.Shelf

/-- of places those that a rectangle that counts has. -/
def wiR (X Y W H : Int) (l : List PtR) : List PtR := if cntB X Y W H then inR X Y W H l else []
theorem wiR_le (X Y W H : Int) (l : List PtR) : (wiR X Y W H l).length ≤ l.length := by
  unfold wiR inR
  split
  · exact List.length_filter_le _ _
  · simp
theorem below_of_grown {a w : World} (h : a.grownBy w none) : Below a.heap.size a w := (Below.refl _ a).grown h (Nat.le_refl _) (by simp)

/-- of a row that counts from 0 to n those that are asked for lie from lo on, k of them at the most. -/
theorem filter_part {α : Type} (f : Nat → α) (p : α → Bool) (n lo k : Nat) (hk : k = 0 ∨ lo + k ≤ n) (h : ∀ i, i < n → p (f i) = true → lo ≤ i ∧ i < lo + k) :
    ((List.range n).map f).filter p = ((List.range k).map fun j => f (lo + j)).filter p := by
  rcases hk with rfl | hk
  · simp only [List.range_zero, List.map_nil, List.filter_nil]
    rw [List.filter_eq_nil_iff]
    intro a ha hp
    simp only [List.mem_map, List.mem_range] at ha
    obtain ⟨i, hi, rfl⟩ := ha
    have := h i hi hp
    omega
  · obtain ⟨d, rfl⟩ : ∃ d, n = lo + k + d := ⟨n - (lo + k), by omega⟩
    rw [List.range_add, List.range_add]
    simp only [List.map_append, List.filter_append, List.map_map]
    have e1 : ((List.range lo).map f).filter p = [] := by
      rw [List.filter_eq_nil_iff]
      intro a ha hp
      simp only [List.mem_map, List.mem_range] at ha
      obtain ⟨i, hi, rfl⟩ := ha
      have := h i (by omega) hp
      omega
    have e2 : ((List.range d).map (f ∘ fun x => lo + k + x)).filter p = [] := by
      rw [List.filter_eq_nil_iff]
      intro a ha hp
      simp only [List.mem_map, List.mem_range, Function.comp] at ha
      obtain ⟨i, hi, rfl⟩ := ha
      have := h (lo + k + i) (by omega) hp
      omega
    rw [e1, e2]
    simp only [List.nil_append, List.append_nil]
    rfl

/-- a step whose place the rectangle has is one of the part's. -/
theorem in_part {ax ay bx by' X Y W H i : Int} (hi0 : 0 ≤ i) (hi1 : i ≤ stp ax ay bx by') (h : inB X Y W H (ptx ax ay bx by' i) (pty ax ay bx by' i) = true) :
    partLo ax ay bx by' X Y W H ≤ i ∧ i ≤ partHi ax ay bx by' X Y W H := by
  simp only [inB, decide_eq_true_eq] at h
  cases hf : flatB ax ay bx by'
  · have hs : stp ax ay bx by' = (by' - ay).natAbs := by simp [stp, hf]
    simp only [pty, hf, Bool.false_eq_true, if_false, sgn_mul] at h
    simp only [partLo, partHi, hf, Bool.false_eq_true, if_false, pLo, pHi, sgn]
    split at h <;> (try split at h) <;> (repeat' split) <;> omega
  · have hs : stp ax ay bx by' = (bx - ax).natAbs := by simp [stp, hf]
    simp only [ptx, hf, if_true, sgn_mul] at h
    simp only [partLo, partHi, hf, if_true, pLo, pHi, sgn]
    split at h <;> (try split at h) <;> (repeat' split) <;> omega

/-- what cut tells of the whole line. -/
theorem cutL_all {ax ay bx by' X Y W H : Int} (h1 : rightB ax ay = true) (h2 : rightB bx by' = true) : cutL ax ay bx by' X Y W H 0 = wiR X Y W H (ptsR ax ay bx by' 0 (stp ax ay bx by' + 1)) := by
  unfold cutL wiR
  split
  · rename_i hc
    have hb := partLo_bd h1 h2 hc
    unfold inR ptsR
    have e0 : 0 ≤ cutLo ax ay bx by' X Y W H 0 := by unfold cutLo; omega
    have e1 : cutHi ax ay bx by' X Y W H ≤ stp ax ay bx by' := by unfold cutHi stpI; omega
    have key := filter_part (fun j : Nat => mkR (ptx ax ay bx by' (0 + j)) (pty ax ay bx by' (0 + j))) (fun p => inB X Y W H p.1.1 p.1.2) (stp ax ay bx by' + 1) (cutLo ax ay bx by' X Y W H 0).toNat (cutHi ax ay bx by' X Y W H - cutLo ax ay bx by' X Y W H 0 + 1).toNat (by omega) (fun i hi hp => by
      have hr := pt_right h1 h2 (0 + (i : Int)) (by omega) (by omega)
      rw [mkR_x hr, mkR_y hr] at hp
      have := in_part (by omega) (by omega) hp
      unfold cutLo cutHi stpI
      unfold cutLo at e0
      omega)
    rw [key]
    congr 1
    apply List.map_congr_left
    intro j _
    have : ((0 : Int) + ((cutLo ax ay bx by' X Y W H 0).toNat + j : Nat)) = cutLo ax ay bx by' X Y W H 0 + j := by omega
    simp only [this]
  · rfl

/-- each place of a line is on it. -/
theorem on_pt {ax ay bx by' : Int} (h1 : rightB ax ay = true) (h2 : rightB bx by' = true) (i : Int) (hi0 : 0 ≤ i) (hi1 : i ≤ stp ax ay bx by') : onAll ax ay bx by' (ptx ax ay bx by' i) (pty ax ay bx by' i) = true := by
  have hr := pt_right h1 h2 i hi0 hi1
  have hst : stepOf ax ay bx by' (ptx ax ay bx by' i) (pty ax ay bx by' i) = i := by
    cases hf : flatB ax ay bx by'
    · have hs : stp ax ay bx by' = (by' - ay).natAbs := by simp [stp, hf]
      simp only [stepOf, pty, hf, Bool.false_eq_true, if_false, sgn]
      repeat' split
      all_goals omega
    · have hs : stp ax ay bx by' = (bx - ax).natAbs := by simp [stp, hf]
      simp only [stepOf, ptx, hf, if_true, sgn]
      repeat' split
      all_goals omega
  unfold onAll onB
  rw [h1, h2, hr, hst]
  simp [ptB]
  omega
theorem cutL_mem {ax ay bx by' X Y W H first : Int} (h1 : rightB ax ay = true) (h2 : rightB bx by' = true) (hf : 0 ≤ first) {p : PtR} (hp : p ∈ cutL ax ay bx by' X Y W H first) : cntB X Y W H = true ∧ inB X Y W H p.1.1 p.1.2 = true ∧ onAll ax ay bx by' p.1.1 p.1.2 = true := by
  unfold cutL at hp
  split at hp
  · rename_i hc
    refine ⟨hc, ?_⟩
    unfold inR ptsR at hp
    simp only [List.mem_filter, List.mem_map, List.mem_range] at hp
    obtain ⟨⟨j, hj, rfl⟩, hin⟩ := hp
    refine ⟨hin, ?_⟩
    have e0 : 0 ≤ cutLo ax ay bx by' X Y W H first := by unfold cutLo; omega
    have e1 : cutHi ax ay bx by' X Y W H ≤ stp ax ay bx by' := by unfold cutHi stpI; omega
    have hr := pt_right h1 h2 (cutLo ax ay bx by' X Y W H first + j) (by omega) (by omega)
    rw [mkR_x hr, mkR_y hr]
    exact on_pt h1 h2 _ (by omega) (by omega)
  · simp at hp
theorem cutL_len {ax ay bx by' X Y W H : Int} (h1 : rightB ax ay = true) (h2 : rightB bx by' = true) : (cutL ax ay bx by' X Y W H 0).length ≤ 2097153 := by
  rw [cutL_all h1 h2]
  have := wiR_le X Y W H (ptsR ax ay bx by' 0 (stp ax ay bx by' + 1))
  rw [ptsR_length] at this
  have := stp_le h1 h2
  omega

theorem cut_nil (ax ay bx by' X Y W H : Int) (w : World) (h1 : rightB ax ay = true) (h2 : rightB bx by' = true) :
    Calls Try.prog 40 #[.slice none 0 0, .agg #[.int .i64 ax, .int .i64 ay], .agg #[.int .i64 bx, .int .i64 by'], .agg #[.int .i64 X, .int .i64 Y, .int .i64 W, .int .i64 H], .int .i64 0] w fun e w' => ∃ v', e = .returned v' ∧ w'.ownsRow w.heap.size 23 2 v' (cutL ax ay bx by' X Y W H 0).length (pcs (cutL ax ay bx by' X Y W H 0)) ∧ Below w.heap.size w w' := by
  cases hc : cntB X Y W H
  · refine (cut_no (.slice none 0 0) none 0 0 rfl ax ay bx by' X Y W H 0 w hc).mono fun e w' ⟨he, hb⟩ => ⟨_, he, ?_, hb⟩
    have : cutL ax ay bx by' X Y W H 0 = [] := by simp [cutL, hc]
    rw [this]
    exact World.ownsRow_nil _ _ _ _
  · by_cases hm : (0 : Int) ≤ max (partLo ax ay bx by' X Y W H) 0
    · exact (cut_yesA w.heap.size 0 0 none [] ax ay bx by' X Y W H 0 w h1 h2 hc (by omega) (World.ownsRow_nil _ _ _ _) rfl (Nat.le_refl _) (by simp) hm).mono fun e w' ⟨v, he, ho, hg, _⟩ => ⟨v, he, by simpa using ho, below_of_grown hg⟩
    · omega

set_option maxHeartbeats 1000000 in
theorem clip_no (ax ay bx by' X Y W H : Int) (w : World) (h : (rightB ax ay && rightB bx by') = false) :
    Calls Try.prog 19 #[.agg #[.int .i64 ax, .int .i64 ay], .agg #[.int .i64 bx, .int .i64 by'], .agg #[.int .i64 X, .int .i64 Y, .int .i64 W, .int .i64 H]] w fun e w' => e = .returned (.tuple #[.slice none 0 0, .int .i64 1]) ∧ Below w.heap.size w w' := by
  cases h1 : rightB ax ay
  · clear h
    go_enter Try.func19, Try.ntmps19
    go_wp2_with (go_at_call 33; refine (right_any _ _ _).mono ?_; rintro e w' ⟨rfl, rfl⟩)
    go_ret2
    exact ⟨rfl, bal (bal (bal (bal (bre w) _) _) _) _⟩
  · have h2 : rightB bx by' = false := by simpa [h1] using h
    clear h
    go_enter Try.func19, Try.ntmps19
    go_wp2_with (go_at_call 33; refine (right_any _ _ _).mono ?_; rintro e w' ⟨rfl, rfl⟩)
    go_ret2
    exact ⟨rfl, bal (bal (bal (bal (bal (bre w) _) _) _) _) _⟩
set_option maxHeartbeats 1000000 in
theorem clip_big (ax ay bx by' X Y W H : Int) (w : World) (h1 : rightB ax ay = true) (h2 : rightB bx by' = true) (h3 : bigB X Y W H = true) :
    Calls Try.prog 19 #[.agg #[.int .i64 ax, .int .i64 ay], .agg #[.int .i64 bx, .int .i64 by'], .agg #[.int .i64 X, .int .i64 Y, .int .i64 W, .int .i64 H]] w fun e w' => e = .returned (.tuple #[.slice none 0 0, .int .i64 17]) ∧ Below w.heap.size w w' := by
  go_enter Try.func19, Try.ntmps19
  go_wp2_with (first
    | (go_at_call 33; refine (right_any _ _ _).mono ?_; rintro e w' ⟨rfl, rfl⟩)
    | (go_at_call 39; refine (big_any _ _ _ _ _).mono ?_; rintro e w1 ⟨rfl, hb1⟩))
  go_ret2
  exact ⟨rfl, bstep (bal (bal (bal (bal (bal (bre w) _) _) _) _) _) hb1⟩
set_option maxHeartbeats 1000000 in
theorem clip_ok (ax ay bx by' X Y W H : Int) (w : World) (h1 : rightB ax ay = true) (h2 : rightB bx by' = true) (h3 : bigB X Y W H = false) :
    Calls Try.prog 19 #[.agg #[.int .i64 ax, .int .i64 ay], .agg #[.int .i64 bx, .int .i64 by'], .agg #[.int .i64 X, .int .i64 Y, .int .i64 W, .int .i64 H]] w fun e w' => ∃ v, e = .returned (.tuple #[v, .int .i64 0]) ∧ RdP w' v (unR (cutL ax ay bx by' X Y W H 0)) ∧ Below w.heap.size w w' := by
  have H1 := Lib.hid h1
  have H2 := Lib.hid h2
  go_enter Try.func19, Try.ntmps19
  go_wp2_with (first
    | (go_at_call 33; refine (right_any _ _ _).mono ?_; rintro e w' ⟨rfl, rfl⟩)
    | (go_at_call 39; refine (big_any _ _ _ _ _).mono ?_; rintro e w1 ⟨rfl, hb1⟩; obtain ⟨hc1, hf1⟩ := bcell hb1)
    | (go_at_call 40; refine (cut_nil _ _ _ _ _ _ _ _ _ H1.out H2.out).mono ?_; rintro e w2 ⟨v, rfl, ho, hb2⟩))
  go_ret2
  exact ⟨v, rfl, RdP.of_own ho rfl, bstep (bstep (bal (bal (bal (bal (bal (bre w) _) _) _) _) _) hb1) hb2⟩

end Go.Proofs.Ytcdecglbkcllaaa.Ln
