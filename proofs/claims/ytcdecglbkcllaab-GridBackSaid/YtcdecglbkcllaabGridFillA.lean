/-
  The walks of slices.Clone at rectangles and of a region's Rects.
-/
import Derived.Test.YtcdecglbkcllaabBandAny
import Derived.Test.YtcdecglbkcllaabGridWalkM
namespace Go.Proofs.Ytcdecglbkcllaab
open Go.RowKit Go.Shelf

theorem rcs_flat {w : World} {b : Nat} (rs : List RC) : ∀ (off : Nat), (∀ i r, rs[i]? = some r → RcAt w b (off + i * 4) r) → ∀ j u, (rcs rs)[j]? = some u → w.cell? ⟨b, off + j, none⟩ = some u := by
  induction rs with
  | nil => intro off _ j u h; simp [rcs] at h
  | cons r rs ih =>
    intro off h j u hj
    obtain ⟨a0, a1, a2, a3⟩ := h 0 r rfl
    simp only [Nat.zero_mul, Nat.add_zero] at a0 a1 a2 a3
    have e : rcs (r :: rs) = .int .i64 r.X :: .int .i64 r.Y :: .int .i64 r.W :: .int .i64 r.H :: rcs rs := by simp [rcs, RC.cells]
    rw [e] at hj
    match j, hj with
    | 0, hj => simp at hj; subst hj; exact a0
    | 1, hj => simp at hj; subst hj; exact a1
    | 2, hj => simp at hj; subst hj; exact a2
    | 3, hj => simp at hj; subst hj; exact a3
    | j + 4, hj =>
      have := ih (off + 4) (fun i r' hi => by
        have := h (i + 1) r' (by simpa using hi)
        rwa [show off + (i + 1) * 4 = off + 4 + i * 4 from by omega] at this) j u (by simpa using hj)
      rwa [show off + (j + 4) = off + 4 + j from by omega]
theorem rcs_one (rs : List RC) : ∀ u ∈ rcs rs, u.oneCell' = true := by
  intro u hu
  obtain ⟨r, _, hr⟩ := List.mem_flatMap.1 hu
  exact cells_one r u hr
theorem Rd_nil {w : World} {A : Option Addr} {n : Nat} {rs : List RC} (h : RdR w A n rs) (hA : A = none) : n = 0 ∧ rs = [] := by
  have h0 : n = 0 := by
    refine Classical.byContradiction fun hn => ?_
    obtain ⟨b, off, e, _⟩ := h.2 (by omega)
    rw [hA] at e
    cases e
  exact ⟨h0, List.eq_nil_of_length_eq_zero (h.1.trans h0)⟩

set_option maxRecDepth 100000 in
set_option maxHeartbeats 1000000 in
theorem clone_any (A : Option Addr) (n c : Nat) (rs : List RC) (w : World) (hn : n ≤ 1000000000000) (hr : RdR w A n rs) :
    Calls Try.prog 64 #[.slice A n c] w fun e w' => ∃ A' c', e = .returned (.slice A' n c') ∧ RdR w' A' n rs ∧ Fr w.heap.size A' ∧ Below w.heap.size w w' := by
  obtain ⟨i0, hi0, hz0, hz1, hz2⟩ := info_parts Try.infoR
  have qn : ∀ (w : World) (a : Option Addr) (n c n' c' : Nat), (binOp .eql 60 (.slice a n c) (.slice none n' c')).run Try.prog w = .ok (.bool a.isNone) w := fun w a n c n' c' => Lib.run_eql_slice_nil w _ _ a n c n' c' Try.underlying60
  have HR := Lib.hid hr
  clear hr
  cases A with
  | none =>
    obtain ⟨rfl, rfl⟩ := Rd_nil HR.out rfl
    go_enter Try.func64, Try.ntmps64
    go_wp2_with fail
    go_ret
    exact ⟨none, 0, rfl, ⟨rfl, fun h => absurd h (by omega)⟩, (fun a e => by cases e), bre _⟩
  | some a =>
    go_enter Try.func64, Try.ntmps64
    have hown : (w.alloc (.cells #[] 43)).ownsRow w.heap.size 43 4 (.slice (some ⟨w.heap.size, 0, none⟩) 0 0) 0 (rcs []) := rcs_own (cs := []) (Nat.le_refl _) (Nat.le_refl _) (Nat.zero_le _) (Blk.new w _ _) rfl rfl rfl
    have HOWN := Lib.hid hown
    have hnews : ∀ j u, (rcs rs)[j]? = some u → (w.alloc (.cells #[] 43)).cell? (a.add j) = some u := fun j u hj => by
      have hl := (List.getElem?_eq_some_iff.1 hj).1
      rw [rcs_len, HR.out.1] at hl
      obtain ⟨b, off, e, hb, hc⟩ := HR.out.2 (by omega)
      injection e with e
      subst e
      have h1 := rcs_flat rs off hc j u hj
      have h2 := (World.cell?_alloc_lt w (.cells #[] 43) ⟨b, off + j, none⟩ hb).trans h1
      unfold Addr.add
      split
      · rename_i e0; subst e0; exact h2
      · exact h2
    have HNEW := Lib.hid hnews
    have hrl : (rcs rs).length = n * 4 := by rw [rcs_len, HR.out.1]
    have HRL := Lib.hid hrl
    clear hown hnews hrl
    go_wp2_with (at_builtin; refine wpList_append_own _ rfl _ _ 60 rfl w.heap.size 43 i0 _ 4 32 Try.underlying60 hi0 hz0 hz1 hz2 rfl (by decide) _ _ _ rfl HOWN.out a n c (rcs rs) rfl HRL.out HNEW.out (rcs_one rs) (by simp only [maxLen]; omega) (by omega) (by simp) ?_; intro v' w4 hown' hgrow _; have HO' := Lib.hid hown'; have HG := Lib.hid hgrow; clear hown' hgrow)
    have ho : w4.ownsRow w.heap.size 43 4 v' n (rcs rs) := by
      have := HO'.out
      rwa [Nat.zero_add, show rcs [] = [] from rfl, List.nil_append] at this
    have hB : Below w.heap.size w w4 := (bal (bre w) _).grown HG.out (by simp) (fun g e => by cases e; exact Nat.le_refl _)
    obtain ⟨A', c', rfl, _⟩ := own_form ho
    go_ret
    exact ⟨A', c', rfl, RdR.of_own ho HR.out.1, Fr.own ho, hB⟩

set_option maxRecDepth 100000 in
set_option maxHeartbeats 1000000 in
theorem rects_any (A : Option Addr) (n c : Nat) (rs : List RC) (w : World) (hn : n ≤ 1000000000000) (hr : RdR w A n rs) :
    Calls Try.prog 53 #[.agg #[.slice A n c]] w fun e w' => ∃ A' c', e = .returned (.slice A' n c') ∧ RdR w' A' n rs ∧ Fr w.heap.size A' ∧ Below w.heap.size w w' := by
  have HR := Lib.hid hr
  clear hr
  go_enter Try.func53, Try.ntmps53
  go_wp2_with (go_at_call 64; refine (clone_any _ _ _ rs _ hn (HR.out.below (bal (bre w) _))).mono ?_; rintro e w1 ⟨A', c', rfl, hr1, hf1, hb1⟩; have HR1 := Lib.hid hr1; have HF1 := Lib.hid hf1; have HB1 := Lib.hid hb1; clear hr1 hf1 hb1)
  go_ret
  exact ⟨A', c', rfl, HR1.out, HF1.out.mono (by simp), bstep (bal (bre w) _) HB1.out⟩

end Go.Proofs.Ytcdecglbkcllaab
