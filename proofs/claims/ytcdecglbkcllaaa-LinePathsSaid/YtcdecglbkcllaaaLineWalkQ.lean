/-
  The walk of the law LineClips.
-/
import Derived.Test.YtcdecglbkcllaaaLineWalkP
namespace Go.Proofs.Ytcdecglbkcllaaa.Ln
open Go.RowKit Go.Shelf

/-- the law's three boxes. -/
structure CBox (ax ay bx by' X Y W H : Int) (w wr : World) : Prop where
  ba : Blk wr w.heap.size 23 #[.int .i64 ax, .int .i64 ay]
  bb : Blk wr (w.heap.size + 1) 23 #[.int .i64 bx, .int .i64 by']
  br : Blk wr (w.heap.size + 1 + 1) 45 #[.int .i64 X, .int .i64 Y, .int .i64 W, .int .i64 H]
  be : Below w.heap.size w wr
section
variable {ax ay bx by' X Y W H : Int} {w wr w' : World}
theorem CBox.new : CBox ax ay bx by' X Y W H w (((w.alloc (.cells #[.int .i64 ax, .int .i64 ay] 23)).alloc (.cells #[.int .i64 bx, .int .i64 by'] 23)).alloc (.cells #[.int .i64 X, .int .i64 Y, .int .i64 W, .int .i64 H] 45)) := by
  have h1 := Blk.new (w.alloc (.cells #[.int .i64 ax, .int .i64 ay] 23)) 23 #[.int .i64 bx, .int .i64 by']
  have h2 := Blk.new ((w.alloc (.cells #[.int .i64 ax, .int .i64 ay] 23)).alloc (.cells #[.int .i64 bx, .int .i64 by'] 23)) 45 #[.int .i64 X, .int .i64 Y, .int .i64 W, .int .i64 H]
  simp only [World.size_alloc] at h1 h2
  exact ⟨((Blk.new w _ _).alloc _).alloc _, h1.alloc _, h2, bal (bal (bal (bre w) _) _) _⟩
theorem CBox.below (h : CBox ax ay bx by' X Y W H w wr) (hb : Below wr.heap.size wr w') : CBox ax ay bx by' X Y W H w w' := ⟨h.ba.belowS hb, h.bb.belowS hb, h.br.belowS hb, bstep h.be hb⟩
theorem CBox.cells (h : CBox ax ay bx by' X Y W H w wr) : wr.cell? ⟨w.heap.size, 0, none⟩ = some (.int .i64 ax) ∧ wr.cell? ⟨w.heap.size, 1, none⟩ = some (.int .i64 ay) ∧ wr.cell? ⟨w.heap.size + 1, 0, none⟩ = some (.int .i64 bx) ∧ wr.cell? ⟨w.heap.size + 1, 1, none⟩ = some (.int .i64 by') ∧ wr.cell? ⟨w.heap.size + 1 + 1, 0, none⟩ = some (.int .i64 X) ∧ wr.cell? ⟨w.heap.size + 1 + 1, 1, none⟩ = some (.int .i64 Y) ∧ wr.cell? ⟨w.heap.size + 1 + 1, 2, none⟩ = some (.int .i64 W) ∧ wr.cell? ⟨w.heap.size + 1 + 1, 3, none⟩ = some (.int .i64 H) :=
  ⟨(h.ba.cell 0).trans rfl, (h.ba.cell 1).trans rfl, (h.bb.cell 0).trans rfl, (h.bb.cell 1).trans rfl, (h.br.cell 0).trans rfl, (h.br.cell 1).trans rfl, (h.br.cell 2).trans rfl, (h.br.cell 3).trans rfl⟩
theorem CBox.lt (h : CBox ax ay bx by' X Y W H w wr) : w.heap.size + 1 + 1 < wr.heap.size := h.br.lt
end

theorem c_cells {ax ay bx by' X Y W H : Int} {w wr : World} {g k : Nat} {x y : Int} (h : CBox ax ay bx by' X Y W H w wr) (h0 : wr.cell? ⟨g, k * 2, none⟩ = some (.int .i64 x)) (h1 : wr.cell? ⟨g, k * 2 + 1, none⟩ = some (.int .i64 y)) :
    wr.cell? ⟨w.heap.size, 0, none⟩ = some (.int .i64 ax) ∧ wr.cell? ⟨w.heap.size, 1, none⟩ = some (.int .i64 ay) ∧ wr.cell? ⟨w.heap.size + 1, 0, none⟩ = some (.int .i64 bx) ∧ wr.cell? ⟨w.heap.size + 1, 1, none⟩ = some (.int .i64 by') ∧ wr.cell? ⟨w.heap.size + 1 + 1, 0, none⟩ = some (.int .i64 X) ∧ wr.cell? ⟨w.heap.size + 1 + 1, 1, none⟩ = some (.int .i64 Y) ∧ wr.cell? ⟨w.heap.size + 1 + 1, 2, none⟩ = some (.int .i64 W) ∧ wr.cell? ⟨w.heap.size + 1 + 1, 3, none⟩ = some (.int .i64 H) ∧ wr.cell? ⟨g, k * 2, none⟩ = some (.int .i64 x) ∧ wr.cell? ⟨g, k * 2 + 1, none⟩ = some (.int .i64 y) := by
  obtain ⟨a, b, c, d, e, f, g', h'⟩ := h.cells
  exact ⟨a, b, c, d, e, f, g', h', h0, h1⟩

set_option maxRecDepth 100000 in
set_option maxHeartbeats 2000000 in
theorem lineClips_no (ax ay bx by' X Y W H : Int) (w : World) (h : (rightB ax ay && rightB bx by') = false) :
    Calls Try.prog 7 #[.agg #[.int .i64 ax, .int .i64 ay], .agg #[.int .i64 bx, .int .i64 by'], .agg #[.int .i64 X, .int .i64 Y, .int .i64 W, .int .i64 H]] w fun e w' => e = .returned (.bool true) ∧ Below w.heap.size w w' := by
  have HH := Lib.hid h
  have t : rightB ax ay = false ∨ (rightB ax ay = true ∧ rightB bx by' = false) := by
    cases h1 : rightB ax ay
    · exact .inl rfl
    · exact .inr ⟨rfl, by simpa [h1] using h⟩
  clear h
  rcases t with h1 | ⟨h1, h2⟩
  all_goals
    go_enter Try.func7, Try.ntmps7
    go_wp2_with fail
    refine (clip_no ax ay bx by' X Y W H _ HH.out).mono ?_
    rintro e w1 ⟨rfl, hb1⟩
    have B1 := Lib.hid (CBox.new.below hb1)
    obtain ⟨c0, c1, c2, c3, _, _, _, _⟩ := B1.out.cells
    have zz := B1.out.lt
    have z1 : w.heap.size + 1 < w1.heap.size := by omega
    have z0 : w.heap.size < w1.heap.size := by omega
    clear hb1
    go_wp2_with (first
      | (go_at_call 11; refine (rright_any _ _ _).mono ?_; rintro e w' ⟨rfl, rfl⟩)
      | (go_at_call 12; refine (awake_any _).mono ?_; rintro e w3 ⟨rfl, hb3⟩))
    go_ret
    first | exact ⟨rfl, bstep (bal (bal B1.out.be _) _) hb3⟩ | exact ⟨rfl, bstep (bal B1.out.be _) hb3⟩

set_option maxRecDepth 100000 in
set_option maxHeartbeats 2000000 in
theorem lineClips_big (ax ay bx by' X Y W H : Int) (w : World) (h1 : rightB ax ay = true) (h2 : rightB bx by' = true) (h3 : bigB X Y W H = true) :
    Calls Try.prog 7 #[.agg #[.int .i64 ax, .int .i64 ay], .agg #[.int .i64 bx, .int .i64 by'], .agg #[.int .i64 X, .int .i64 Y, .int .i64 W, .int .i64 H]] w fun e w' => e = .returned (.bool true) ∧ Below w.heap.size w w' := by
  have H1 := Lib.hid h1
  have H2 := Lib.hid h2
  have H3 := Lib.hid h3
  have t : cntB X Y W H = true ∧ (decide (65536 < W) = true ∨ (decide (65536 < W) = false ∧ decide (65536 < H) = true)) := by
    simp only [bigB, Bool.and_eq_true, Bool.or_eq_true] at h3
    refine ⟨h3.1, ?_⟩
    rcases h3.2 with h | h
    · exact .inl h
    · cases h' : decide (65536 < W)
      · exact .inr ⟨rfl, h⟩
      · exact .inl rfl
  clear h3
  obtain ⟨hc, t⟩ := t
  rcases t with d1 | ⟨d1, d2⟩
  all_goals
    go_enter Try.func7, Try.ntmps7
    go_wp2_with fail
    refine (clip_big ax ay bx by' X Y W H _ H1.out H2.out H3.out).mono ?_
    rintro e w1 ⟨rfl, hb1⟩
    have B1 := Lib.hid (CBox.new.below hb1)
    obtain ⟨c0, c1, c2, c3, c4, c5, c6, c7⟩ := B1.out.cells
    have zz := B1.out.lt
    have z1 : w.heap.size + 1 < w1.heap.size := by omega
    have z0 : w.heap.size < w1.heap.size := by omega
    clear hb1
    go_wp2_with (first
      | (go_at_call 11; refine (rright_any _ _ _).mono ?_; rintro e w' ⟨rfl, rfl⟩)
      | (go_at_call 20; refine (rcounts_any _ _ _ _ _).mono ?_; rintro e w' ⟨rfl, rfl⟩)
      | (go_at_call 12; refine (awake_any _).mono ?_; rintro e w3 ⟨rfl, hb3⟩))
    go_ret
    exact ⟨rfl, bstep (bal (bal (bal B1.out.be _) _) _) hb3⟩

set_option maxRecDepth 100000 in
set_option maxHeartbeats 4000000 in
theorem lineClips_ok (ax ay bx by' X Y W H : Int) (w : World) (h1 : rightB ax ay = true) (h2 : rightB bx by' = true) (h3 : bigB X Y W H = false) :
    Calls Try.prog 7 #[.agg #[.int .i64 ax, .int .i64 ay], .agg #[.int .i64 bx, .int .i64 by'], .agg #[.int .i64 X, .int .i64 Y, .int .i64 W, .int .i64 H]] w fun e w' => e = .returned (.bool true) ∧ Below w.heap.size w w' := by
  have H1 := Lib.hid h1
  have H2 := Lib.hid h2
  have H3 := Lib.hid h3
  have hs := stpI_bd h1 h2
  have t : cntB X Y W H = false ∨ (cntB X Y W H = true ∧ decide (65536 < W) = false ∧ decide (65536 < H) = false) := by
    cases hc : cntB X Y W H
    · exact .inl rfl
    · simp only [bigB, hc, Bool.true_and, Bool.or_eq_false_iff] at h3
      exact .inr ⟨rfl, h3⟩
  have T := Lib.hid t
  clear h3 t
  go_enter Try.func7, Try.ntmps7
  go_wp2_with fail
  refine (clip_ok ax ay bx by' X Y W H _ H1.out H2.out H3.out).mono ?_
  rintro e w1 ⟨v, rfl, hr, hb1⟩
  obtain ⟨A, c, rfl⟩ := hr.form
  have B1 := Lib.hid (CBox.new.below hb1)
  have R1 := Lib.hid hr
  obtain ⟨n, hn⟩ : ∃ n, (unR (cutL ax ay bx by' X Y W H 0)).length = n := ⟨_, rfl⟩
  have hnl : n ≤ 2097153 := by have := cutL_len (X := X) (Y := Y) (W := W) (H := H) h1 h2; simp [unR] at hn; omega
  have HN := Lib.hid hn
  rw [hn] at R1 ⊢
  clear hb1 hr hn
  obtain ⟨c0, c1, c2, c3, c4, c5, c6, c7⟩ := B1.out.cells
  have zz := B1.out.lt
  have z1 : w.heap.size + 1 < w1.heap.size := by omega
  have z0 : w.heap.size < w1.heap.size := by omega
  go_upto_region 4 with (go_at_call 11; refine (rright_any _ _ _).mono ?_; rintro e w' ⟨rfl, rfl⟩)
  have b2 : Below w1.heap.size w1 ((w1.alloc (.cells #[.int .i64 ax, .int .i64 ay] 23)).alloc (.cells #[.int .i64 bx, .int .i64 by'] 23)) := bal (bal (bre w1) _) _
  obtain ⟨w2, hw2⟩ : ∃ w2, (w1.alloc (.cells #[.int .i64 ax, .int .i64 ay] 23)).alloc (.cells #[.int .i64 bx, .int .i64 by'] 23) = w2 := ⟨_, rfl⟩
  rw [hw2] at b2 ⊢
  have B2 := Lib.hid b2
  clear hw2 b2 c0 c1 c2 c3 c4 c5 c6 c7 zz z1 z0
  go_cut [48] (fun s48 wx => s48 = .bool false ∧ Below w1.heap.size w1 wx)
  case first =>
    obtain ⟨c0, c1, c2, c3, c4, c5, c6, c7⟩ := (B1.out.below B2.out).cells
    have zz := (B1.out.below B2.out).lt
    rcases T.out with t | ⟨t, d1, d2⟩
    all_goals
      go_wp2_with (go_at_call 20; refine (rcounts_any _ _ _ _ _).mono ?_; rintro e w' ⟨rfl, rfl⟩)
      go_meet
      exact ⟨rfl, bal B2.out _⟩
  case rest =>
    obtain ⟨rfl, b3⟩ := hcut
    have B3 := Lib.hid b3
    clear b3 B2
    obtain ⟨c0, c1, c2, c3, c4, c5, c6, c7⟩ := (B1.out.below B3.out).cells
    have zz := (B1.out.below B3.out).lt
    have z1 : w.heap.size + 1 < wc.heap.size := by omega
    have z0 : w.heap.size < wc.heap.size := by omega
    by_cases hlong : 1500 < stpI ax ay bx by' + 1
    · have dl : decide (1500 < stpI ax ay bx by' + 1) = true := decide_eq_true hlong
      go_wp2_with (go_at_call 13; refine (rlong_any _ _ _ _ _ H1.out H2.out).mono ?_; rintro e w4 ⟨rfl, hb4⟩; have B4 := Lib.hid (bstep B3.out hb4); clear hb4)
      clear c0 c1 c2 c3 c4 c5 c6 c7 zz z1 z0
      go_loopw [9] (fun i wr => ∃ k : Nat, i = .int .i64 k ∧ k ≤ n ∧ k ≤ 1500 ∧ Below w1.heap.size w1 wr) (fun i _ => 1500 - (intOf i).toNat)
      case atStart => exact ⟨0, rfl, by omega, by omega, B4.out⟩
      case round =>
        obtain ⟨k, rfl, hk, hk2, hB⟩ := hrel
        have HB := Lib.hid hB
        have C := Lib.hid (B1.out.below hB)
        clear hB
        by_cases hlt : k < n
        · have e1 : decide ((k : Int) < (n : Int)) = true := by simp; omega
          by_cases hlt2 : k < 1500
          · have e2 : decide ((k : Int) < 1500) = true := by simp; omega
            obtain ⟨q, hq⟩ : ∃ q, (cutL ax ay bx by' X Y W H 0)[k]? = some q := ⟨_, List.getElem?_eq_getElem (by have := HN.out; simp [unR] at this; omega)⟩
            obtain ⟨hc, hin, hon⟩ := cutL_mem H1.out H2.out (by omega) (List.mem_of_getElem? hq)
            have hcb := (cnt_iff _ _ _ _).1 hc
            obtain ⟨g, cap, hA, hg, hcell⟩ : ∃ g cap, Value.slice A n c = .slice (some ⟨g, 0, none⟩) n cap ∧ g < w1.heap.size ∧ (w1.cell? ⟨g, k * 2, none⟩ = some (.int .i64 q.1.1) ∧ w1.cell? ⟨g, k * 2 + 1, none⟩ = some (.int .i64 q.1.2)) := by
              rcases R1.out with ⟨h0, _⟩ | ⟨g, cap, e, hg, hcell⟩
              · have := HN.out
                rw [h0] at this
                simp at this
                omega
              · exact ⟨g, cap, by rw [e, HN.out], hg, hcell k q.1 (by simp [unR, hq])⟩
            injection hA with hA _ hcap
            subst hA hcap
            have p0 := (HB.out.cell (p := ⟨g, k * 2, none⟩) hg).trans hcell.1
            have p1 := (HB.out.cell (p := ⟨g, k * 2 + 1, none⟩) hg).trans hcell.2
            obtain ⟨c0, c1, c2, c3, c4, c5, c6, c7⟩ := C.out.cells
            have zz := C.out.lt
            have hBs := HB.out.size
            have HI := Lib.hid hin
            have HON := Lib.hid hon
            have HP := Lib.hid hcell
            have hq0 : (0 : Int) ≤ (k : Int) := by omega
            have hq1 : (k : Int) < (n : Int) := by omega
            clear hq hc hin hon hcell
            go_wp2_with fail
            go_region_held3 (fun w' => w'.cell? ⟨w.heap.size, 0, none⟩ = some (.int .i64 ax) ∧ w'.cell? ⟨w.heap.size, 1, none⟩ = some (.int .i64 ay) ∧ w'.cell? ⟨w.heap.size + 1, 0, none⟩ = some (.int .i64 bx) ∧ w'.cell? ⟨w.heap.size + 1, 1, none⟩ = some (.int .i64 by') ∧ w'.cell? ⟨w.heap.size + 1 + 1, 0, none⟩ = some (.int .i64 X) ∧ w'.cell? ⟨w.heap.size + 1 + 1, 1, none⟩ = some (.int .i64 Y) ∧ w'.cell? ⟨w.heap.size + 1 + 1, 2, none⟩ = some (.int .i64 W) ∧ w'.cell? ⟨w.heap.size + 1 + 1, 3, none⟩ = some (.int .i64 H) ∧ w'.cell? ⟨g, k * 2, none⟩ = some (.int .i64 q.1.1) ∧ w'.cell? ⟨g, k * 2 + 1, none⟩ = some (.int .i64 q.1.2))
              (first | with_reducible exact K6.out | with_reducible exact K5.out | go_keep)
              (first | (go_at_call 21; refine (rin_any _ _ _ _ _ _ _ (by omega) (by omega) (by omega) (by omega)).mono ?_; rintro e w5 ⟨rfl, rfl⟩; rw [HI.out]) | (go_at_call 18; refine (ron_any _ _ _ _ _ _ _).mono ?_; rintro e w6 ⟨rfl, hb6⟩; rw [HON.out]; have B6 : Hid (Below w1.heap.size w1 w6) := Lib.hid (bstep HB.out (undrewX (bstep (bal (bre wr.drew) _) hb6) rfl rfl rfl rfl)); have K6 := Lib.hid (c_cells (B1.out.below B6.out) ((B6.out.cell (p := ⟨g, k * 2, none⟩) hg).trans HP.out.1) ((B6.out.cell (p := ⟨g, k * 2 + 1, none⟩) hg).trans HP.out.2)); clear hb6))
            go_wp2_with fail
            go_roundw
            case rel => exact ⟨k + 1, by go_num, by omega, by omega, B6.out⟩
            case measure => simp [intOf]; omega
          · have e2 : decide ((k : Int) < 1500) = false := by simp; omega
            obtain ⟨c0, c1, c2, c3, c4, c5, c6, c7⟩ := C.out.cells
            have zz := C.out.lt
            rcases T.out with t | ⟨t, _, _⟩
            · obtain rfl : n = 0 := by
                have := HN.out
                rw [show cutL ax ay bx by' X Y W H 0 = [] from by simp [cutL, t]] at this
                simpa [unR] using this.symm
              exact absurd hlt (by omega)
            · go_wp2_with (first
                | (go_at_call 20; refine (rcounts_any _ _ _ _ _).mono ?_; rintro e w' ⟨rfl, rfl⟩)
                | (go_at_call 12; refine (awake_any _).mono ?_; rintro e w7 ⟨rfl, hb7⟩))
              go_ret
              exact ⟨rfl, bstep (bal C.out.be _) hb7⟩
        · have e1 : decide ((k : Int) < (n : Int)) = false := by simp; omega
          obtain ⟨c0, c1, c2, c3, c4, c5, c6, c7⟩ := C.out.cells
          have zz := C.out.lt
          rcases T.out with t | ⟨t, _, _⟩
          · obtain rfl : n = 0 := by
              have := HN.out
              rw [show cutL ax ay bx by' X Y W H 0 = [] from by simp [cutL, t]] at this
              simpa [unR] using this.symm
            go_wp2_with (first
              | (go_at_call 20; refine (rcounts_any _ _ _ _ _).mono ?_; rintro e w' ⟨rfl, rfl⟩)
              | (go_at_call 12; refine (awake_any _).mono ?_; rintro e w7 ⟨rfl, hb7⟩))
            go_ret
            exact ⟨rfl, bstep (bal C.out.be _) hb7⟩
          · go_wp2_with (first
              | (go_at_call 20; refine (rcounts_any _ _ _ _ _).mono ?_; rintro e w' ⟨rfl, rfl⟩)
              | (go_at_call 12; refine (awake_any _).mono ?_; rintro e w7 ⟨rfl, hb7⟩))
            go_ret
            exact ⟨rfl, bstep (bal C.out.be _) hb7⟩
    · have dl : decide (1500 < stpI ax ay bx by' + 1) = false := decide_eq_false hlong
      have hst : stp ax ay bx by' + 1 ≤ 1000000 := by unfold stpI at hlong; omega
      have hl2 : n ≤ 9223372036854775807 := by omega
      go_wp2_with (first
        | (go_at_call 13; refine (rlong_any _ _ _ _ _ H1.out H2.out).mono ?_; rintro e w4 ⟨rfl, hb4⟩; have B4 := Lib.hid (bstep B3.out hb4); clear hb4 c0 c1 c2 c3 c4 c5 c6 c7; obtain ⟨c0, c1, c2, c3, c4, c5, c6, c7⟩ := (B1.out.below B4.out).cells; have zz4 := (B1.out.below B4.out).lt)
        | (go_at_call 15; refine (rpixels_any _ _ _ _ _ H1.out H2.out (by omega)).mono ?_; rintro e w5 ⟨v5, rfl, ho5, hb5⟩; have B5 := Lib.hid (bstep B4.out hb5); have R5 := Lib.hid (RdP.of_own ho5 (by rw [ptsR_length])); clear hb5 ho5 c0 c1 c2 c3 c4 c5 c6 c7; obtain ⟨c0, c1, c2, c3, c4, c5, c6, c7⟩ := (B1.out.below B5.out).cells; have zz5 := (B1.out.below B5.out).lt))
      refine (within_any v5 _ X Y W H w5 R5.out (by rw [ptsR_length]; exact hst)).mono ?_
      rintro e w6 ⟨v6, rfl, hr6, hb6⟩
      rw [← cutL_all H1.out H2.out] at hr6
      have B6 := Lib.hid (bstep B5.out hb6)
      have R6 := Lib.hid hr6
      clear hr6 hb6
      go_wp2_with fail
      refine (same_any (R1.out.below B6.out) R6.out (by rw [HN.out]; exact hl2)).mono ?_
      rintro e w7 ⟨rfl, hb7⟩
      rw [decide_eq_true (rfl : unR (cutL ax ay bx by' X Y W H 0) = _)]
      go_wp2_with (go_at_call 12; refine (awake_any _).mono ?_; rintro e w8 ⟨rfl, hb8⟩)
      go_ret
      exact ⟨rfl, bstep (bstep (B1.out.below B6.out).be hb7) hb8⟩

theorem lineClips_any (ax ay bx by' X Y W H : Int) (w : World) :
    Calls Try.prog 7 #[.agg #[.int .i64 ax, .int .i64 ay], .agg #[.int .i64 bx, .int .i64 by'], .agg #[.int .i64 X, .int .i64 Y, .int .i64 W, .int .i64 H]] w fun e w' => e = .returned (.bool true) ∧ Below w.heap.size w w' := by
  cases h : (rightB ax ay && rightB bx by')
  · exact lineClips_no ax ay bx by' X Y W H w h
  · simp only [Bool.and_eq_true] at h
    cases hb : bigB X Y W H
    · exact lineClips_ok ax ay bx by' X Y W H w h.1 h.2 hb
    · exact lineClips_big ax ay bx by' X Y W H w h.1 h.2 hb

end Go.Proofs.Ytcdecglbkcllaaa.Ln
