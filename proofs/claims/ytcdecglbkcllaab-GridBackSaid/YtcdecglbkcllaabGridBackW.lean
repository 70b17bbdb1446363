/-
  The walk of the law GridBack.
-/
import Derived.Test.YtcdecglbkcllaabGridBackT
import Derived.Test.YtcdecglbkcllaabGridWalkL
import Derived.Outline
namespace Go.Proofs.Ytcdecglbkcllaab
open Go.RowKit Go.Shelf

set_option maxRecDepth 100000 in
set_option maxHeartbeats 2000000 in
theorem gridBack_skip (a b p q : Int) (A : Option Addr) (m c : Nat) (s : Sm) (L : Option Addr) (nl cl : Nat) (w : World) (h : 300 < m ∨ 12 < nl) :
    Calls Try.prog 8 #[.agg #[.int .u8 a, .int .u8 b, .slice A m c], .agg #[.int .i8 s.x, .int .i8 s.y, .int .u8 s.w, .int .u8 s.h], .slice L nl cl, .int .u8 p, .int .u8 q] w fun e w' => e = .returned (.bool true) ∧ Below w.heap.size w w' := by
  have t : decide ((300 : Int) < (m : Int)) = true ∨ (decide ((300 : Int) < (m : Int)) = false ∧ decide ((12 : Int) < (nl : Int)) = true) := by simp; omega
  clear h
  rcases t with d1 | ⟨d1, d2⟩
  all_goals
    go_enter Try.func8, Try.ntmps8
    go_wp2_with (go_at_call 13; refine (awake_any _).mono ?_; rintro e w3 ⟨rfl, hb3⟩)
    go_ret
    exact ⟨rfl, bstep (bal (bal (bre w) _) _) hb3⟩


theorem canon_one {r : RC} (h1 : 0 < r.W) (h2 : 0 < r.H) : Canon [r] := by
  refine ⟨[⟨r.Y, r.H, [(r.X, r.X + r.W)]⟩], ?_, ⟨?_, ?_, ?_⟩⟩
  · simp only [flatB, List.flatMap_cons, List.flatMap_nil, List.append_nil, Bd.rc, bandL, List.map_cons, List.map_nil]
    rw [show r.X + r.W - r.X = r.W from by omega]
  · intro b hb
    simp only [List.mem_singleton] at hb
    subst hb
    refine ⟨h2, by simp, by simp, fun s hs => ?_⟩
    simp only [List.mem_singleton] at hs
    subst hs
    dsimp only
    omega
  · simp
  · intro pre a b post e
    have := congrArg List.length e
    simp at this
    omega
theorem whole_cnt {W H : Nat} (hW : 1 ≤ W ∧ W ≤ 16) (hH : 1 ≤ H ∧ H ≤ 16) : (wholeR W H).cnt = true := by
  rw [cnt_iff]
  dsimp only [wholeR]
  omega
theorem whole_of {W H : Nat} (hW : 1 ≤ W ∧ W ≤ 16) (hH : 1 ≤ H ∧ H ≤ 16) {out : List RC} (hc : Canon out) (hp : ∀ x y, InR out x y ↔ InR ([wholeR W H].filter RC.cnt) x y) : out = [wholeR W H] := by
  have h := whole_cnt hW hH
  have e : [wholeR W H].filter RC.cnt = [wholeR W H] := by simp [h]
  rw [e] at hp
  exact canon_uniq hc (canon_one (by dsimp only [wholeR]; omega) (by dsimp only [wholeR]; omega)) hp
theorem whole_rd {w : World} {W H : Nat} {g : Nat} {t : TypeId} (h : Blk w g t #[.int .i64 0, .int .i64 0, .int .i64 W, .int .i64 H]) : RdR w (some ⟨g, 0, none⟩) 1 [wholeR W H] :=
  RdR.of_blk (rest := []) (by simpa [rcs, RC.cells, wholeR] using h)

set_option maxRecDepth 100000 in
set_option maxHeartbeats 8000000 in
theorem gridBack_go (a b p q : Int) (W H : Nat) (ps : List Int) (A : Option Addr) (m c : Nat) (s : Sm) (L : Option Addr) (nl cl : Nat) (ss : List Sm) (w : World) (ha : a % 16 + 1 = W) (hb : b % 16 + 1 = H) (ha0 : 0 ≤ a ∧ a ≤ 255) (hb0 : 0 ≤ b ∧ b ≤ 255) (hm : m ≤ 300) (hnl : nl ≤ 12) (hr : Rd w A m (U8 ps)) (hs : RdS w L nl ss) (hok : ∀ s ∈ ss, s.ok) (hsk : s.ok) :
    Calls Try.prog 8 #[.agg #[.int .u8 a, .int .u8 b, .slice A m c], .agg #[.int .i8 s.x, .int .i8 s.y, .int .u8 s.w, .int .u8 s.h], .slice L nl cl, .int .u8 p, .int .u8 q] w fun e w' => e = .returned (.bool true) ∧ Below w.heap.size w w' := by
  have d1 : decide ((300 : Int) < (m : Int)) = false := by simp; omega
  have d2 : decide ((12 : Int) < (nl : Int)) = false := by simp; omega
  have hW : 1 ≤ W ∧ W ≤ 16 := by omega
  have hH : 1 ≤ H ∧ H ≤ 16 := by omega
  have hpl0 : (pl (W * H) ps m).length = W * H := pl_length _ _ _
  obtain ⟨px, hpx⟩ : ∃ px, pl (W * H) ps m = px := ⟨_, rfl⟩
  rw [hpx] at hpl0
  have HPX := Lib.hid hpx
  have HPL := Lib.hid hpl0
  have HR := Lib.hid hr
  have HS := Lib.hid hs
  have HOK := Lib.hid hok
  have HSK := Lib.hid hsk
  have HA := Lib.hid ha
  have HB := Lib.hid hb
  clear hr ha hb hs hok hpx hpl0 hsk
  go_enter Try.func8, Try.ntmps8
  have b0 := bal (bal (bre w) (.cells #[.int .u8 a, .int .u8 b, .slice A m c] 41)) (.cells #[.int .i8 s.x, .int .i8 s.y, .int .u8 s.w, .int .u8 s.h] 72)
  have bs0 := Blk.new2 w (.cells #[.int .u8 a, .int .u8 b, .slice A m c] 41) 72 #[.int .i8 s.x, .int .i8 s.y, .int .u8 s.w, .int .u8 s.h]
  have HB0 := Lib.hid b0
  have HBS0 := Lib.hid bs0
  clear b0 bs0
  go_upto_region 4 with (go_at_call 17; refine (make_any a b W H ps A m c _ HA.out HB.out ha0 hb0 hm (HR.out.below HB0.out)).mono ?_; rintro e w1 ⟨A1, c1, rfl, r1, hc1, _, b1⟩; rw [HPX.out] at r1; have R1 := Lib.hid r1; have B1 := Lib.hid (bstep HB0.out b1); have BS1 := Lib.hid (HBS0.out.belowS b1); clear r1 b1)
  -- the grid's box
  have bX := bal (bre w1) (.cells #[.int .i64 W, .int .i64 H, .slice A1 (W * H) c1] 25)
  have bg := Blk.new w1 25 #[.int .i64 W, .int .i64 H, .slice A1 (W * H) c1]
  have R2 := Lib.hid (R1.out.below bX)
  have B2 := Lib.hid (bstep B1.out bX)
  have BS2 := Lib.hid (BS1.out.belowS bX)
  obtain ⟨X2, hX2⟩ : ∃ X2, w1.alloc (.cells #[.int .i64 W, .int .i64 H, .slice A1 (W * H) c1] 25) = X2 := ⟨_, rfl⟩
  obtain ⟨gg, hgg⟩ : ∃ gg, w1.heap.size = gg := ⟨_, rfl⟩
  rw [hX2] at bg R2 B2 BS2 ⊢
  rw [hgg] at bg ⊢
  have HBG := Lib.hid bg
  have g0 := bg.cellV (i := 0) rfl
  have g1 := bg.cellV (i := 1) rfl
  have g2 := bg.cellV (i := 2) rfl
  clear hX2 hgg bX bg R1 B1 BS1
  go_upto_region 6 with (first
    | (go_at_call 12; refine (size_any _ _ _ _ _ _).mono ?_; rintro e w3 ⟨rfl, b3⟩; have B3 := Lib.hid b3; have u0 := (HBG.out.belowS b3).cellV (i := 0) (v := .int .i64 W) rfl; have u1 := (HBG.out.belowS b3).cellV (i := 1) (v := .int .i64 H) rfl; have u2 := (HBG.out.belowS b3).cellV (i := 2) (v := .slice A1 (W * H) c1) rfl; clear b3)
    | (go_at_call 18; refine (crop_any W H px 0 0 W H p A1 (W * H) c1 _ rfl (by omega) (by omega) (R2.out.below B3.out) (by omega) (by omega) (by omega) (by omega)).mono ?_; rintro e w4 ⟨A4, c4, rfl, r4, _, _, b4⟩; rw [crop_whole HPL.out p] at r4; have R4 := Lib.hid r4; have B4 := Lib.hid (bstep B3.out b4); clear r4 b4))
  have hn16 : W * H ≤ 16384 := mul_le_128 (by omega) (by omega)
  have bX4 := bal (bre w4) (.cells #[.int .i64 W, .int .i64 H, .slice A4 (W * H) c4] 25)
  have B5 := Lib.hid (bstep B4.out bX4)
  have R5 := Lib.hid (R4.out.below bX4)
  have bga := Lib.hid (Blk.new w4 25 #[.int .i64 W, .int .i64 H, .slice A4 (W * H) c4])
  obtain ⟨X5, hX5⟩ : ∃ X5, w4.alloc (.cells #[.int .i64 W, .int .i64 H, .slice A4 (W * H) c4] 25) = X5 := ⟨_, rfl⟩
  obtain ⟨ga, hga⟩ : ∃ ga, w4.heap.size = ga := ⟨_, rfl⟩
  rw [hX5] at B5 R5 bga ⊢
  rw [hga] at bga ⊢
  have HG5 := Lib.hid (HBG.out.belowS B5.out)
  have BS5 := Lib.hid (BS2.out.belowS B5.out)
  have HB5 := Lib.hid (bstep B2.out B5.out)
  have R15 := Lib.hid (R2.out.below B5.out)
  clear bX4 hX5 hga g0 g1 g2 R4 B4 B3 u0 u1 u2 B5 BS2 HBG R2 B2 HB0 HBS0
  have g0 := HG5.out.cellV (i := 0) (v := .int .i64 W) rfl
  have g1 := HG5.out.cellV (i := 1) (v := .int .i64 H) rfl
  have g2 := HG5.out.cellV (i := 2) (v := .slice A1 (W * H) c1) rfl
  have k0 := bga.out.cellV (i := 0) (v := .int .i64 W) rfl
  have k1 := bga.out.cellV (i := 1) (v := .int .i64 H) rfl
  have k2 := bga.out.cellV (i := 2) (v := .slice A4 (W * H) c4) rfl
  go_upto_region 8 with (go_at_call 25; refine (gsame_any W H px px A4 A1 (W * H) c4 c1 _ hn16 R5.out R15.out).mono ?_; rintro e w6 ⟨rfl, b6⟩; rw [decide_eq_true (rfl : px = px)]; have B6 := Lib.hid b6; clear b6)
  clear g0 g1 g2 k0 k1 k2
  have BS6 := Lib.hid (BS5.out.belowS B6.out)
  have s0 := BS6.out.cellV (i := 0) (v := .int .i8 s.x) rfl
  have s1 := BS6.out.cellV (i := 1) (v := .int .i8 s.y) rfl
  have s2 := BS6.out.cellV (i := 2) (v := .int .u8 s.w) rfl
  have s3 := BS6.out.cellV (i := 3) (v := .int .u8 s.h) rfl
  go_upto_region 9 with (go_at_call 33; refine (small_any s _ HSK.out).mono ?_; rintro e w7 ⟨rfl, b7⟩; have B7 := Lib.hid (bstep B6.out b7); clear b7)
  have bR8 := bal (bre w7) (.cells #[.int .i64 s.rc.X, .int .i64 s.rc.Y, .int .i64 s.rc.W, .int .i64 s.rc.H] 43)
  have HR8 := Lib.hid (Blk.new w7 43 #[.int .i64 s.rc.X, .int .i64 s.rc.Y, .int .i64 s.rc.W, .int .i64 s.rc.H])
  have B8 := Lib.hid (bstep B7.out bR8)
  obtain ⟨X8, hX8⟩ : ∃ X8, w7.alloc (.cells #[.int .i64 s.rc.X, .int .i64 s.rc.Y, .int .i64 s.rc.W, .int .i64 s.rc.H] 43) = X8 := ⟨_, rfl⟩
  obtain ⟨gr, hgr⟩ : ∃ gr, w7.heap.size = gr := ⟨_, rfl⟩
  rw [hX8] at HR8 B8 ⊢
  rw [hgr] at HR8 ⊢
  have HG8 := Lib.hid (HG5.out.belowS B8.out)
  have HB8 := Lib.hid (bstep HB5.out B8.out)
  have R18 := Lib.hid (R15.out.below B8.out)
  clear bR8 hX8 hgr s0 s1 s2 s3 B8 B7 BS6 B6 R5 bga
  obtain ⟨X, hX⟩ : ∃ X, s.rc.X = X := ⟨_, rfl⟩
  obtain ⟨Y, hY⟩ : ∃ Y, s.rc.Y = Y := ⟨_, rfl⟩
  obtain ⟨rw', hrw⟩ : ∃ rw', s.rc.W = rw' := ⟨_, rfl⟩
  obtain ⟨rh, hrh⟩ : ∃ rh, s.rc.H = rh := ⟨_, rfl⟩
  have hsm : (-128 ≤ X ∧ X ≤ 127) ∧ (-128 ≤ Y ∧ Y ≤ 127) ∧ (0 ≤ rw' ∧ rw' ≤ 31) ∧ (0 ≤ rh ∧ rh ≤ 31) := by
    have := HSK.out
    subst hX hY hrw hrh
    unfold Sm.ok at this
    dsimp only [Sm.rc]
    omega
  rw [hX, hY, hrw, hrh] at HR8
  rw [hX, hY, hrw, hrh]
  clear hX hY hrw hrh
  have g0 := HG8.out.cellV (i := 0) (v := .int .i64 W) rfl
  have g1 := HG8.out.cellV (i := 1) (v := .int .i64 H) rfl
  have g2 := HG8.out.cellV (i := 2) (v := .slice A1 (W * H) c1) rfl
  have r0 := HR8.out.cellV (i := 0) (v := .int .i64 X) rfl
  have r1 := HR8.out.cellV (i := 1) (v := .int .i64 Y) rfl
  have r2 := HR8.out.cellV (i := 2) (v := .int .i64 rw') rfl
  have r3 := HR8.out.cellV (i := 3) (v := .int .i64 rh) rfl
  go_upto_region 10 with (go_at_call 18; refine (crop_all W H px X Y rw' rh p A1 (W * H) c1 _ rfl (by omega) (by omega) R18.out).mono ?_; rintro e w9 ⟨cw, ch, A', n', c', er, rfl, r9, f9, b9⟩; have R9 := Lib.hid r9; have B9 := Lib.hid b9; clear r9 b9 f9)
  have bX9 := bal (bre w9) (.cells #[.int .i64 cw, .int .i64 ch, .slice A' n' c'] 25)
  have HC9 := Lib.hid (Blk.new w9 25 #[.int .i64 cw, .int .i64 ch, .slice A' n' c'])
  have B9z := bstep B9.out bX9
  have hcr := R9.out.below bX9
  obtain ⟨wz, hwz⟩ : ∃ wz, w9.alloc (.cells #[.int .i64 cw, .int .i64 ch, .slice A' n' c'] 25) = wz := ⟨_, rfl⟩
  obtain ⟨gc, hgc⟩ : ∃ gc, w9.heap.size = gc := ⟨_, rfl⟩
  rw [hwz] at HC9 B9z hcr ⊢
  rw [hgc] at HC9 ⊢
  have HGZ := Lib.hid (HG8.out.belowS B9z)
  have HRZ := Lib.hid (HR8.out.belowS B9z)
  have HRG := Lib.hid (R18.out.below B9z)
  have HBZ := Lib.hid (bstep HB8.out B9z)
  have HSZ := Lib.hid (HS.out.below (bstep HB8.out B9z))
  clear g0 g1 g2 r0 r1 r2 r3 hwz hgc bX9 B9z R9 B9 HG8 HR8 R18 HB8 BS5 HG5 HB5 R15
  have hcrop : (er == 0) = true → (rw' = cw ∧ rh = ch ∧ n' = cw * ch ∧ Rd wz A' (cw * ch) (U8 (cropL W H px X Y cw ch p))) := by
    intro h0
    rcases hcr with ⟨_, _, _, _, e⟩ | ⟨_, _, _, _, _, e⟩ | ⟨_, _, h3, h4, h5, _, h7⟩
    · rw [e] at h0; exact absurd h0 (by decide)
    · rw [e] at h0; exact absurd h0 (by decide)
    · exact ⟨h3, h4, h5, by rw [← h5]; exact h7⟩
  obtain ⟨sm, hsm0⟩ : ∃ sm, decide (layR W cw ch (cropL W H px X Y cw ch p) X Y [wholeR W H] px = px) = sm := ⟨_, rfl⟩
  have hfin : ((((((er == 0) && !sm) && decide (0 ≤ X)) && decide (0 ≤ Y)) && decide (X + rw' ≤ (W : Int))) && decide (Y + rh ≤ (H : Int))) = false := by
    refine Bool.eq_false_iff.2 fun h => ?_
    simp only [Bool.and_eq_true, decide_eq_true_eq] at h
    obtain ⟨⟨⟨⟨⟨h0, hs0⟩, h1⟩, h2⟩, h3⟩, h4⟩ := h
    obtain ⟨e1, e2, _, _⟩ := hcrop h0
    have hlay : layR W cw ch (cropL W H px X Y cw ch p) X Y [wholeR W H] px = px := by
      unfold layR
      split
      · exact lay_back HPL.out h1 h2 (by omega) (by omega)
      · rfl
    rw [hlay] at hsm0
    subst hsm0
    simp at hs0
  have HCRP := Lib.hid hcrop
  have HSM := Lib.hid hsm0
  have HFIN := Lib.hid hfin
  clear hcr hcrop hsm0 hfin
  go_cut [112] (fun s112 wy => s112 = .bool false ∧ Below wz.heap.size wz wy)
  case first =>
    have hwx : IntKind.i64.wrap (X + rw') = X + rw' := IntWalk.i64_in _ (by omega)
    have hwy : IntKind.i64.wrap (Y + rh) = Y + rh := IntWalk.i64_in _ (by omega)
    have g0 := HGZ.out.cellV (i := 0) (v := .int .i64 W) rfl
    cases he : (er == 0)
    · have HE := Lib.hid he
      go_quiet (fail)
      go_wp2_with fail
      go_meet
      exact ⟨rfl, undrewN _ _⟩
    · obtain ⟨e1, e2, e3, hr2⟩ := HCRP.out he
      have HE3 := Lib.hid e3
      have HRC := Lib.hid hr2
      have hcw : cw ≤ 128 ∧ ch ≤ 128 := by omega
      have he2 : er = 0 := by simpa using he
      subst he2
      clear e1 e2 e3 hr2 he
      have hfin := HFIN.out
      cases sm
      · have t : decide (0 ≤ X) = false ∨ (decide (0 ≤ X) = true ∧ (decide (0 ≤ Y) = false ∨ (decide (0 ≤ Y) = true ∧ (decide (X + rw' ≤ (W : Int)) = false ∨ (decide (X + rw' ≤ (W : Int)) = true ∧ decide (Y + rh ≤ (H : Int)) = false))))) := by
          cases h1 : decide (0 ≤ X)
          · exact .inl rfl
          · cases h2 : decide (0 ≤ Y)
            · exact .inr ⟨rfl, .inl rfl⟩
            · cases h3 : decide (X + rw' ≤ (W : Int))
              · exact .inr ⟨rfl, .inr ⟨rfl, .inl rfl⟩⟩
              · exact .inr ⟨rfl, .inr ⟨rfl, .inr ⟨rfl, by simpa [h1, h2, h3, -decide_eq_false_iff_not] using hfin⟩⟩⟩
        clear hfin
        rcases t with d1 | ⟨d1, d2 | ⟨d2, d3 | ⟨d3, d4⟩⟩⟩
        · refine wp_region_noPanic ?_
          refine wp_region_held_drew (S := (fun w' => w'.cell? ⟨gg, 0, none⟩ = some (.int .i64 W) ∧ w'.cell? ⟨gg, 1, none⟩ = some (.int .i64 H) ∧ w'.cell? ⟨gg, 2, none⟩ = some (.slice A1 (W * H) c1) ∧ w'.cell? ⟨gc, 0, none⟩ = some (.int .i64 cw) ∧ w'.cell? ⟨gc, 1, none⟩ = some (.int .i64 ch) ∧ w'.cell? ⟨gc, 2, none⟩ = some (.slice A' n' c') ∧ w'.cell? ⟨gr, 0, none⟩ = some (.int .i64 X) ∧ w'.cell? ⟨gr, 1, none⟩ = some (.int .i64 Y) ∧ w'.cell? ⟨gr, 2, none⟩ = some (.int .i64 rw') ∧ w'.cell? ⟨gr, 3, none⟩ = some (.int .i64 rh))) (by kernel_rfl) ?_ (fun hHeld => ?_)
          · (try dsimp only)
            exact ⟨(HGZ.out.belowS ((bre wz).drew)).cellV (i := 0) rfl, (HGZ.out.belowS ((bre wz).drew)).cellV (i := 1) rfl, (HGZ.out.belowS ((bre wz).drew)).cellV (i := 2) rfl, (HC9.out.belowS ((bre wz).drew)).cellV (i := 0) rfl, (HC9.out.belowS ((bre wz).drew)).cellV (i := 1) rfl, (HC9.out.belowS ((bre wz).drew)).cellV (i := 2) rfl, (HRZ.out.belowS ((bre wz).drew)).cellV (i := 0) rfl, (HRZ.out.belowS ((bre wz).drew)).cellV (i := 1) rfl, (HRZ.out.belowS ((bre wz).drew)).cellV (i := 2) rfl, (HRZ.out.belowS ((bre wz).drew)).cellV (i := 3) rfl⟩
          refine take_at 0 66 (.int .i64 0) rfl rfl (by kernel_rfl) (by kernel_rfl) (by kernel_rfl) (fun _ _ _ h => h) (Or.inl ⟨by rfl, ?_⟩) (by assumption) ?_
          · intro W0 hSw
            (try dsimp only at hSw)
            go_simp
          simp only [List.set_cons_zero, List.set_cons_succ]
          refine take_at 1 67 (.bool true) rfl rfl (by kernel_rfl) (by kernel_rfl) (by kernel_rfl) (fun _ _ _ h => h) (Or.inl ⟨by rfl, ?_⟩) (by assumption) ?_
          · intro W0 hSw
            (try dsimp only at hSw)
            go_simp
          simp only [List.set_cons_zero, List.set_cons_succ]
          refine take_at 2 68 (.bool true) rfl rfl (by kernel_rfl) (by kernel_rfl) (by kernel_rfl) (fun _ _ _ h => h) (Or.inl ⟨by rfl, ?_⟩) (by assumption) ?_
          · intro W0 hSw
            (try dsimp only at hSw)
            go_simp
          simp only [List.set_cons_zero, List.set_cons_succ]
          refine take_at 3 69 (.agg #[.int .i64 W, .int .i64 H, .slice A1 (W * H) c1]) rfl rfl (by kernel_rfl) (by kernel_rfl) (by kernel_rfl) (fun _ _ _ h => h) (Or.inl ⟨by rfl, ?_⟩) (by assumption) ?_
          · intro W0 hSw
            (try dsimp only at hSw)
            go_simp
          simp only [List.set_cons_zero, List.set_cons_succ]
          refine take_at 4 70 (.agg #[.int .i64 cw, .int .i64 ch, .slice A' n' c']) rfl rfl (by kernel_rfl) (by kernel_rfl) (by kernel_rfl) (fun _ _ _ h => h) (Or.inl ⟨by rfl, ?_⟩) (by assumption) ?_
          · intro W0 hSw
            (try dsimp only at hSw)
            go_simp
          simp only [List.set_cons_zero, List.set_cons_succ]
          refine take_at 5 71 (.pointer (some ⟨gr, 0, none⟩)) rfl rfl (by kernel_rfl) (by kernel_rfl) (by kernel_rfl) (fun _ _ _ h => h) (Or.inl ⟨by rfl, ?_⟩) (by assumption) ?_
          · intro W0 hSw
            (try dsimp only at hSw)
            go_simp
          simp only [List.set_cons_zero, List.set_cons_succ]
          refine take_at 6 72 (.int .i64 X) rfl rfl (by kernel_rfl) (by kernel_rfl) (by kernel_rfl) (fun _ _ _ h => h) (Or.inl ⟨by rfl, ?_⟩) (by assumption) ?_
          · intro W0 hSw
            (try dsimp only at hSw)
            go_simp
          simp only [List.set_cons_zero, List.set_cons_succ]
          refine take_at 7 73 (.pointer (some ⟨gr, 1, none⟩)) rfl rfl (by kernel_rfl) (by kernel_rfl) (by kernel_rfl) (fun _ _ _ h => h) (Or.inl ⟨by rfl, ?_⟩) (by assumption) ?_
          · intro W0 hSw
            (try dsimp only at hSw)
            go_simp
          simp only [List.set_cons_zero, List.set_cons_succ]
          refine take_at 8 74 (.int .i64 Y) rfl rfl (by kernel_rfl) (by kernel_rfl) (by kernel_rfl) (fun _ _ _ h => h) (Or.inl ⟨by rfl, ?_⟩) (by assumption) ?_
          · intro W0 hSw
            (try dsimp only at hSw)
            go_simp
          simp only [List.set_cons_zero, List.set_cons_succ]
          refine take_at 9 75 (.int .i64 W) rfl rfl (by kernel_rfl) (by kernel_rfl) (by kernel_rfl) (fun _ _ _ h => h) (Or.inl ⟨by rfl, ?_⟩) (by assumption) ?_
          · intro W0 hSw
            (try dsimp only at hSw)
            go_simp
          simp only [List.set_cons_zero, List.set_cons_succ]
          refine take_at 10 76 (.int .i64 H) rfl rfl (by kernel_rfl) (by kernel_rfl) (by kernel_rfl) (fun _ _ _ h => h) (Or.inl ⟨by rfl, ?_⟩) (by assumption) ?_
          · intro W0 hSw
            (try dsimp only at hSw)
            go_simp
          simp only [List.set_cons_zero, List.set_cons_succ]
          refine take_at 11 77 (.agg #[.int .i64 0, .int .i64 0, .int .i64 W, .int .i64 H]) rfl rfl (by kernel_rfl) (by kernel_rfl) (by kernel_rfl) (fun _ _ _ h => h) (Or.inl ⟨by rfl, ?_⟩) (by assumption) ?_
          · intro W0 hSw
            (try dsimp only at hSw)
            go_simp
          simp only [List.set_cons_zero, List.set_cons_succ]
          refine take_at 15 81 (.agg #[.int .i64 W, .int .i64 H, .slice A1 (W * H) c1]) rfl rfl (by kernel_rfl) (by kernel_rfl) (by kernel_rfl) (fun _ _ _ h => h) (Or.inl ⟨by rfl, ?_⟩) (by assumption) ?_
          · intro W0 hSw
            (try dsimp only at hSw)
            go_simp
          simp only [List.set_cons_zero, List.set_cons_succ]
          refine wpAnyH_ready (rs := [12]) (by kernel_rfl) (by simp) ?_
          refine AllReadyH.cons rfl (fun K hK => ?_) AllReadyH.nil
          go_simp
          have HBa := Lib.hid (show Below wz.heap.size wz (wz.drew.alloc (.cells #[.int .i64 0, .int .i64 0, .int .i64 W, .int .i64 H] 43)) from bal ((bre wz).drew) _)
          have HRa := Lib.hid (whole_rd (Blk.new wz.drew 43 #[.int .i64 0, .int .i64 0, .int .i64 W, .int .i64 H]))
          refine hK.out _ _ ?_ (fun hHeld => ?_)
          · (try dsimp only)
            exact ⟨(HGZ.out.belowS HBa.out).cellV (i := 0) rfl, (HGZ.out.belowS HBa.out).cellV (i := 1) rfl, (HGZ.out.belowS HBa.out).cellV (i := 2) rfl, (HC9.out.belowS HBa.out).cellV (i := 0) rfl, (HC9.out.belowS HBa.out).cellV (i := 1) rfl, (HC9.out.belowS HBa.out).cellV (i := 2) rfl, (HRZ.out.belowS HBa.out).cellV (i := 0) rfl, (HRZ.out.belowS HBa.out).cellV (i := 1) rfl, (HRZ.out.belowS HBa.out).cellV (i := 2) rfl, (HRZ.out.belowS HBa.out).cellV (i := 3) rfl⟩
          clear hK K
          refine wpAnyH_ready (rs := [13]) (by kernel_rfl) (by simp) ?_
          refine AllReadyH.cons rfl (fun K hK => ?_) AllReadyH.nil
          go_simp
          go_at_call 28
          refine (of_any _ 1 1 [wholeR W H] _ (by omega) HRa.out (by intro r hr; simp only [List.mem_singleton] at hr; subst hr; dsimp only [wholeR]; omega)).mono ?_
          rintro e w10 ⟨out, A3, c3, rfl, r10, hca, hpl, _, b10⟩
          obtain rfl := whole_of hW hH hca hpl
          have HR10 := Lib.hid r10
          have HB10 := Lib.hid (bstep HBa.out b10)
          clear hca hpl r10 b10
          refine hK.out _ _ ?_ (fun hHeld => ?_)
          · (try dsimp only)
            exact ⟨(HGZ.out.belowS HB10.out).cellV (i := 0) rfl, (HGZ.out.belowS HB10.out).cellV (i := 1) rfl, (HGZ.out.belowS HB10.out).cellV (i := 2) rfl, (HC9.out.belowS HB10.out).cellV (i := 0) rfl, (HC9.out.belowS HB10.out).cellV (i := 1) rfl, (HC9.out.belowS HB10.out).cellV (i := 2) rfl, (HRZ.out.belowS HB10.out).cellV (i := 0) rfl, (HRZ.out.belowS HB10.out).cellV (i := 1) rfl, (HRZ.out.belowS HB10.out).cellV (i := 2) rfl, (HRZ.out.belowS HB10.out).cellV (i := 3) rfl⟩
          clear hK K
          refine wpAnyH_ready (rs := [14]) (by kernel_rfl) (by simp) ?_
          refine AllReadyH.cons rfl (fun K hK => ?_) AllReadyH.nil
          go_simp
          go_at_call 31
          refine (lay_any W H cw ch px (cropL W H px X Y cw ch p) A1 A' A3 (W * H) c1 n' c' 1 c3 [wholeR W H] X Y _ hc1 rfl (by omega) (by omega) (HRG.out.below HB10.out) HE3.out hcw.1 hcw.2 (by rw [HE3.out]; exact HRC.out.below HB10.out) (by omega) HR10.out (by intro r hr; simp only [List.mem_singleton] at hr; subst hr; exact whole_cnt hW hH)).mono ?_
          rintro e w11 ⟨A5, c5, rfl, r11, _, b11⟩
          have HR11 := Lib.hid r11
          have HB11 := Lib.hid (bstep HB10.out b11)
          clear r11 b11
          refine hK.out _ _ ?_ (fun hHeld => ?_)
          · (try dsimp only)
            exact ⟨(HGZ.out.belowS HB11.out).cellV (i := 0) rfl, (HGZ.out.belowS HB11.out).cellV (i := 1) rfl, (HGZ.out.belowS HB11.out).cellV (i := 2) rfl, (HC9.out.belowS HB11.out).cellV (i := 0) rfl, (HC9.out.belowS HB11.out).cellV (i := 1) rfl, (HC9.out.belowS HB11.out).cellV (i := 2) rfl, (HRZ.out.belowS HB11.out).cellV (i := 0) rfl, (HRZ.out.belowS HB11.out).cellV (i := 1) rfl, (HRZ.out.belowS HB11.out).cellV (i := 2) rfl, (HRZ.out.belowS HB11.out).cellV (i := 3) rfl⟩
          clear hK K
          refine wpAnyH_ready (rs := [16]) (by kernel_rfl) (by simp) ?_
          refine AllReadyH.cons rfl (fun K hK => ?_) AllReadyH.nil
          go_simp
          go_at_call 25
          refine (gsame_any W H (layR W cw ch (cropL W H px X Y cw ch p) X Y [wholeR W H] px) px A5 A1 (W * H) c5 c1 _ hn16 HR11.out (HRG.out.below HB11.out)).mono ?_
          rintro e w12 ⟨rfl, b12⟩
          rw [HSM.out]
          have HB12 := Lib.hid (bstep HB11.out b12)
          clear b12
          refine hK.out _ _ ?_ (fun hHeld => ?_)
          · (try dsimp only)
            exact ⟨(HGZ.out.belowS HB12.out).cellV (i := 0) rfl, (HGZ.out.belowS HB12.out).cellV (i := 1) rfl, (HGZ.out.belowS HB12.out).cellV (i := 2) rfl, (HC9.out.belowS HB12.out).cellV (i := 0) rfl, (HC9.out.belowS HB12.out).cellV (i := 1) rfl, (HC9.out.belowS HB12.out).cellV (i := 2) rfl, (HRZ.out.belowS HB12.out).cellV (i := 0) rfl, (HRZ.out.belowS HB12.out).cellV (i := 1) rfl, (HRZ.out.belowS HB12.out).cellV (i := 2) rfl, (HRZ.out.belowS HB12.out).cellV (i := 3) rfl⟩
          clear hK K
          refine take_at 17 83 (.bool true) rfl rfl (by kernel_rfl) (by kernel_rfl) (by kernel_rfl) (fun _ _ _ h => h) (Or.inl ⟨by rfl, ?_⟩) (by assumption) ?_
          · intro W0 hSw
            (try dsimp only at hSw)
            go_simp
          simp only [List.set_cons_zero, List.set_cons_succ]
          refine take_at 18 84 (.bool true) rfl rfl (by kernel_rfl) (by kernel_rfl) (by kernel_rfl) (fun _ _ _ h => h) (Or.inl ⟨by rfl, ?_⟩) (by assumption) ?_
          · intro W0 hSw
            (try dsimp only at hSw)
            go_simp
          simp only [List.set_cons_zero, List.set_cons_succ]
          refine take_at 19 85 (.bool true) rfl rfl (by kernel_rfl) (by kernel_rfl) (by kernel_rfl) (fun _ _ _ h => h) (Or.inl ⟨by rfl, ?_⟩) (by assumption) ?_
          · intro W0 hSw
            (try dsimp only at hSw)
            go_simp
          simp only [List.set_cons_zero, List.set_cons_succ]
          refine take_at 20 86 (.pointer (some ⟨gr, 0, none⟩)) rfl rfl (by kernel_rfl) (by kernel_rfl) (by kernel_rfl) (fun _ _ _ h => h) (Or.inl ⟨by rfl, ?_⟩) (by assumption) ?_
          · intro W0 hSw
            (try dsimp only at hSw)
            go_simp
          simp only [List.set_cons_zero, List.set_cons_succ]
          refine take_at 21 87 (.int .i64 X) rfl rfl (by kernel_rfl) (by kernel_rfl) (by kernel_rfl) (fun _ _ _ h => h) (Or.inl ⟨by rfl, ?_⟩) (by assumption) ?_
          · intro W0 hSw
            (try dsimp only at hSw)
            go_simp
          simp only [List.set_cons_zero, List.set_cons_succ]
          refine take_at 22 88 (.bool false) rfl rfl (by kernel_rfl) (by kernel_rfl) (by kernel_rfl) (fun _ _ _ h => h) (Or.inl ⟨by rfl, ?_⟩) (by assumption) ?_
          · intro W0 hSw
            (try dsimp only at hSw)
            go_simp
          simp only [List.set_cons_zero, List.set_cons_succ]
          refine take_at 23 89 (.bool false) rfl rfl (by kernel_rfl) (by kernel_rfl) (by kernel_rfl) (fun _ _ _ h => h) (Or.inl ⟨by rfl, ?_⟩) (by assumption) ?_
          · intro W0 hSw
            (try dsimp only at hSw)
            go_simp
          simp only [List.set_cons_zero, List.set_cons_succ]
          refine take_at 24 90 (.bool false) rfl rfl (by kernel_rfl) (by kernel_rfl) (by kernel_rfl) (fun _ _ _ h => h) (Or.inl ⟨by rfl, ?_⟩) (by assumption) ?_
          · intro W0 hSw
            (try dsimp only at hSw)
            go_simp
          simp only [List.set_cons_zero, List.set_cons_succ]
          refine take_at 25 91 undef rfl rfl (by kernel_rfl) (by kernel_rfl) (by kernel_rfl) (fun _ _ _ h => h) (Or.inr ⟨by rfl, rfl⟩) (by assumption) ?_
          simp only [List.set_cons_zero, List.set_cons_succ]
          refine take_at 26 92 undef rfl rfl (by kernel_rfl) (by kernel_rfl) (by kernel_rfl) (fun _ _ _ h => h) (Or.inr ⟨by rfl, rfl⟩) (by assumption) ?_
          simp only [List.set_cons_zero, List.set_cons_succ]
          refine take_at 27 93 undef rfl rfl (by kernel_rfl) (by kernel_rfl) (by kernel_rfl) (fun _ _ _ h => h) (Or.inr ⟨by rfl, rfl⟩) (by assumption) ?_
          simp only [List.set_cons_zero, List.set_cons_succ]
          refine take_at 28 94 (.bool false) rfl rfl (by kernel_rfl) (by kernel_rfl) (by kernel_rfl) (fun _ _ _ h => h) (Or.inl ⟨by rfl, ?_⟩) (by assumption) ?_
          · intro W0 hSw
            (try dsimp only at hSw)
            go_simp
          simp only [List.set_cons_zero, List.set_cons_succ]
          refine take_at 29 95 (.bool false) rfl rfl (by kernel_rfl) (by kernel_rfl) (by kernel_rfl) (fun _ _ _ h => h) (Or.inl ⟨by rfl, ?_⟩) (by assumption) ?_
          · intro W0 hSw
            (try dsimp only at hSw)
            go_simp
          simp only [List.set_cons_zero, List.set_cons_succ]
          refine take_at 30 96 undef rfl rfl (by kernel_rfl) (by kernel_rfl) (by kernel_rfl) (fun _ _ _ h => h) (Or.inr ⟨by rfl, rfl⟩) (by assumption) ?_
          simp only [List.set_cons_zero, List.set_cons_succ]
          refine take_at 31 97 undef rfl rfl (by kernel_rfl) (by kernel_rfl) (by kernel_rfl) (fun _ _ _ h => h) (Or.inr ⟨by rfl, rfl⟩) (by assumption) ?_
          simp only [List.set_cons_zero, List.set_cons_succ]
          refine take_at 32 98 undef rfl rfl (by kernel_rfl) (by kernel_rfl) (by kernel_rfl) (fun _ _ _ h => h) (Or.inr ⟨by rfl, rfl⟩) (by assumption) ?_
          simp only [List.set_cons_zero, List.set_cons_succ]
          refine take_at 33 99 undef rfl rfl (by kernel_rfl) (by kernel_rfl) (by kernel_rfl) (fun _ _ _ h => h) (Or.inr ⟨by rfl, rfl⟩) (by assumption) ?_
          simp only [List.set_cons_zero, List.set_cons_succ]
          refine take_at 34 100 undef rfl rfl (by kernel_rfl) (by kernel_rfl) (by kernel_rfl) (fun _ _ _ h => h) (Or.inr ⟨by rfl, rfl⟩) (by assumption) ?_
          simp only [List.set_cons_zero, List.set_cons_succ]
          refine take_at 35 101 undef rfl rfl (by kernel_rfl) (by kernel_rfl) (by kernel_rfl) (fun _ _ _ h => h) (Or.inr ⟨by rfl, rfl⟩) (by assumption) ?_
          simp only [List.set_cons_zero, List.set_cons_succ]
          refine take_at 36 102 undef rfl rfl (by kernel_rfl) (by kernel_rfl) (by kernel_rfl) (fun _ _ _ h => h) (Or.inr ⟨by rfl, rfl⟩) (by assumption) ?_
          simp only [List.set_cons_zero, List.set_cons_succ]
          refine take_at 37 103 (.bool false) rfl rfl (by kernel_rfl) (by kernel_rfl) (by kernel_rfl) (fun _ _ _ h => h) (Or.inl ⟨by rfl, ?_⟩) (by assumption) ?_
          · intro W0 hSw
            (try dsimp only at hSw)
            go_simp
          simp only [List.set_cons_zero, List.set_cons_succ]
          refine take_at 38 104 (.bool false) rfl rfl (by kernel_rfl) (by kernel_rfl) (by kernel_rfl) (fun _ _ _ h => h) (Or.inl ⟨by rfl, ?_⟩) (by assumption) ?_
          · intro W0 hSw
            (try dsimp only at hSw)
            go_simp
          simp only [List.set_cons_zero, List.set_cons_succ]
          refine take_at 39 105 undef rfl rfl (by kernel_rfl) (by kernel_rfl) (by kernel_rfl) (fun _ _ _ h => h) (Or.inr ⟨by rfl, rfl⟩) (by assumption) ?_
          simp only [List.set_cons_zero, List.set_cons_succ]
          refine take_at 40 106 undef rfl rfl (by kernel_rfl) (by kernel_rfl) (by kernel_rfl) (fun _ _ _ h => h) (Or.inr ⟨by rfl, rfl⟩) (by assumption) ?_
          simp only [List.set_cons_zero, List.set_cons_succ]
          refine take_at 41 107 undef rfl rfl (by kernel_rfl) (by kernel_rfl) (by kernel_rfl) (fun _ _ _ h => h) (Or.inr ⟨by rfl, rfl⟩) (by assumption) ?_
          simp only [List.set_cons_zero, List.set_cons_succ]
          refine take_at 42 108 undef rfl rfl (by kernel_rfl) (by kernel_rfl) (by kernel_rfl) (fun _ _ _ h => h) (Or.inr ⟨by rfl, rfl⟩) (by assumption) ?_
          simp only [List.set_cons_zero, List.set_cons_succ]
          refine take_at 43 109 undef rfl rfl (by kernel_rfl) (by kernel_rfl) (by kernel_rfl) (fun _ _ _ h => h) (Or.inr ⟨by rfl, rfl⟩) (by assumption) ?_
          simp only [List.set_cons_zero, List.set_cons_succ]
          refine take_at 44 110 undef rfl rfl (by kernel_rfl) (by kernel_rfl) (by kernel_rfl) (fun _ _ _ h => h) (Or.inr ⟨by rfl, rfl⟩) (by assumption) ?_
          simp only [List.set_cons_zero, List.set_cons_succ]
          refine take_at 45 111 undef rfl rfl (by kernel_rfl) (by kernel_rfl) (by kernel_rfl) (fun _ _ _ h => h) (Or.inr ⟨by rfl, rfl⟩) (by assumption) ?_
          simp only [List.set_cons_zero, List.set_cons_succ]
          refine take_at 46 112 (.bool false) rfl rfl (by kernel_rfl) (by kernel_rfl) (by kernel_rfl) (fun _ _ _ h => h) (Or.inl ⟨by rfl, ?_⟩) (by assumption) ?_
          · intro W0 hSw
            (try dsimp only at hSw)
            go_simp
          simp only [List.set_cons_zero, List.set_cons_succ]
          refine wpAnyH_done (by kernel_rfl) ?_ _
          refine NoPanic.normal ?_
          all_goals
            go_wp2_with fail
            go_meet
            exact ⟨rfl, HB12.out⟩
        · refine wp_region_noPanic ?_
          refine wp_region_held_drew (S := (fun w' => w'.cell? ⟨gg, 0, none⟩ = some (.int .i64 W) ∧ w'.cell? ⟨gg, 1, none⟩ = some (.int .i64 H) ∧ w'.cell? ⟨gg, 2, none⟩ = some (.slice A1 (W * H) c1) ∧ w'.cell? ⟨gc, 0, none⟩ = some (.int .i64 cw) ∧ w'.cell? ⟨gc, 1, none⟩ = some (.int .i64 ch) ∧ w'.cell? ⟨gc, 2, none⟩ = some (.slice A' n' c') ∧ w'.cell? ⟨gr, 0, none⟩ = some (.int .i64 X) ∧ w'.cell? ⟨gr, 1, none⟩ = some (.int .i64 Y) ∧ w'.cell? ⟨gr, 2, none⟩ = some (.int .i64 rw') ∧ w'.cell? ⟨gr, 3, none⟩ = some (.int .i64 rh))) (by kernel_rfl) ?_ (fun hHeld => ?_)
          · (try dsimp only)
            exact ⟨(HGZ.out.belowS ((bre wz).drew)).cellV (i := 0) rfl, (HGZ.out.belowS ((bre wz).drew)).cellV (i := 1) rfl, (HGZ.out.belowS ((bre wz).drew)).cellV (i := 2) rfl, (HC9.out.belowS ((bre wz).drew)).cellV (i := 0) rfl, (HC9.out.belowS ((bre wz).drew)).cellV (i := 1) rfl, (HC9.out.belowS ((bre wz).drew)).cellV (i := 2) rfl, (HRZ.out.belowS ((bre wz).drew)).cellV (i := 0) rfl, (HRZ.out.belowS ((bre wz).drew)).cellV (i := 1) rfl, (HRZ.out.belowS ((bre wz).drew)).cellV (i := 2) rfl, (HRZ.out.belowS ((bre wz).drew)).cellV (i := 3) rfl⟩
          refine take_at 0 66 (.int .i64 0) rfl rfl (by kernel_rfl) (by kernel_rfl) (by kernel_rfl) (fun _ _ _ h => h) (Or.inl ⟨by rfl, ?_⟩) (by assumption) ?_
          · intro W0 hSw
            (try dsimp only at hSw)
            go_simp
          simp only [List.set_cons_zero, List.set_cons_succ]
          refine take_at 1 67 (.bool true) rfl rfl (by kernel_rfl) (by kernel_rfl) (by kernel_rfl) (fun _ _ _ h => h) (Or.inl ⟨by rfl, ?_⟩) (by assumption) ?_
          · intro W0 hSw
            (try dsimp only at hSw)
            go_simp
          simp only [List.set_cons_zero, List.set_cons_succ]
          refine take_at 2 68 (.bool true) rfl rfl (by kernel_rfl) (by kernel_rfl) (by kernel_rfl) (fun _ _ _ h => h) (Or.inl ⟨by rfl, ?_⟩) (by assumption) ?_
          · intro W0 hSw
            (try dsimp only at hSw)
            go_simp
          simp only [List.set_cons_zero, List.set_cons_succ]
          refine take_at 3 69 (.agg #[.int .i64 W, .int .i64 H, .slice A1 (W * H) c1]) rfl rfl (by kernel_rfl) (by kernel_rfl) (by kernel_rfl) (fun _ _ _ h => h) (Or.inl ⟨by rfl, ?_⟩) (by assumption) ?_
          · intro W0 hSw
            (try dsimp only at hSw)
            go_simp
          simp only [List.set_cons_zero, List.set_cons_succ]
          refine take_at 4 70 (.agg #[.int .i64 cw, .int .i64 ch, .slice A' n' c']) rfl rfl (by kernel_rfl) (by kernel_rfl) (by kernel_rfl) (fun _ _ _ h => h) (Or.inl ⟨by rfl, ?_⟩) (by assumption) ?_
          · intro W0 hSw
            (try dsimp only at hSw)
            go_simp
          simp only [List.set_cons_zero, List.set_cons_succ]
          refine take_at 5 71 (.pointer (some ⟨gr, 0, none⟩)) rfl rfl (by kernel_rfl) (by kernel_rfl) (by kernel_rfl) (fun _ _ _ h => h) (Or.inl ⟨by rfl, ?_⟩) (by assumption) ?_
          · intro W0 hSw
            (try dsimp only at hSw)
            go_simp
          simp only [List.set_cons_zero, List.set_cons_succ]
          refine take_at 6 72 (.int .i64 X) rfl rfl (by kernel_rfl) (by kernel_rfl) (by kernel_rfl) (fun _ _ _ h => h) (Or.inl ⟨by rfl, ?_⟩) (by assumption) ?_
          · intro W0 hSw
            (try dsimp only at hSw)
            go_simp
          simp only [List.set_cons_zero, List.set_cons_succ]
          refine take_at 7 73 (.pointer (some ⟨gr, 1, none⟩)) rfl rfl (by kernel_rfl) (by kernel_rfl) (by kernel_rfl) (fun _ _ _ h => h) (Or.inl ⟨by rfl, ?_⟩) (by assumption) ?_
          · intro W0 hSw
            (try dsimp only at hSw)
            go_simp
          simp only [List.set_cons_zero, List.set_cons_succ]
          refine take_at 8 74 (.int .i64 Y) rfl rfl (by kernel_rfl) (by kernel_rfl) (by kernel_rfl) (fun _ _ _ h => h) (Or.inl ⟨by rfl, ?_⟩) (by assumption) ?_
          · intro W0 hSw
            (try dsimp only at hSw)
            go_simp
          simp only [List.set_cons_zero, List.set_cons_succ]
          refine take_at 9 75 (.int .i64 W) rfl rfl (by kernel_rfl) (by kernel_rfl) (by kernel_rfl) (fun _ _ _ h => h) (Or.inl ⟨by rfl, ?_⟩) (by assumption) ?_
          · intro W0 hSw
            (try dsimp only at hSw)
            go_simp
          simp only [List.set_cons_zero, List.set_cons_succ]
          refine take_at 10 76 (.int .i64 H) rfl rfl (by kernel_rfl) (by kernel_rfl) (by kernel_rfl) (fun _ _ _ h => h) (Or.inl ⟨by rfl, ?_⟩) (by assumption) ?_
          · intro W0 hSw
            (try dsimp only at hSw)
            go_simp
          simp only [List.set_cons_zero, List.set_cons_succ]
          refine take_at 11 77 (.agg #[.int .i64 0, .int .i64 0, .int .i64 W, .int .i64 H]) rfl rfl (by kernel_rfl) (by kernel_rfl) (by kernel_rfl) (fun _ _ _ h => h) (Or.inl ⟨by rfl, ?_⟩) (by assumption) ?_
          · intro W0 hSw
            (try dsimp only at hSw)
            go_simp
          simp only [List.set_cons_zero, List.set_cons_succ]
          refine take_at 15 81 (.agg #[.int .i64 W, .int .i64 H, .slice A1 (W * H) c1]) rfl rfl (by kernel_rfl) (by kernel_rfl) (by kernel_rfl) (fun _ _ _ h => h) (Or.inl ⟨by rfl, ?_⟩) (by assumption) ?_
          · intro W0 hSw
            (try dsimp only at hSw)
            go_simp
          simp only [List.set_cons_zero, List.set_cons_succ]
          refine wpAnyH_ready (rs := [12]) (by kernel_rfl) (by simp) ?_
          refine AllReadyH.cons rfl (fun K hK => ?_) AllReadyH.nil
          go_simp
          have HBa := Lib.hid (show Below wz.heap.size wz (wz.drew.alloc (.cells #[.int .i64 0, .int .i64 0, .int .i64 W, .int .i64 H] 43)) from bal ((bre wz).drew) _)
          have HRa := Lib.hid (whole_rd (Blk.new wz.drew 43 #[.int .i64 0, .int .i64 0, .int .i64 W, .int .i64 H]))
          refine hK.out _ _ ?_ (fun hHeld => ?_)
          · (try dsimp only)
            exact ⟨(HGZ.out.belowS HBa.out).cellV (i := 0) rfl, (HGZ.out.belowS HBa.out).cellV (i := 1) rfl, (HGZ.out.belowS HBa.out).cellV (i := 2) rfl, (HC9.out.belowS HBa.out).cellV (i := 0) rfl, (HC9.out.belowS HBa.out).cellV (i := 1) rfl, (HC9.out.belowS HBa.out).cellV (i := 2) rfl, (HRZ.out.belowS HBa.out).cellV (i := 0) rfl, (HRZ.out.belowS HBa.out).cellV (i := 1) rfl, (HRZ.out.belowS HBa.out).cellV (i := 2) rfl, (HRZ.out.belowS HBa.out).cellV (i := 3) rfl⟩
          clear hK K
          refine wpAnyH_ready (rs := [13]) (by kernel_rfl) (by simp) ?_
          refine AllReadyH.cons rfl (fun K hK => ?_) AllReadyH.nil
          go_simp
          go_at_call 28
          refine (of_any _ 1 1 [wholeR W H] _ (by omega) HRa.out (by intro r hr; simp only [List.mem_singleton] at hr; subst hr; dsimp only [wholeR]; omega)).mono ?_
          rintro e w10 ⟨out, A3, c3, rfl, r10, hca, hpl, _, b10⟩
          obtain rfl := whole_of hW hH hca hpl
          have HR10 := Lib.hid r10
          have HB10 := Lib.hid (bstep HBa.out b10)
          clear hca hpl r10 b10
          refine hK.out _ _ ?_ (fun hHeld => ?_)
          · (try dsimp only)
            exact ⟨(HGZ.out.belowS HB10.out).cellV (i := 0) rfl, (HGZ.out.belowS HB10.out).cellV (i := 1) rfl, (HGZ.out.belowS HB10.out).cellV (i := 2) rfl, (HC9.out.belowS HB10.out).cellV (i := 0) rfl, (HC9.out.belowS HB10.out).cellV (i := 1) rfl, (HC9.out.belowS HB10.out).cellV (i := 2) rfl, (HRZ.out.belowS HB10.out).cellV (i := 0) rfl, (HRZ.out.belowS HB10.out).cellV (i := 1) rfl, (HRZ.out.belowS HB10.out).cellV (i := 2) rfl, (HRZ.out.belowS HB10.out).cellV (i := 3) rfl⟩
          clear hK K
          refine wpAnyH_ready (rs := [14]) (by kernel_rfl) (by simp) ?_
          refine AllReadyH.cons rfl (fun K hK => ?_) AllReadyH.nil
          go_simp
          go_at_call 31
          refine (lay_any W H cw ch px (cropL W H px X Y cw ch p) A1 A' A3 (W * H) c1 n' c' 1 c3 [wholeR W H] X Y _ hc1 rfl (by omega) (by omega) (HRG.out.below HB10.out) HE3.out hcw.1 hcw.2 (by rw [HE3.out]; exact HRC.out.below HB10.out) (by omega) HR10.out (by intro r hr; simp only [List.mem_singleton] at hr; subst hr; exact whole_cnt hW hH)).mono ?_
          rintro e w11 ⟨A5, c5, rfl, r11, _, b11⟩
          have HR11 := Lib.hid r11
          have HB11 := Lib.hid (bstep HB10.out b11)
          clear r11 b11
          refine hK.out _ _ ?_ (fun hHeld => ?_)
          · (try dsimp only)
            exact ⟨(HGZ.out.belowS HB11.out).cellV (i := 0) rfl, (HGZ.out.belowS HB11.out).cellV (i := 1) rfl, (HGZ.out.belowS HB11.out).cellV (i := 2) rfl, (HC9.out.belowS HB11.out).cellV (i := 0) rfl, (HC9.out.belowS HB11.out).cellV (i := 1) rfl, (HC9.out.belowS HB11.out).cellV (i := 2) rfl, (HRZ.out.belowS HB11.out).cellV (i := 0) rfl, (HRZ.out.belowS HB11.out).cellV (i := 1) rfl, (HRZ.out.belowS HB11.out).cellV (i := 2) rfl, (HRZ.out.belowS HB11.out).cellV (i := 3) rfl⟩
          clear hK K
          refine wpAnyH_ready (rs := [16]) (by kernel_rfl) (by simp) ?_
          refine AllReadyH.cons rfl (fun K hK => ?_) AllReadyH.nil
          go_simp
          go_at_call 25
          refine (gsame_any W H (layR W cw ch (cropL W H px X Y cw ch p) X Y [wholeR W H] px) px A5 A1 (W * H) c5 c1 _ hn16 HR11.out (HRG.out.below HB11.out)).mono ?_
          rintro e w12 ⟨rfl, b12⟩
          rw [HSM.out]
          have HB12 := Lib.hid (bstep HB11.out b12)
          clear b12
          refine hK.out _ _ ?_ (fun hHeld => ?_)
          · (try dsimp only)
            exact ⟨(HGZ.out.belowS HB12.out).cellV (i := 0) rfl, (HGZ.out.belowS HB12.out).cellV (i := 1) rfl, (HGZ.out.belowS HB12.out).cellV (i := 2) rfl, (HC9.out.belowS HB12.out).cellV (i := 0) rfl, (HC9.out.belowS HB12.out).cellV (i := 1) rfl, (HC9.out.belowS HB12.out).cellV (i := 2) rfl, (HRZ.out.belowS HB12.out).cellV (i := 0) rfl, (HRZ.out.belowS HB12.out).cellV (i := 1) rfl, (HRZ.out.belowS HB12.out).cellV (i := 2) rfl, (HRZ.out.belowS HB12.out).cellV (i := 3) rfl⟩
          clear hK K
          refine take_at 17 83 (.bool true) rfl rfl (by kernel_rfl) (by kernel_rfl) (by kernel_rfl) (fun _ _ _ h => h) (Or.inl ⟨by rfl, ?_⟩) (by assumption) ?_
          · intro W0 hSw
            (try dsimp only at hSw)
            go_simp
          simp only [List.set_cons_zero, List.set_cons_succ]
          refine take_at 18 84 (.bool true) rfl rfl (by kernel_rfl) (by kernel_rfl) (by kernel_rfl) (fun _ _ _ h => h) (Or.inl ⟨by rfl, ?_⟩) (by assumption) ?_
          · intro W0 hSw
            (try dsimp only at hSw)
            go_simp
          simp only [List.set_cons_zero, List.set_cons_succ]
          refine take_at 19 85 (.bool true) rfl rfl (by kernel_rfl) (by kernel_rfl) (by kernel_rfl) (fun _ _ _ h => h) (Or.inl ⟨by rfl, ?_⟩) (by assumption) ?_
          · intro W0 hSw
            (try dsimp only at hSw)
            go_simp
          simp only [List.set_cons_zero, List.set_cons_succ]
          refine take_at 20 86 (.pointer (some ⟨gr, 0, none⟩)) rfl rfl (by kernel_rfl) (by kernel_rfl) (by kernel_rfl) (fun _ _ _ h => h) (Or.inl ⟨by rfl, ?_⟩) (by assumption) ?_
          · intro W0 hSw
            (try dsimp only at hSw)
            go_simp
          simp only [List.set_cons_zero, List.set_cons_succ]
          refine take_at 21 87 (.int .i64 X) rfl rfl (by kernel_rfl) (by kernel_rfl) (by kernel_rfl) (fun _ _ _ h => h) (Or.inl ⟨by rfl, ?_⟩) (by assumption) ?_
          · intro W0 hSw
            (try dsimp only at hSw)
            go_simp
          simp only [List.set_cons_zero, List.set_cons_succ]
          refine take_at 22 88 (.bool true) rfl rfl (by kernel_rfl) (by kernel_rfl) (by kernel_rfl) (fun _ _ _ h => h) (Or.inl ⟨by rfl, ?_⟩) (by assumption) ?_
          · intro W0 hSw
            (try dsimp only at hSw)
            go_simp
          simp only [List.set_cons_zero, List.set_cons_succ]
          refine take_at 23 89 (.bool true) rfl rfl (by kernel_rfl) (by kernel_rfl) (by kernel_rfl) (fun _ _ _ h => h) (Or.inl ⟨by rfl, ?_⟩) (by assumption) ?_
          · intro W0 hSw
            (try dsimp only at hSw)
            go_simp
          simp only [List.set_cons_zero, List.set_cons_succ]
          refine take_at 24 90 (.bool true) rfl rfl (by kernel_rfl) (by kernel_rfl) (by kernel_rfl) (fun _ _ _ h => h) (Or.inl ⟨by rfl, ?_⟩) (by assumption) ?_
          · intro W0 hSw
            (try dsimp only at hSw)
            go_simp
          simp only [List.set_cons_zero, List.set_cons_succ]
          refine take_at 25 91 (.pointer (some ⟨gr, 1, none⟩)) rfl rfl (by kernel_rfl) (by kernel_rfl) (by kernel_rfl) (fun _ _ _ h => h) (Or.inl ⟨by rfl, ?_⟩) (by assumption) ?_
          · intro W0 hSw
            (try dsimp only at hSw)
            go_simp
          simp only [List.set_cons_zero, List.set_cons_succ]
          refine take_at 26 92 (.int .i64 Y) rfl rfl (by kernel_rfl) (by kernel_rfl) (by kernel_rfl) (fun _ _ _ h => h) (Or.inl ⟨by rfl, ?_⟩) (by assumption) ?_
          · intro W0 hSw
            (try dsimp only at hSw)
            go_simp
          simp only [List.set_cons_zero, List.set_cons_succ]
          refine take_at 27 93 (.bool false) rfl rfl (by kernel_rfl) (by kernel_rfl) (by kernel_rfl) (fun _ _ _ h => h) (Or.inl ⟨by rfl, ?_⟩) (by assumption) ?_
          · intro W0 hSw
            (try dsimp only at hSw)
            go_simp
          simp only [List.set_cons_zero, List.set_cons_succ]
          refine take_at 28 94 (.bool false) rfl rfl (by kernel_rfl) (by kernel_rfl) (by kernel_rfl) (fun _ _ _ h => h) (Or.inl ⟨by rfl, ?_⟩) (by assumption) ?_
          · intro W0 hSw
            (try dsimp only at hSw)
            go_simp
          simp only [List.set_cons_zero, List.set_cons_succ]
          refine take_at 29 95 (.bool false) rfl rfl (by kernel_rfl) (by kernel_rfl) (by kernel_rfl) (fun _ _ _ h => h) (Or.inl ⟨by rfl, ?_⟩) (by assumption) ?_
          · intro W0 hSw
            (try dsimp only at hSw)
            go_simp
          simp only [List.set_cons_zero, List.set_cons_succ]
          refine take_at 30 96 undef rfl rfl (by kernel_rfl) (by kernel_rfl) (by kernel_rfl) (fun _ _ _ h => h) (Or.inr ⟨by rfl, rfl⟩) (by assumption) ?_
          simp only [List.set_cons_zero, List.set_cons_succ]
          refine take_at 31 97 undef rfl rfl (by kernel_rfl) (by kernel_rfl) (by kernel_rfl) (fun _ _ _ h => h) (Or.inr ⟨by rfl, rfl⟩) (by assumption) ?_
          simp only [List.set_cons_zero, List.set_cons_succ]
          refine take_at 32 98 undef rfl rfl (by kernel_rfl) (by kernel_rfl) (by kernel_rfl) (fun _ _ _ h => h) (Or.inr ⟨by rfl, rfl⟩) (by assumption) ?_
          simp only [List.set_cons_zero, List.set_cons_succ]
          refine take_at 33 99 undef rfl rfl (by kernel_rfl) (by kernel_rfl) (by kernel_rfl) (fun _ _ _ h => h) (Or.inr ⟨by rfl, rfl⟩) (by assumption) ?_
          simp only [List.set_cons_zero, List.set_cons_succ]
          refine take_at 34 100 undef rfl rfl (by kernel_rfl) (by kernel_rfl) (by kernel_rfl) (fun _ _ _ h => h) (Or.inr ⟨by rfl, rfl⟩) (by assumption) ?_
          simp only [List.set_cons_zero, List.set_cons_succ]
          refine take_at 35 101 undef rfl rfl (by kernel_rfl) (by kernel_rfl) (by kernel_rfl) (fun _ _ _ h => h) (Or.inr ⟨by rfl, rfl⟩) (by assumption) ?_
          simp only [List.set_cons_zero, List.set_cons_succ]
          refine take_at 36 102 undef rfl rfl (by kernel_rfl) (by kernel_rfl) (by kernel_rfl) (fun _ _ _ h => h) (Or.inr ⟨by rfl, rfl⟩) (by assumption) ?_
          simp only [List.set_cons_zero, List.set_cons_succ]
          refine take_at 37 103 (.bool false) rfl rfl (by kernel_rfl) (by kernel_rfl) (by kernel_rfl) (fun _ _ _ h => h) (Or.inl ⟨by rfl, ?_⟩) (by assumption) ?_
          · intro W0 hSw
            (try dsimp only at hSw)
            go_simp
          simp only [List.set_cons_zero, List.set_cons_succ]
          refine take_at 38 104 (.bool false) rfl rfl (by kernel_rfl) (by kernel_rfl) (by kernel_rfl) (fun _ _ _ h => h) (Or.inl ⟨by rfl, ?_⟩) (by assumption) ?_
          · intro W0 hSw
            (try dsimp only at hSw)
            go_simp
          simp only [List.set_cons_zero, List.set_cons_succ]
          refine take_at 39 105 undef rfl rfl (by kernel_rfl) (by kernel_rfl) (by kernel_rfl) (fun _ _ _ h => h) (Or.inr ⟨by rfl, rfl⟩) (by assumption) ?_
          simp only [List.set_cons_zero, List.set_cons_succ]
          refine take_at 40 106 undef rfl rfl (by kernel_rfl) (by kernel_rfl) (by kernel_rfl) (fun _ _ _ h => h) (Or.inr ⟨by rfl, rfl⟩) (by assumption) ?_
          simp only [List.set_cons_zero, List.set_cons_succ]
          refine take_at 41 107 undef rfl rfl (by kernel_rfl) (by kernel_rfl) (by kernel_rfl) (fun _ _ _ h => h) (Or.inr ⟨by rfl, rfl⟩) (by assumption) ?_
          simp only [List.set_cons_zero, List.set_cons_succ]
          refine take_at 42 108 undef rfl rfl (by kernel_rfl) (by kernel_rfl) (by kernel_rfl) (fun _ _ _ h => h) (Or.inr ⟨by rfl, rfl⟩) (by assumption) ?_
          simp only [List.set_cons_zero, List.set_cons_succ]
          refine take_at 43 109 undef rfl rfl (by kernel_rfl) (by kernel_rfl) (by kernel_rfl) (fun _ _ _ h => h) (Or.inr ⟨by rfl, rfl⟩) (by assumption) ?_
          simp only [List.set_cons_zero, List.set_cons_succ]
          refine take_at 44 110 undef rfl rfl (by kernel_rfl) (by kernel_rfl) (by kernel_rfl) (fun _ _ _ h => h) (Or.inr ⟨by rfl, rfl⟩) (by assumption) ?_
          simp only [List.set_cons_zero, List.set_cons_succ]
          refine take_at 45 111 undef rfl rfl (by kernel_rfl) (by kernel_rfl) (by kernel_rfl) (fun _ _ _ h => h) (Or.inr ⟨by rfl, rfl⟩) (by assumption) ?_
          simp only [List.set_cons_zero, List.set_cons_succ]
          refine take_at 46 112 (.bool false) rfl rfl (by kernel_rfl) (by kernel_rfl) (by kernel_rfl) (fun _ _ _ h => h) (Or.inl ⟨by rfl, ?_⟩) (by assumption) ?_
          · intro W0 hSw
            (try dsimp only at hSw)
            go_simp
          simp only [List.set_cons_zero, List.set_cons_succ]
          refine wpAnyH_done (by kernel_rfl) ?_ _
          refine NoPanic.normal ?_
          all_goals
            go_wp2_with fail
            go_meet
            exact ⟨rfl, HB12.out⟩
        · refine wp_region_noPanic ?_
          refine wp_region_held_drew (S := (fun w' => w'.cell? ⟨gg, 0, none⟩ = some (.int .i64 W) ∧ w'.cell? ⟨gg, 1, none⟩ = some (.int .i64 H) ∧ w'.cell? ⟨gg, 2, none⟩ = some (.slice A1 (W * H) c1) ∧ w'.cell? ⟨gc, 0, none⟩ = some (.int .i64 cw) ∧ w'.cell? ⟨gc, 1, none⟩ = some (.int .i64 ch) ∧ w'.cell? ⟨gc, 2, none⟩ = some (.slice A' n' c') ∧ w'.cell? ⟨gr, 0, none⟩ = some (.int .i64 X) ∧ w'.cell? ⟨gr, 1, none⟩ = some (.int .i64 Y) ∧ w'.cell? ⟨gr, 2, none⟩ = some (.int .i64 rw') ∧ w'.cell? ⟨gr, 3, none⟩ = some (.int .i64 rh))) (by kernel_rfl) ?_ (fun hHeld => ?_)
          · (try dsimp only)
            exact ⟨(HGZ.out.belowS ((bre wz).drew)).cellV (i := 0) rfl, (HGZ.out.belowS ((bre wz).drew)).cellV (i := 1) rfl, (HGZ.out.belowS ((bre wz).drew)).cellV (i := 2) rfl, (HC9.out.belowS ((bre wz).drew)).cellV (i := 0) rfl, (HC9.out.belowS ((bre wz).drew)).cellV (i := 1) rfl, (HC9.out.belowS ((bre wz).drew)).cellV (i := 2) rfl, (HRZ.out.belowS ((bre wz).drew)).cellV (i := 0) rfl, (HRZ.out.belowS ((bre wz).drew)).cellV (i := 1) rfl, (HRZ.out.belowS ((bre wz).drew)).cellV (i := 2) rfl, (HRZ.out.belowS ((bre wz).drew)).cellV (i := 3) rfl⟩
          refine take_at 0 66 (.int .i64 0) rfl rfl (by kernel_rfl) (by kernel_rfl) (by kernel_rfl) (fun _ _ _ h => h) (Or.inl ⟨by rfl, ?_⟩) (by assumption) ?_
          · intro W0 hSw
            (try dsimp only at hSw)
            go_simp
          simp only [List.set_cons_zero, List.set_cons_succ]
          refine take_at 1 67 (.bool true) rfl rfl (by kernel_rfl) (by kernel_rfl) (by kernel_rfl) (fun _ _ _ h => h) (Or.inl ⟨by rfl, ?_⟩) (by assumption) ?_
          · intro W0 hSw
            (try dsimp only at hSw)
            go_simp
          simp only [List.set_cons_zero, List.set_cons_succ]
          refine take_at 2 68 (.bool true) rfl rfl (by kernel_rfl) (by kernel_rfl) (by kernel_rfl) (fun _ _ _ h => h) (Or.inl ⟨by rfl, ?_⟩) (by assumption) ?_
          · intro W0 hSw
            (try dsimp only at hSw)
            go_simp
          simp only [List.set_cons_zero, List.set_cons_succ]
          refine take_at 3 69 (.agg #[.int .i64 W, .int .i64 H, .slice A1 (W * H) c1]) rfl rfl (by kernel_rfl) (by kernel_rfl) (by kernel_rfl) (fun _ _ _ h => h) (Or.inl ⟨by rfl, ?_⟩) (by assumption) ?_
          · intro W0 hSw
            (try dsimp only at hSw)
            go_simp
          simp only [List.set_cons_zero, List.set_cons_succ]
          refine take_at 4 70 (.agg #[.int .i64 cw, .int .i64 ch, .slice A' n' c']) rfl rfl (by kernel_rfl) (by kernel_rfl) (by kernel_rfl) (fun _ _ _ h => h) (Or.inl ⟨by rfl, ?_⟩) (by assumption) ?_
          · intro W0 hSw
            (try dsimp only at hSw)
            go_simp
          simp only [List.set_cons_zero, List.set_cons_succ]
          refine take_at 5 71 (.pointer (some ⟨gr, 0, none⟩)) rfl rfl (by kernel_rfl) (by kernel_rfl) (by kernel_rfl) (fun _ _ _ h => h) (Or.inl ⟨by rfl, ?_⟩) (by assumption) ?_
          · intro W0 hSw
            (try dsimp only at hSw)
            go_simp
          simp only [List.set_cons_zero, List.set_cons_succ]
          refine take_at 6 72 (.int .i64 X) rfl rfl (by kernel_rfl) (by kernel_rfl) (by kernel_rfl) (fun _ _ _ h => h) (Or.inl ⟨by rfl, ?_⟩) (by assumption) ?_
          · intro W0 hSw
            (try dsimp only at hSw)
            go_simp
          simp only [List.set_cons_zero, List.set_cons_succ]
          refine take_at 7 73 (.pointer (some ⟨gr, 1, none⟩)) rfl rfl (by kernel_rfl) (by kernel_rfl) (by kernel_rfl) (fun _ _ _ h => h) (Or.inl ⟨by rfl, ?_⟩) (by assumption) ?_
          · intro W0 hSw
            (try dsimp only at hSw)
            go_simp
          simp only [List.set_cons_zero, List.set_cons_succ]
          refine take_at 8 74 (.int .i64 Y) rfl rfl (by kernel_rfl) (by kernel_rfl) (by kernel_rfl) (fun _ _ _ h => h) (Or.inl ⟨by rfl, ?_⟩) (by assumption) ?_
          · intro W0 hSw
            (try dsimp only at hSw)
            go_simp
          simp only [List.set_cons_zero, List.set_cons_succ]
          refine take_at 9 75 (.int .i64 W) rfl rfl (by kernel_rfl) (by kernel_rfl) (by kernel_rfl) (fun _ _ _ h => h) (Or.inl ⟨by rfl, ?_⟩) (by assumption) ?_
          · intro W0 hSw
            (try dsimp only at hSw)
            go_simp
          simp only [List.set_cons_zero, List.set_cons_succ]
          refine take_at 10 76 (.int .i64 H) rfl rfl (by kernel_rfl) (by kernel_rfl) (by kernel_rfl) (fun _ _ _ h => h) (Or.inl ⟨by rfl, ?_⟩) (by assumption) ?_
          · intro W0 hSw
            (try dsimp only at hSw)
            go_simp
          simp only [List.set_cons_zero, List.set_cons_succ]
          refine take_at 11 77 (.agg #[.int .i64 0, .int .i64 0, .int .i64 W, .int .i64 H]) rfl rfl (by kernel_rfl) (by kernel_rfl) (by kernel_rfl) (fun _ _ _ h => h) (Or.inl ⟨by rfl, ?_⟩) (by assumption) ?_
          · intro W0 hSw
            (try dsimp only at hSw)
            go_simp
          simp only [List.set_cons_zero, List.set_cons_succ]
          refine take_at 15 81 (.agg #[.int .i64 W, .int .i64 H, .slice A1 (W * H) c1]) rfl rfl (by kernel_rfl) (by kernel_rfl) (by kernel_rfl) (fun _ _ _ h => h) (Or.inl ⟨by rfl, ?_⟩) (by assumption) ?_
          · intro W0 hSw
            (try dsimp only at hSw)
            go_simp
          simp only [List.set_cons_zero, List.set_cons_succ]
          refine wpAnyH_ready (rs := [12]) (by kernel_rfl) (by simp) ?_
          refine AllReadyH.cons rfl (fun K hK => ?_) AllReadyH.nil
          go_simp
          have HBa := Lib.hid (show Below wz.heap.size wz (wz.drew.alloc (.cells #[.int .i64 0, .int .i64 0, .int .i64 W, .int .i64 H] 43)) from bal ((bre wz).drew) _)
          have HRa := Lib.hid (whole_rd (Blk.new wz.drew 43 #[.int .i64 0, .int .i64 0, .int .i64 W, .int .i64 H]))
          refine hK.out _ _ ?_ (fun hHeld => ?_)
          · (try dsimp only)
            exact ⟨(HGZ.out.belowS HBa.out).cellV (i := 0) rfl, (HGZ.out.belowS HBa.out).cellV (i := 1) rfl, (HGZ.out.belowS HBa.out).cellV (i := 2) rfl, (HC9.out.belowS HBa.out).cellV (i := 0) rfl, (HC9.out.belowS HBa.out).cellV (i := 1) rfl, (HC9.out.belowS HBa.out).cellV (i := 2) rfl, (HRZ.out.belowS HBa.out).cellV (i := 0) rfl, (HRZ.out.belowS HBa.out).cellV (i := 1) rfl, (HRZ.out.belowS HBa.out).cellV (i := 2) rfl, (HRZ.out.belowS HBa.out).cellV (i := 3) rfl⟩
          clear hK K
          refine wpAnyH_ready (rs := [13]) (by kernel_rfl) (by simp) ?_
          refine AllReadyH.cons rfl (fun K hK => ?_) AllReadyH.nil
          go_simp
          go_at_call 28
          refine (of_any _ 1 1 [wholeR W H] _ (by omega) HRa.out (by intro r hr; simp only [List.mem_singleton] at hr; subst hr; dsimp only [wholeR]; omega)).mono ?_
          rintro e w10 ⟨out, A3, c3, rfl, r10, hca, hpl, _, b10⟩
          obtain rfl := whole_of hW hH hca hpl
          have HR10 := Lib.hid r10
          have HB10 := Lib.hid (bstep HBa.out b10)
          clear hca hpl r10 b10
          refine hK.out _ _ ?_ (fun hHeld => ?_)
          · (try dsimp only)
            exact ⟨(HGZ.out.belowS HB10.out).cellV (i := 0) rfl, (HGZ.out.belowS HB10.out).cellV (i := 1) rfl, (HGZ.out.belowS HB10.out).cellV (i := 2) rfl, (HC9.out.belowS HB10.out).cellV (i := 0) rfl, (HC9.out.belowS HB10.out).cellV (i := 1) rfl, (HC9.out.belowS HB10.out).cellV (i := 2) rfl, (HRZ.out.belowS HB10.out).cellV (i := 0) rfl, (HRZ.out.belowS HB10.out).cellV (i := 1) rfl, (HRZ.out.belowS HB10.out).cellV (i := 2) rfl, (HRZ.out.belowS HB10.out).cellV (i := 3) rfl⟩
          clear hK K
          refine wpAnyH_ready (rs := [14]) (by kernel_rfl) (by simp) ?_
          refine AllReadyH.cons rfl (fun K hK => ?_) AllReadyH.nil
          go_simp
          go_at_call 31
          refine (lay_any W H cw ch px (cropL W H px X Y cw ch p) A1 A' A3 (W * H) c1 n' c' 1 c3 [wholeR W H] X Y _ hc1 rfl (by omega) (by omega) (HRG.out.below HB10.out) HE3.out hcw.1 hcw.2 (by rw [HE3.out]; exact HRC.out.below HB10.out) (by omega) HR10.out (by intro r hr; simp only [List.mem_singleton] at hr; subst hr; exact whole_cnt hW hH)).mono ?_
          rintro e w11 ⟨A5, c5, rfl, r11, _, b11⟩
          have HR11 := Lib.hid r11
          have HB11 := Lib.hid (bstep HB10.out b11)
          clear r11 b11
          refine hK.out _ _ ?_ (fun hHeld => ?_)
          · (try dsimp only)
            exact ⟨(HGZ.out.belowS HB11.out).cellV (i := 0) rfl, (HGZ.out.belowS HB11.out).cellV (i := 1) rfl, (HGZ.out.belowS HB11.out).cellV (i := 2) rfl, (HC9.out.belowS HB11.out).cellV (i := 0) rfl, (HC9.out.belowS HB11.out).cellV (i := 1) rfl, (HC9.out.belowS HB11.out).cellV (i := 2) rfl, (HRZ.out.belowS HB11.out).cellV (i := 0) rfl, (HRZ.out.belowS HB11.out).cellV (i := 1) rfl, (HRZ.out.belowS HB11.out).cellV (i := 2) rfl, (HRZ.out.belowS HB11.out).cellV (i := 3) rfl⟩
          clear hK K
          refine wpAnyH_ready (rs := [16]) (by kernel_rfl) (by simp) ?_
          refine AllReadyH.cons rfl (fun K hK => ?_) AllReadyH.nil
          go_simp
          go_at_call 25
          refine (gsame_any W H (layR W cw ch (cropL W H px X Y cw ch p) X Y [wholeR W H] px) px A5 A1 (W * H) c5 c1 _ hn16 HR11.out (HRG.out.below HB11.out)).mono ?_
          rintro e w12 ⟨rfl, b12⟩
          rw [HSM.out]
          have HB12 := Lib.hid (bstep HB11.out b12)
          clear b12
          refine hK.out _ _ ?_ (fun hHeld => ?_)
          · (try dsimp only)
            exact ⟨(HGZ.out.belowS HB12.out).cellV (i := 0) rfl, (HGZ.out.belowS HB12.out).cellV (i := 1) rfl, (HGZ.out.belowS HB12.out).cellV (i := 2) rfl, (HC9.out.belowS HB12.out).cellV (i := 0) rfl, (HC9.out.belowS HB12.out).cellV (i := 1) rfl, (HC9.out.belowS HB12.out).cellV (i := 2) rfl, (HRZ.out.belowS HB12.out).cellV (i := 0) rfl, (HRZ.out.belowS HB12.out).cellV (i := 1) rfl, (HRZ.out.belowS HB12.out).cellV (i := 2) rfl, (HRZ.out.belowS HB12.out).cellV (i := 3) rfl⟩
          clear hK K
          refine take_at 17 83 (.bool true) rfl rfl (by kernel_rfl) (by kernel_rfl) (by kernel_rfl) (fun _ _ _ h => h) (Or.inl ⟨by rfl, ?_⟩) (by assumption) ?_
          · intro W0 hSw
            (try dsimp only at hSw)
            go_simp
          simp only [List.set_cons_zero, List.set_cons_succ]
          refine take_at 18 84 (.bool true) rfl rfl (by kernel_rfl) (by kernel_rfl) (by kernel_rfl) (fun _ _ _ h => h) (Or.inl ⟨by rfl, ?_⟩) (by assumption) ?_
          · intro W0 hSw
            (try dsimp only at hSw)
            go_simp
          simp only [List.set_cons_zero, List.set_cons_succ]
          refine take_at 19 85 (.bool true) rfl rfl (by kernel_rfl) (by kernel_rfl) (by kernel_rfl) (fun _ _ _ h => h) (Or.inl ⟨by rfl, ?_⟩) (by assumption) ?_
          · intro W0 hSw
            (try dsimp only at hSw)
            go_simp
          simp only [List.set_cons_zero, List.set_cons_succ]
          refine take_at 20 86 (.pointer (some ⟨gr, 0, none⟩)) rfl rfl (by kernel_rfl) (by kernel_rfl) (by kernel_rfl) (fun _ _ _ h => h) (Or.inl ⟨by rfl, ?_⟩) (by assumption) ?_
          · intro W0 hSw
            (try dsimp only at hSw)
            go_simp
          simp only [List.set_cons_zero, List.set_cons_succ]
          refine take_at 21 87 (.int .i64 X) rfl rfl (by kernel_rfl) (by kernel_rfl) (by kernel_rfl) (fun _ _ _ h => h) (Or.inl ⟨by rfl, ?_⟩) (by assumption) ?_
          · intro W0 hSw
            (try dsimp only at hSw)
            go_simp
          simp only [List.set_cons_zero, List.set_cons_succ]
          refine take_at 22 88 (.bool true) rfl rfl (by kernel_rfl) (by kernel_rfl) (by kernel_rfl) (fun _ _ _ h => h) (Or.inl ⟨by rfl, ?_⟩) (by assumption) ?_
          · intro W0 hSw
            (try dsimp only at hSw)
            go_simp
          simp only [List.set_cons_zero, List.set_cons_succ]
          refine take_at 23 89 (.bool true) rfl rfl (by kernel_rfl) (by kernel_rfl) (by kernel_rfl) (fun _ _ _ h => h) (Or.inl ⟨by rfl, ?_⟩) (by assumption) ?_
          · intro W0 hSw
            (try dsimp only at hSw)
            go_simp
          simp only [List.set_cons_zero, List.set_cons_succ]
          refine take_at 24 90 (.bool true) rfl rfl (by kernel_rfl) (by kernel_rfl) (by kernel_rfl) (fun _ _ _ h => h) (Or.inl ⟨by rfl, ?_⟩) (by assumption) ?_
          · intro W0 hSw
            (try dsimp only at hSw)
            go_simp
          simp only [List.set_cons_zero, List.set_cons_succ]
          refine take_at 25 91 (.pointer (some ⟨gr, 1, none⟩)) rfl rfl (by kernel_rfl) (by kernel_rfl) (by kernel_rfl) (fun _ _ _ h => h) (Or.inl ⟨by rfl, ?_⟩) (by assumption) ?_
          · intro W0 hSw
            (try dsimp only at hSw)
            go_simp
          simp only [List.set_cons_zero, List.set_cons_succ]
          refine take_at 26 92 (.int .i64 Y) rfl rfl (by kernel_rfl) (by kernel_rfl) (by kernel_rfl) (fun _ _ _ h => h) (Or.inl ⟨by rfl, ?_⟩) (by assumption) ?_
          · intro W0 hSw
            (try dsimp only at hSw)
            go_simp
          simp only [List.set_cons_zero, List.set_cons_succ]
          refine take_at 27 93 (.bool true) rfl rfl (by kernel_rfl) (by kernel_rfl) (by kernel_rfl) (fun _ _ _ h => h) (Or.inl ⟨by rfl, ?_⟩) (by assumption) ?_
          · intro W0 hSw
            (try dsimp only at hSw)
            go_simp
          simp only [List.set_cons_zero, List.set_cons_succ]
          refine take_at 28 94 (.bool true) rfl rfl (by kernel_rfl) (by kernel_rfl) (by kernel_rfl) (fun _ _ _ h => h) (Or.inl ⟨by rfl, ?_⟩) (by assumption) ?_
          · intro W0 hSw
            (try dsimp only at hSw)
            go_simp
          simp only [List.set_cons_zero, List.set_cons_succ]
          refine take_at 29 95 (.bool true) rfl rfl (by kernel_rfl) (by kernel_rfl) (by kernel_rfl) (fun _ _ _ h => h) (Or.inl ⟨by rfl, ?_⟩) (by assumption) ?_
          · intro W0 hSw
            (try dsimp only at hSw)
            go_simp
          simp only [List.set_cons_zero, List.set_cons_succ]
          refine take_at 30 96 (.pointer (some ⟨gr, 0, none⟩)) rfl rfl (by kernel_rfl) (by kernel_rfl) (by kernel_rfl) (fun _ _ _ h => h) (Or.inl ⟨by rfl, ?_⟩) (by assumption) ?_
          · intro W0 hSw
            (try dsimp only at hSw)
            go_simp
          simp only [List.set_cons_zero, List.set_cons_succ]
          refine take_at 31 97 (.int .i64 X) rfl rfl (by kernel_rfl) (by kernel_rfl) (by kernel_rfl) (fun _ _ _ h => h) (Or.inl ⟨by rfl, ?_⟩) (by assumption) ?_
          · intro W0 hSw
            (try dsimp only at hSw)
            go_simp
          simp only [List.set_cons_zero, List.set_cons_succ]
          refine take_at 32 98 (.pointer (some ⟨gr, 2, none⟩)) rfl rfl (by kernel_rfl) (by kernel_rfl) (by kernel_rfl) (fun _ _ _ h => h) (Or.inl ⟨by rfl, ?_⟩) (by assumption) ?_
          · intro W0 hSw
            (try dsimp only at hSw)
            go_simp
          simp only [List.set_cons_zero, List.set_cons_succ]
          refine take_at 33 99 (.int .i64 rw') rfl rfl (by kernel_rfl) (by kernel_rfl) (by kernel_rfl) (fun _ _ _ h => h) (Or.inl ⟨by rfl, ?_⟩) (by assumption) ?_
          · intro W0 hSw
            (try dsimp only at hSw)
            go_simp
          simp only [List.set_cons_zero, List.set_cons_succ]
          refine take_at 34 100 (.int .i64 (X + rw')) rfl rfl (by kernel_rfl) (by kernel_rfl) (by kernel_rfl) (fun _ _ _ h => h) (Or.inl ⟨by rfl, ?_⟩) (by assumption) ?_
          · intro W0 hSw
            (try dsimp only at hSw)
            go_simp
          simp only [List.set_cons_zero, List.set_cons_succ]
          refine take_at 35 101 (.int .i64 W) rfl rfl (by kernel_rfl) (by kernel_rfl) (by kernel_rfl) (fun _ _ _ h => h) (Or.inl ⟨by rfl, ?_⟩) (by assumption) ?_
          · intro W0 hSw
            (try dsimp only at hSw)
            go_simp
          simp only [List.set_cons_zero, List.set_cons_succ]
          refine take_at 36 102 (.bool false) rfl rfl (by kernel_rfl) (by kernel_rfl) (by kernel_rfl) (fun _ _ _ h => h) (Or.inl ⟨by rfl, ?_⟩) (by assumption) ?_
          · intro W0 hSw
            (try dsimp only at hSw)
            go_simp
          simp only [List.set_cons_zero, List.set_cons_succ]
          refine take_at 37 103 (.bool false) rfl rfl (by kernel_rfl) (by kernel_rfl) (by kernel_rfl) (fun _ _ _ h => h) (Or.inl ⟨by rfl, ?_⟩) (by assumption) ?_
          · intro W0 hSw
            (try dsimp only at hSw)
            go_simp
          simp only [List.set_cons_zero, List.set_cons_succ]
          refine take_at 38 104 (.bool false) rfl rfl (by kernel_rfl) (by kernel_rfl) (by kernel_rfl) (fun _ _ _ h => h) (Or.inl ⟨by rfl, ?_⟩) (by assumption) ?_
          · intro W0 hSw
            (try dsimp only at hSw)
            go_simp
          simp only [List.set_cons_zero, List.set_cons_succ]
          refine take_at 39 105 undef rfl rfl (by kernel_rfl) (by kernel_rfl) (by kernel_rfl) (fun _ _ _ h => h) (Or.inr ⟨by rfl, rfl⟩) (by assumption) ?_
          simp only [List.set_cons_zero, List.set_cons_succ]
          refine take_at 40 106 undef rfl rfl (by kernel_rfl) (by kernel_rfl) (by kernel_rfl) (fun _ _ _ h => h) (Or.inr ⟨by rfl, rfl⟩) (by assumption) ?_
          simp only [List.set_cons_zero, List.set_cons_succ]
          refine take_at 41 107 undef rfl rfl (by kernel_rfl) (by kernel_rfl) (by kernel_rfl) (fun _ _ _ h => h) (Or.inr ⟨by rfl, rfl⟩) (by assumption) ?_
          simp only [List.set_cons_zero, List.set_cons_succ]
          refine take_at 42 108 undef rfl rfl (by kernel_rfl) (by kernel_rfl) (by kernel_rfl) (fun _ _ _ h => h) (Or.inr ⟨by rfl, rfl⟩) (by assumption) ?_
          simp only [List.set_cons_zero, List.set_cons_succ]
          refine take_at 43 109 undef rfl rfl (by kernel_rfl) (by kernel_rfl) (by kernel_rfl) (fun _ _ _ h => h) (Or.inr ⟨by rfl, rfl⟩) (by assumption) ?_
          simp only [List.set_cons_zero, List.set_cons_succ]
          refine take_at 44 110 undef rfl rfl (by kernel_rfl) (by kernel_rfl) (by kernel_rfl) (fun _ _ _ h => h) (Or.inr ⟨by rfl, rfl⟩) (by assumption) ?_
          simp only [List.set_cons_zero, List.set_cons_succ]
          refine take_at 45 111 undef rfl rfl (by kernel_rfl) (by kernel_rfl) (by kernel_rfl) (fun _ _ _ h => h) (Or.inr ⟨by rfl, rfl⟩) (by assumption) ?_
          simp only [List.set_cons_zero, List.set_cons_succ]
          refine take_at 46 112 (.bool false) rfl rfl (by kernel_rfl) (by kernel_rfl) (by kernel_rfl) (fun _ _ _ h => h) (Or.inl ⟨by rfl, ?_⟩) (by assumption) ?_
          · intro W0 hSw
            (try dsimp only at hSw)
            go_simp
          simp only [List.set_cons_zero, List.set_cons_succ]
          refine wpAnyH_done (by kernel_rfl) ?_ _
          refine NoPanic.normal ?_
          all_goals
            go_wp2_with fail
            go_meet
            exact ⟨rfl, HB12.out⟩
        · refine wp_region_noPanic ?_
          refine wp_region_held_drew (S := (fun w' => w'.cell? ⟨gg, 0, none⟩ = some (.int .i64 W) ∧ w'.cell? ⟨gg, 1, none⟩ = some (.int .i64 H) ∧ w'.cell? ⟨gg, 2, none⟩ = some (.slice A1 (W * H) c1) ∧ w'.cell? ⟨gc, 0, none⟩ = some (.int .i64 cw) ∧ w'.cell? ⟨gc, 1, none⟩ = some (.int .i64 ch) ∧ w'.cell? ⟨gc, 2, none⟩ = some (.slice A' n' c') ∧ w'.cell? ⟨gr, 0, none⟩ = some (.int .i64 X) ∧ w'.cell? ⟨gr, 1, none⟩ = some (.int .i64 Y) ∧ w'.cell? ⟨gr, 2, none⟩ = some (.int .i64 rw') ∧ w'.cell? ⟨gr, 3, none⟩ = some (.int .i64 rh))) (by kernel_rfl) ?_ (fun hHeld => ?_)
          · (try dsimp only)
            exact ⟨(HGZ.out.belowS ((bre wz).drew)).cellV (i := 0) rfl, (HGZ.out.belowS ((bre wz).drew)).cellV (i := 1) rfl, (HGZ.out.belowS ((bre wz).drew)).cellV (i := 2) rfl, (HC9.out.belowS ((bre wz).drew)).cellV (i := 0) rfl, (HC9.out.belowS ((bre wz).drew)).cellV (i := 1) rfl, (HC9.out.belowS ((bre wz).drew)).cellV (i := 2) rfl, (HRZ.out.belowS ((bre wz).drew)).cellV (i := 0) rfl, (HRZ.out.belowS ((bre wz).drew)).cellV (i := 1) rfl, (HRZ.out.belowS ((bre wz).drew)).cellV (i := 2) rfl, (HRZ.out.belowS ((bre wz).drew)).cellV (i := 3) rfl⟩
          refine take_at 0 66 (.int .i64 0) rfl rfl (by kernel_rfl) (by kernel_rfl) (by kernel_rfl) (fun _ _ _ h => h) (Or.inl ⟨by rfl, ?_⟩) (by assumption) ?_
          · intro W0 hSw
            (try dsimp only at hSw)
            go_simp
          simp only [List.set_cons_zero, List.set_cons_succ]
          refine take_at 1 67 (.bool true) rfl rfl (by kernel_rfl) (by kernel_rfl) (by kernel_rfl) (fun _ _ _ h => h) (Or.inl ⟨by rfl, ?_⟩) (by assumption) ?_
          · intro W0 hSw
            (try dsimp only at hSw)
            go_simp
          simp only [List.set_cons_zero, List.set_cons_succ]
          refine take_at 2 68 (.bool true) rfl rfl (by kernel_rfl) (by kernel_rfl) (by kernel_rfl) (fun _ _ _ h => h) (Or.inl ⟨by rfl, ?_⟩) (by assumption) ?_
          · intro W0 hSw
            (try dsimp only at hSw)
            go_simp
          simp only [List.set_cons_zero, List.set_cons_succ]
          refine take_at 3 69 (.agg #[.int .i64 W, .int .i64 H, .slice A1 (W * H) c1]) rfl rfl (by kernel_rfl) (by kernel_rfl) (by kernel_rfl) (fun _ _ _ h => h) (Or.inl ⟨by rfl, ?_⟩) (by assumption) ?_
          · intro W0 hSw
            (try dsimp only at hSw)
            go_simp
          simp only [List.set_cons_zero, List.set_cons_succ]
          refine take_at 4 70 (.agg #[.int .i64 cw, .int .i64 ch, .slice A' n' c']) rfl rfl (by kernel_rfl) (by kernel_rfl) (by kernel_rfl) (fun _ _ _ h => h) (Or.inl ⟨by rfl, ?_⟩) (by assumption) ?_
          · intro W0 hSw
            (try dsimp only at hSw)
            go_simp
          simp only [List.set_cons_zero, List.set_cons_succ]
          refine take_at 5 71 (.pointer (some ⟨gr, 0, none⟩)) rfl rfl (by kernel_rfl) (by kernel_rfl) (by kernel_rfl) (fun _ _ _ h => h) (Or.inl ⟨by rfl, ?_⟩) (by assumption) ?_
          · intro W0 hSw
            (try dsimp only at hSw)
            go_simp
          simp only [List.set_cons_zero, List.set_cons_succ]
          refine take_at 6 72 (.int .i64 X) rfl rfl (by kernel_rfl) (by kernel_rfl) (by kernel_rfl) (fun _ _ _ h => h) (Or.inl ⟨by rfl, ?_⟩) (by assumption) ?_
          · intro W0 hSw
            (try dsimp only at hSw)
            go_simp
          simp only [List.set_cons_zero, List.set_cons_succ]
          refine take_at 7 73 (.pointer (some ⟨gr, 1, none⟩)) rfl rfl (by kernel_rfl) (by kernel_rfl) (by kernel_rfl) (fun _ _ _ h => h) (Or.inl ⟨by rfl, ?_⟩) (by assumption) ?_
          · intro W0 hSw
            (try dsimp only at hSw)
            go_simp
          simp only [List.set_cons_zero, List.set_cons_succ]
          refine take_at 8 74 (.int .i64 Y) rfl rfl (by kernel_rfl) (by kernel_rfl) (by kernel_rfl) (fun _ _ _ h => h) (Or.inl ⟨by rfl, ?_⟩) (by assumption) ?_
          · intro W0 hSw
            (try dsimp only at hSw)
            go_simp
          simp only [List.set_cons_zero, List.set_cons_succ]
          refine take_at 9 75 (.int .i64 W) rfl rfl (by kernel_rfl) (by kernel_rfl) (by kernel_rfl) (fun _ _ _ h => h) (Or.inl ⟨by rfl, ?_⟩) (by assumption) ?_
          · intro W0 hSw
            (try dsimp only at hSw)
            go_simp
          simp only [List.set_cons_zero, List.set_cons_succ]
          refine take_at 10 76 (.int .i64 H) rfl rfl (by kernel_rfl) (by kernel_rfl) (by kernel_rfl) (fun _ _ _ h => h) (Or.inl ⟨by rfl, ?_⟩) (by assumption) ?_
          · intro W0 hSw
            (try dsimp only at hSw)
            go_simp
          simp only [List.set_cons_zero, List.set_cons_succ]
          refine take_at 11 77 (.agg #[.int .i64 0, .int .i64 0, .int .i64 W, .int .i64 H]) rfl rfl (by kernel_rfl) (by kernel_rfl) (by kernel_rfl) (fun _ _ _ h => h) (Or.inl ⟨by rfl, ?_⟩) (by assumption) ?_
          · intro W0 hSw
            (try dsimp only at hSw)
            go_simp
          simp only [List.set_cons_zero, List.set_cons_succ]
          refine take_at 15 81 (.agg #[.int .i64 W, .int .i64 H, .slice A1 (W * H) c1]) rfl rfl (by kernel_rfl) (by kernel_rfl) (by kernel_rfl) (fun _ _ _ h => h) (Or.inl ⟨by rfl, ?_⟩) (by assumption) ?_
          · intro W0 hSw
            (try dsimp only at hSw)
            go_simp
          simp only [List.set_cons_zero, List.set_cons_succ]
          refine wpAnyH_ready (rs := [12]) (by kernel_rfl) (by simp) ?_
          refine AllReadyH.cons rfl (fun K hK => ?_) AllReadyH.nil
          go_simp
          have HBa := Lib.hid (show Below wz.heap.size wz (wz.drew.alloc (.cells #[.int .i64 0, .int .i64 0, .int .i64 W, .int .i64 H] 43)) from bal ((bre wz).drew) _)
          have HRa := Lib.hid (whole_rd (Blk.new wz.drew 43 #[.int .i64 0, .int .i64 0, .int .i64 W, .int .i64 H]))
          refine hK.out _ _ ?_ (fun hHeld => ?_)
          · (try dsimp only)
            exact ⟨(HGZ.out.belowS HBa.out).cellV (i := 0) rfl, (HGZ.out.belowS HBa.out).cellV (i := 1) rfl, (HGZ.out.belowS HBa.out).cellV (i := 2) rfl, (HC9.out.belowS HBa.out).cellV (i := 0) rfl, (HC9.out.belowS HBa.out).cellV (i := 1) rfl, (HC9.out.belowS HBa.out).cellV (i := 2) rfl, (HRZ.out.belowS HBa.out).cellV (i := 0) rfl, (HRZ.out.belowS HBa.out).cellV (i := 1) rfl, (HRZ.out.belowS HBa.out).cellV (i := 2) rfl, (HRZ.out.belowS HBa.out).cellV (i := 3) rfl⟩
          clear hK K
          refine wpAnyH_ready (rs := [13]) (by kernel_rfl) (by simp) ?_
          refine AllReadyH.cons rfl (fun K hK => ?_) AllReadyH.nil
          go_simp
          go_at_call 28
          refine (of_any _ 1 1 [wholeR W H] _ (by omega) HRa.out (by intro r hr; simp only [List.mem_singleton] at hr; subst hr; dsimp only [wholeR]; omega)).mono ?_
          rintro e w10 ⟨out, A3, c3, rfl, r10, hca, hpl, _, b10⟩
          obtain rfl := whole_of hW hH hca hpl
          have HR10 := Lib.hid r10
          have HB10 := Lib.hid (bstep HBa.out b10)
          clear hca hpl r10 b10
          refine hK.out _ _ ?_ (fun hHeld => ?_)
          · (try dsimp only)
            exact ⟨(HGZ.out.belowS HB10.out).cellV (i := 0) rfl, (HGZ.out.belowS HB10.out).cellV (i := 1) rfl, (HGZ.out.belowS HB10.out).cellV (i := 2) rfl, (HC9.out.belowS HB10.out).cellV (i := 0) rfl, (HC9.out.belowS HB10.out).cellV (i := 1) rfl, (HC9.out.belowS HB10.out).cellV (i := 2) rfl, (HRZ.out.belowS HB10.out).cellV (i := 0) rfl, (HRZ.out.belowS HB10.out).cellV (i := 1) rfl, (HRZ.out.belowS HB10.out).cellV (i := 2) rfl, (HRZ.out.belowS HB10.out).cellV (i := 3) rfl⟩
          clear hK K
          refine wpAnyH_ready (rs := [14]) (by kernel_rfl) (by simp) ?_
          refine AllReadyH.cons rfl (fun K hK => ?_) AllReadyH.nil
          go_simp
          go_at_call 31
          refine (lay_any W H cw ch px (cropL W H px X Y cw ch p) A1 A' A3 (W * H) c1 n' c' 1 c3 [wholeR W H] X Y _ hc1 rfl (by omega) (by omega) (HRG.out.below HB10.out) HE3.out hcw.1 hcw.2 (by rw [HE3.out]; exact HRC.out.below HB10.out) (by omega) HR10.out (by intro r hr; simp only [List.mem_singleton] at hr; subst hr; exact whole_cnt hW hH)).mono ?_
          rintro e w11 ⟨A5, c5, rfl, r11, _, b11⟩
          have HR11 := Lib.hid r11
          have HB11 := Lib.hid (bstep HB10.out b11)
          clear r11 b11
          refine hK.out _ _ ?_ (fun hHeld => ?_)
          · (try dsimp only)
            exact ⟨(HGZ.out.belowS HB11.out).cellV (i := 0) rfl, (HGZ.out.belowS HB11.out).cellV (i := 1) rfl, (HGZ.out.belowS HB11.out).cellV (i := 2) rfl, (HC9.out.belowS HB11.out).cellV (i := 0) rfl, (HC9.out.belowS HB11.out).cellV (i := 1) rfl, (HC9.out.belowS HB11.out).cellV (i := 2) rfl, (HRZ.out.belowS HB11.out).cellV (i := 0) rfl, (HRZ.out.belowS HB11.out).cellV (i := 1) rfl, (HRZ.out.belowS HB11.out).cellV (i := 2) rfl, (HRZ.out.belowS HB11.out).cellV (i := 3) rfl⟩
          clear hK K
          refine wpAnyH_ready (rs := [16]) (by kernel_rfl) (by simp) ?_
          refine AllReadyH.cons rfl (fun K hK => ?_) AllReadyH.nil
          go_simp
          go_at_call 25
          refine (gsame_any W H (layR W cw ch (cropL W H px X Y cw ch p) X Y [wholeR W H] px) px A5 A1 (W * H) c5 c1 _ hn16 HR11.out (HRG.out.below HB11.out)).mono ?_
          rintro e w12 ⟨rfl, b12⟩
          rw [HSM.out]
          have HB12 := Lib.hid (bstep HB11.out b12)
          clear b12
          refine hK.out _ _ ?_ (fun hHeld => ?_)
          · (try dsimp only)
            exact ⟨(HGZ.out.belowS HB12.out).cellV (i := 0) rfl, (HGZ.out.belowS HB12.out).cellV (i := 1) rfl, (HGZ.out.belowS HB12.out).cellV (i := 2) rfl, (HC9.out.belowS HB12.out).cellV (i := 0) rfl, (HC9.out.belowS HB12.out).cellV (i := 1) rfl, (HC9.out.belowS HB12.out).cellV (i := 2) rfl, (HRZ.out.belowS HB12.out).cellV (i := 0) rfl, (HRZ.out.belowS HB12.out).cellV (i := 1) rfl, (HRZ.out.belowS HB12.out).cellV (i := 2) rfl, (HRZ.out.belowS HB12.out).cellV (i := 3) rfl⟩
          clear hK K
          refine take_at 17 83 (.bool true) rfl rfl (by kernel_rfl) (by kernel_rfl) (by kernel_rfl) (fun _ _ _ h => h) (Or.inl ⟨by rfl, ?_⟩) (by assumption) ?_
          · intro W0 hSw
            (try dsimp only at hSw)
            go_simp
          simp only [List.set_cons_zero, List.set_cons_succ]
          refine take_at 18 84 (.bool true) rfl rfl (by kernel_rfl) (by kernel_rfl) (by kernel_rfl) (fun _ _ _ h => h) (Or.inl ⟨by rfl, ?_⟩) (by assumption) ?_
          · intro W0 hSw
            (try dsimp only at hSw)
            go_simp
          simp only [List.set_cons_zero, List.set_cons_succ]
          refine take_at 19 85 (.bool true) rfl rfl (by kernel_rfl) (by kernel_rfl) (by kernel_rfl) (fun _ _ _ h => h) (Or.inl ⟨by rfl, ?_⟩) (by assumption) ?_
          · intro W0 hSw
            (try dsimp only at hSw)
            go_simp
          simp only [List.set_cons_zero, List.set_cons_succ]
          refine take_at 20 86 (.pointer (some ⟨gr, 0, none⟩)) rfl rfl (by kernel_rfl) (by kernel_rfl) (by kernel_rfl) (fun _ _ _ h => h) (Or.inl ⟨by rfl, ?_⟩) (by assumption) ?_
          · intro W0 hSw
            (try dsimp only at hSw)
            go_simp
          simp only [List.set_cons_zero, List.set_cons_succ]
          refine take_at 21 87 (.int .i64 X) rfl rfl (by kernel_rfl) (by kernel_rfl) (by kernel_rfl) (fun _ _ _ h => h) (Or.inl ⟨by rfl, ?_⟩) (by assumption) ?_
          · intro W0 hSw
            (try dsimp only at hSw)
            go_simp
          simp only [List.set_cons_zero, List.set_cons_succ]
          refine take_at 22 88 (.bool true) rfl rfl (by kernel_rfl) (by kernel_rfl) (by kernel_rfl) (fun _ _ _ h => h) (Or.inl ⟨by rfl, ?_⟩) (by assumption) ?_
          · intro W0 hSw
            (try dsimp only at hSw)
            go_simp
          simp only [List.set_cons_zero, List.set_cons_succ]
          refine take_at 23 89 (.bool true) rfl rfl (by kernel_rfl) (by kernel_rfl) (by kernel_rfl) (fun _ _ _ h => h) (Or.inl ⟨by rfl, ?_⟩) (by assumption) ?_
          · intro W0 hSw
            (try dsimp only at hSw)
            go_simp
          simp only [List.set_cons_zero, List.set_cons_succ]
          refine take_at 24 90 (.bool true) rfl rfl (by kernel_rfl) (by kernel_rfl) (by kernel_rfl) (fun _ _ _ h => h) (Or.inl ⟨by rfl, ?_⟩) (by assumption) ?_
          · intro W0 hSw
            (try dsimp only at hSw)
            go_simp
          simp only [List.set_cons_zero, List.set_cons_succ]
          refine take_at 25 91 (.pointer (some ⟨gr, 1, none⟩)) rfl rfl (by kernel_rfl) (by kernel_rfl) (by kernel_rfl) (fun _ _ _ h => h) (Or.inl ⟨by rfl, ?_⟩) (by assumption) ?_
          · intro W0 hSw
            (try dsimp only at hSw)
            go_simp
          simp only [List.set_cons_zero, List.set_cons_succ]
          refine take_at 26 92 (.int .i64 Y) rfl rfl (by kernel_rfl) (by kernel_rfl) (by kernel_rfl) (fun _ _ _ h => h) (Or.inl ⟨by rfl, ?_⟩) (by assumption) ?_
          · intro W0 hSw
            (try dsimp only at hSw)
            go_simp
          simp only [List.set_cons_zero, List.set_cons_succ]
          refine take_at 27 93 (.bool true) rfl rfl (by kernel_rfl) (by kernel_rfl) (by kernel_rfl) (fun _ _ _ h => h) (Or.inl ⟨by rfl, ?_⟩) (by assumption) ?_
          · intro W0 hSw
            (try dsimp only at hSw)
            go_simp
          simp only [List.set_cons_zero, List.set_cons_succ]
          refine take_at 28 94 (.bool true) rfl rfl (by kernel_rfl) (by kernel_rfl) (by kernel_rfl) (fun _ _ _ h => h) (Or.inl ⟨by rfl, ?_⟩) (by assumption) ?_
          · intro W0 hSw
            (try dsimp only at hSw)
            go_simp
          simp only [List.set_cons_zero, List.set_cons_succ]
          refine take_at 29 95 (.bool true) rfl rfl (by kernel_rfl) (by kernel_rfl) (by kernel_rfl) (fun _ _ _ h => h) (Or.inl ⟨by rfl, ?_⟩) (by assumption) ?_
          · intro W0 hSw
            (try dsimp only at hSw)
            go_simp
          simp only [List.set_cons_zero, List.set_cons_succ]
          refine take_at 30 96 (.pointer (some ⟨gr, 0, none⟩)) rfl rfl (by kernel_rfl) (by kernel_rfl) (by kernel_rfl) (fun _ _ _ h => h) (Or.inl ⟨by rfl, ?_⟩) (by assumption) ?_
          · intro W0 hSw
            (try dsimp only at hSw)
            go_simp
          simp only [List.set_cons_zero, List.set_cons_succ]
          refine take_at 31 97 (.int .i64 X) rfl rfl (by kernel_rfl) (by kernel_rfl) (by kernel_rfl) (fun _ _ _ h => h) (Or.inl ⟨by rfl, ?_⟩) (by assumption) ?_
          · intro W0 hSw
            (try dsimp only at hSw)
            go_simp
          simp only [List.set_cons_zero, List.set_cons_succ]
          refine take_at 32 98 (.pointer (some ⟨gr, 2, none⟩)) rfl rfl (by kernel_rfl) (by kernel_rfl) (by kernel_rfl) (fun _ _ _ h => h) (Or.inl ⟨by rfl, ?_⟩) (by assumption) ?_
          · intro W0 hSw
            (try dsimp only at hSw)
            go_simp
          simp only [List.set_cons_zero, List.set_cons_succ]
          refine take_at 33 99 (.int .i64 rw') rfl rfl (by kernel_rfl) (by kernel_rfl) (by kernel_rfl) (fun _ _ _ h => h) (Or.inl ⟨by rfl, ?_⟩) (by assumption) ?_
          · intro W0 hSw
            (try dsimp only at hSw)
            go_simp
          simp only [List.set_cons_zero, List.set_cons_succ]
          refine take_at 34 100 (.int .i64 (X + rw')) rfl rfl (by kernel_rfl) (by kernel_rfl) (by kernel_rfl) (fun _ _ _ h => h) (Or.inl ⟨by rfl, ?_⟩) (by assumption) ?_
          · intro W0 hSw
            (try dsimp only at hSw)
            go_simp
          simp only [List.set_cons_zero, List.set_cons_succ]
          refine take_at 35 101 (.int .i64 W) rfl rfl (by kernel_rfl) (by kernel_rfl) (by kernel_rfl) (fun _ _ _ h => h) (Or.inl ⟨by rfl, ?_⟩) (by assumption) ?_
          · intro W0 hSw
            (try dsimp only at hSw)
            go_simp
          simp only [List.set_cons_zero, List.set_cons_succ]
          refine take_at 36 102 (.bool true) rfl rfl (by kernel_rfl) (by kernel_rfl) (by kernel_rfl) (fun _ _ _ h => h) (Or.inl ⟨by rfl, ?_⟩) (by assumption) ?_
          · intro W0 hSw
            (try dsimp only at hSw)
            go_simp
          simp only [List.set_cons_zero, List.set_cons_succ]
          refine take_at 37 103 (.bool true) rfl rfl (by kernel_rfl) (by kernel_rfl) (by kernel_rfl) (fun _ _ _ h => h) (Or.inl ⟨by rfl, ?_⟩) (by assumption) ?_
          · intro W0 hSw
            (try dsimp only at hSw)
            go_simp
          simp only [List.set_cons_zero, List.set_cons_succ]
          refine take_at 38 104 (.bool true) rfl rfl (by kernel_rfl) (by kernel_rfl) (by kernel_rfl) (fun _ _ _ h => h) (Or.inl ⟨by rfl, ?_⟩) (by assumption) ?_
          · intro W0 hSw
            (try dsimp only at hSw)
            go_simp
          simp only [List.set_cons_zero, List.set_cons_succ]
          refine take_at 39 105 (.pointer (some ⟨gr, 1, none⟩)) rfl rfl (by kernel_rfl) (by kernel_rfl) (by kernel_rfl) (fun _ _ _ h => h) (Or.inl ⟨by rfl, ?_⟩) (by assumption) ?_
          · intro W0 hSw
            (try dsimp only at hSw)
            go_simp
          simp only [List.set_cons_zero, List.set_cons_succ]
          refine take_at 40 106 (.int .i64 Y) rfl rfl (by kernel_rfl) (by kernel_rfl) (by kernel_rfl) (fun _ _ _ h => h) (Or.inl ⟨by rfl, ?_⟩) (by assumption) ?_
          · intro W0 hSw
            (try dsimp only at hSw)
            go_simp
          simp only [List.set_cons_zero, List.set_cons_succ]
          refine take_at 41 107 (.pointer (some ⟨gr, 3, none⟩)) rfl rfl (by kernel_rfl) (by kernel_rfl) (by kernel_rfl) (fun _ _ _ h => h) (Or.inl ⟨by rfl, ?_⟩) (by assumption) ?_
          · intro W0 hSw
            (try dsimp only at hSw)
            go_simp
          simp only [List.set_cons_zero, List.set_cons_succ]
          refine take_at 42 108 (.int .i64 rh) rfl rfl (by kernel_rfl) (by kernel_rfl) (by kernel_rfl) (fun _ _ _ h => h) (Or.inl ⟨by rfl, ?_⟩) (by assumption) ?_
          · intro W0 hSw
            (try dsimp only at hSw)
            go_simp
          simp only [List.set_cons_zero, List.set_cons_succ]
          refine take_at 43 109 (.int .i64 (Y + rh)) rfl rfl (by kernel_rfl) (by kernel_rfl) (by kernel_rfl) (fun _ _ _ h => h) (Or.inl ⟨by rfl, ?_⟩) (by assumption) ?_
          · intro W0 hSw
            (try dsimp only at hSw)
            go_simp
          simp only [List.set_cons_zero, List.set_cons_succ]
          refine take_at 44 110 (.int .i64 H) rfl rfl (by kernel_rfl) (by kernel_rfl) (by kernel_rfl) (fun _ _ _ h => h) (Or.inl ⟨by rfl, ?_⟩) (by assumption) ?_
          · intro W0 hSw
            (try dsimp only at hSw)
            go_simp
          simp only [List.set_cons_zero, List.set_cons_succ]
          refine take_at 45 111 (.bool false) rfl rfl (by kernel_rfl) (by kernel_rfl) (by kernel_rfl) (fun _ _ _ h => h) (Or.inl ⟨by rfl, ?_⟩) (by assumption) ?_
          · intro W0 hSw
            (try dsimp only at hSw)
            go_simp
          simp only [List.set_cons_zero, List.set_cons_succ]
          refine take_at 46 112 (.bool false) rfl rfl (by kernel_rfl) (by kernel_rfl) (by kernel_rfl) (fun _ _ _ h => h) (Or.inl ⟨by rfl, ?_⟩) (by assumption) ?_
          · intro W0 hSw
            (try dsimp only at hSw)
            go_simp
          simp only [List.set_cons_zero, List.set_cons_succ]
          refine wpAnyH_done (by kernel_rfl) ?_ _
          refine NoPanic.normal ?_
          all_goals
            go_wp2_with fail
            go_meet
            exact ⟨rfl, HB12.out⟩
      · clear hfin
        refine wp_region_noPanic ?_
        refine wp_region_held_drew (S := (fun w' => w'.cell? ⟨gg, 0, none⟩ = some (.int .i64 W) ∧ w'.cell? ⟨gg, 1, none⟩ = some (.int .i64 H) ∧ w'.cell? ⟨gg, 2, none⟩ = some (.slice A1 (W * H) c1) ∧ w'.cell? ⟨gc, 0, none⟩ = some (.int .i64 cw) ∧ w'.cell? ⟨gc, 1, none⟩ = some (.int .i64 ch) ∧ w'.cell? ⟨gc, 2, none⟩ = some (.slice A' n' c') ∧ w'.cell? ⟨gr, 0, none⟩ = some (.int .i64 X) ∧ w'.cell? ⟨gr, 1, none⟩ = some (.int .i64 Y) ∧ w'.cell? ⟨gr, 2, none⟩ = some (.int .i64 rw') ∧ w'.cell? ⟨gr, 3, none⟩ = some (.int .i64 rh))) (by kernel_rfl) ?_ (fun hHeld => ?_)
        · (try dsimp only)
          exact ⟨(HGZ.out.belowS ((bre wz).drew)).cellV (i := 0) rfl, (HGZ.out.belowS ((bre wz).drew)).cellV (i := 1) rfl, (HGZ.out.belowS ((bre wz).drew)).cellV (i := 2) rfl, (HC9.out.belowS ((bre wz).drew)).cellV (i := 0) rfl, (HC9.out.belowS ((bre wz).drew)).cellV (i := 1) rfl, (HC9.out.belowS ((bre wz).drew)).cellV (i := 2) rfl, (HRZ.out.belowS ((bre wz).drew)).cellV (i := 0) rfl, (HRZ.out.belowS ((bre wz).drew)).cellV (i := 1) rfl, (HRZ.out.belowS ((bre wz).drew)).cellV (i := 2) rfl, (HRZ.out.belowS ((bre wz).drew)).cellV (i := 3) rfl⟩
        refine take_at 0 66 (.int .i64 0) rfl rfl (by kernel_rfl) (by kernel_rfl) (by kernel_rfl) (fun _ _ _ h => h) (Or.inl ⟨by rfl, ?_⟩) (by assumption) ?_
        · intro W0 hSw
          (try dsimp only at hSw)
          go_simp
        simp only [List.set_cons_zero, List.set_cons_succ]
        refine take_at 1 67 (.bool true) rfl rfl (by kernel_rfl) (by kernel_rfl) (by kernel_rfl) (fun _ _ _ h => h) (Or.inl ⟨by rfl, ?_⟩) (by assumption) ?_
        · intro W0 hSw
          (try dsimp only at hSw)
          go_simp
        simp only [List.set_cons_zero, List.set_cons_succ]
        refine take_at 2 68 (.bool true) rfl rfl (by kernel_rfl) (by kernel_rfl) (by kernel_rfl) (fun _ _ _ h => h) (Or.inl ⟨by rfl, ?_⟩) (by assumption) ?_
        · intro W0 hSw
          (try dsimp only at hSw)
          go_simp
        simp only [List.set_cons_zero, List.set_cons_succ]
        refine take_at 3 69 (.agg #[.int .i64 W, .int .i64 H, .slice A1 (W * H) c1]) rfl rfl (by kernel_rfl) (by kernel_rfl) (by kernel_rfl) (fun _ _ _ h => h) (Or.inl ⟨by rfl, ?_⟩) (by assumption) ?_
        · intro W0 hSw
          (try dsimp only at hSw)
          go_simp
        simp only [List.set_cons_zero, List.set_cons_succ]
        refine take_at 4 70 (.agg #[.int .i64 cw, .int .i64 ch, .slice A' n' c']) rfl rfl (by kernel_rfl) (by kernel_rfl) (by kernel_rfl) (fun _ _ _ h => h) (Or.inl ⟨by rfl, ?_⟩) (by assumption) ?_
        · intro W0 hSw
          (try dsimp only at hSw)
          go_simp
        simp only [List.set_cons_zero, List.set_cons_succ]
        refine take_at 5 71 (.pointer (some ⟨gr, 0, none⟩)) rfl rfl (by kernel_rfl) (by kernel_rfl) (by kernel_rfl) (fun _ _ _ h => h) (Or.inl ⟨by rfl, ?_⟩) (by assumption) ?_
        · intro W0 hSw
          (try dsimp only at hSw)
          go_simp
        simp only [List.set_cons_zero, List.set_cons_succ]
        refine take_at 6 72 (.int .i64 X) rfl rfl (by kernel_rfl) (by kernel_rfl) (by kernel_rfl) (fun _ _ _ h => h) (Or.inl ⟨by rfl, ?_⟩) (by assumption) ?_
        · intro W0 hSw
          (try dsimp only at hSw)
          go_simp
        simp only [List.set_cons_zero, List.set_cons_succ]
        refine take_at 7 73 (.pointer (some ⟨gr, 1, none⟩)) rfl rfl (by kernel_rfl) (by kernel_rfl) (by kernel_rfl) (fun _ _ _ h => h) (Or.inl ⟨by rfl, ?_⟩) (by assumption) ?_
        · intro W0 hSw
          (try dsimp only at hSw)
          go_simp
        simp only [List.set_cons_zero, List.set_cons_succ]
        refine take_at 8 74 (.int .i64 Y) rfl rfl (by kernel_rfl) (by kernel_rfl) (by kernel_rfl) (fun _ _ _ h => h) (Or.inl ⟨by rfl, ?_⟩) (by assumption) ?_
        · intro W0 hSw
          (try dsimp only at hSw)
          go_simp
        simp only [List.set_cons_zero, List.set_cons_succ]
        refine take_at 9 75 (.int .i64 W) rfl rfl (by kernel_rfl) (by kernel_rfl) (by kernel_rfl) (fun _ _ _ h => h) (Or.inl ⟨by rfl, ?_⟩) (by assumption) ?_
        · intro W0 hSw
          (try dsimp only at hSw)
          go_simp
        simp only [List.set_cons_zero, List.set_cons_succ]
        refine take_at 10 76 (.int .i64 H) rfl rfl (by kernel_rfl) (by kernel_rfl) (by kernel_rfl) (fun _ _ _ h => h) (Or.inl ⟨by rfl, ?_⟩) (by assumption) ?_
        · intro W0 hSw
          (try dsimp only at hSw)
          go_simp
        simp only [List.set_cons_zero, List.set_cons_succ]
        refine take_at 11 77 (.agg #[.int .i64 0, .int .i64 0, .int .i64 W, .int .i64 H]) rfl rfl (by kernel_rfl) (by kernel_rfl) (by kernel_rfl) (fun _ _ _ h => h) (Or.inl ⟨by rfl, ?_⟩) (by assumption) ?_
        · intro W0 hSw
          (try dsimp only at hSw)
          go_simp
        simp only [List.set_cons_zero, List.set_cons_succ]
        refine take_at 15 81 (.agg #[.int .i64 W, .int .i64 H, .slice A1 (W * H) c1]) rfl rfl (by kernel_rfl) (by kernel_rfl) (by kernel_rfl) (fun _ _ _ h => h) (Or.inl ⟨by rfl, ?_⟩) (by assumption) ?_
        · intro W0 hSw
          (try dsimp only at hSw)
          go_simp
        simp only [List.set_cons_zero, List.set_cons_succ]
        refine wpAnyH_ready (rs := [12]) (by kernel_rfl) (by simp) ?_
        refine AllReadyH.cons rfl (fun K hK => ?_) AllReadyH.nil
        go_simp
        have HBa := Lib.hid (show Below wz.heap.size wz (wz.drew.alloc (.cells #[.int .i64 0, .int .i64 0, .int .i64 W, .int .i64 H] 43)) from bal ((bre wz).drew) _)
        have HRa := Lib.hid (whole_rd (Blk.new wz.drew 43 #[.int .i64 0, .int .i64 0, .int .i64 W, .int .i64 H]))
        refine hK.out _ _ ?_ (fun hHeld => ?_)
        · (try dsimp only)
          exact ⟨(HGZ.out.belowS HBa.out).cellV (i := 0) rfl, (HGZ.out.belowS HBa.out).cellV (i := 1) rfl, (HGZ.out.belowS HBa.out).cellV (i := 2) rfl, (HC9.out.belowS HBa.out).cellV (i := 0) rfl, (HC9.out.belowS HBa.out).cellV (i := 1) rfl, (HC9.out.belowS HBa.out).cellV (i := 2) rfl, (HRZ.out.belowS HBa.out).cellV (i := 0) rfl, (HRZ.out.belowS HBa.out).cellV (i := 1) rfl, (HRZ.out.belowS HBa.out).cellV (i := 2) rfl, (HRZ.out.belowS HBa.out).cellV (i := 3) rfl⟩
        clear hK K
        refine wpAnyH_ready (rs := [13]) (by kernel_rfl) (by simp) ?_
        refine AllReadyH.cons rfl (fun K hK => ?_) AllReadyH.nil
        go_simp
        go_at_call 28
        refine (of_any _ 1 1 [wholeR W H] _ (by omega) HRa.out (by intro r hr; simp only [List.mem_singleton] at hr; subst hr; dsimp only [wholeR]; omega)).mono ?_
        rintro e w10 ⟨out, A3, c3, rfl, r10, hca, hpl, _, b10⟩
        obtain rfl := whole_of hW hH hca hpl
        have HR10 := Lib.hid r10
        have HB10 := Lib.hid (bstep HBa.out b10)
        clear hca hpl r10 b10
        refine hK.out _ _ ?_ (fun hHeld => ?_)
        · (try dsimp only)
          exact ⟨(HGZ.out.belowS HB10.out).cellV (i := 0) rfl, (HGZ.out.belowS HB10.out).cellV (i := 1) rfl, (HGZ.out.belowS HB10.out).cellV (i := 2) rfl, (HC9.out.belowS HB10.out).cellV (i := 0) rfl, (HC9.out.belowS HB10.out).cellV (i := 1) rfl, (HC9.out.belowS HB10.out).cellV (i := 2) rfl, (HRZ.out.belowS HB10.out).cellV (i := 0) rfl, (HRZ.out.belowS HB10.out).cellV (i := 1) rfl, (HRZ.out.belowS HB10.out).cellV (i := 2) rfl, (HRZ.out.belowS HB10.out).cellV (i := 3) rfl⟩
        clear hK K
        refine wpAnyH_ready (rs := [14]) (by kernel_rfl) (by simp) ?_
        refine AllReadyH.cons rfl (fun K hK => ?_) AllReadyH.nil
        go_simp
        go_at_call 31
        refine (lay_any W H cw ch px (cropL W H px X Y cw ch p) A1 A' A3 (W * H) c1 n' c' 1 c3 [wholeR W H] X Y _ hc1 rfl (by omega) (by omega) (HRG.out.below HB10.out) HE3.out hcw.1 hcw.2 (by rw [HE3.out]; exact HRC.out.below HB10.out) (by omega) HR10.out (by intro r hr; simp only [List.mem_singleton] at hr; subst hr; exact whole_cnt hW hH)).mono ?_
        rintro e w11 ⟨A5, c5, rfl, r11, _, b11⟩
        have HR11 := Lib.hid r11
        have HB11 := Lib.hid (bstep HB10.out b11)
        clear r11 b11
        refine hK.out _ _ ?_ (fun hHeld => ?_)
        · (try dsimp only)
          exact ⟨(HGZ.out.belowS HB11.out).cellV (i := 0) rfl, (HGZ.out.belowS HB11.out).cellV (i := 1) rfl, (HGZ.out.belowS HB11.out).cellV (i := 2) rfl, (HC9.out.belowS HB11.out).cellV (i := 0) rfl, (HC9.out.belowS HB11.out).cellV (i := 1) rfl, (HC9.out.belowS HB11.out).cellV (i := 2) rfl, (HRZ.out.belowS HB11.out).cellV (i := 0) rfl, (HRZ.out.belowS HB11.out).cellV (i := 1) rfl, (HRZ.out.belowS HB11.out).cellV (i := 2) rfl, (HRZ.out.belowS HB11.out).cellV (i := 3) rfl⟩
        clear hK K
        refine wpAnyH_ready (rs := [16]) (by kernel_rfl) (by simp) ?_
        refine AllReadyH.cons rfl (fun K hK => ?_) AllReadyH.nil
        go_simp
        go_at_call 25
        refine (gsame_any W H (layR W cw ch (cropL W H px X Y cw ch p) X Y [wholeR W H] px) px A5 A1 (W * H) c5 c1 _ hn16 HR11.out (HRG.out.below HB11.out)).mono ?_
        rintro e w12 ⟨rfl, b12⟩
        rw [HSM.out]
        have HB12 := Lib.hid (bstep HB11.out b12)
        clear b12
        refine hK.out _ _ ?_ (fun hHeld => ?_)
        · (try dsimp only)
          exact ⟨(HGZ.out.belowS HB12.out).cellV (i := 0) rfl, (HGZ.out.belowS HB12.out).cellV (i := 1) rfl, (HGZ.out.belowS HB12.out).cellV (i := 2) rfl, (HC9.out.belowS HB12.out).cellV (i := 0) rfl, (HC9.out.belowS HB12.out).cellV (i := 1) rfl, (HC9.out.belowS HB12.out).cellV (i := 2) rfl, (HRZ.out.belowS HB12.out).cellV (i := 0) rfl, (HRZ.out.belowS HB12.out).cellV (i := 1) rfl, (HRZ.out.belowS HB12.out).cellV (i := 2) rfl, (HRZ.out.belowS HB12.out).cellV (i := 3) rfl⟩
        clear hK K
        refine take_at 17 83 (.bool false) rfl rfl (by kernel_rfl) (by kernel_rfl) (by kernel_rfl) (fun _ _ _ h => h) (Or.inl ⟨by rfl, ?_⟩) (by assumption) ?_
        · intro W0 hSw
          (try dsimp only at hSw)
          go_simp
        simp only [List.set_cons_zero, List.set_cons_succ]
        refine take_at 18 84 (.bool false) rfl rfl (by kernel_rfl) (by kernel_rfl) (by kernel_rfl) (fun _ _ _ h => h) (Or.inl ⟨by rfl, ?_⟩) (by assumption) ?_
        · intro W0 hSw
          (try dsimp only at hSw)
          go_simp
        simp only [List.set_cons_zero, List.set_cons_succ]
        refine take_at 19 85 (.bool false) rfl rfl (by kernel_rfl) (by kernel_rfl) (by kernel_rfl) (fun _ _ _ h => h) (Or.inl ⟨by rfl, ?_⟩) (by assumption) ?_
        · intro W0 hSw
          (try dsimp only at hSw)
          go_simp
        simp only [List.set_cons_zero, List.set_cons_succ]
        refine take_at 20 86 undef rfl rfl (by kernel_rfl) (by kernel_rfl) (by kernel_rfl) (fun _ _ _ h => h) (Or.inr ⟨by rfl, rfl⟩) (by assumption) ?_
        simp only [List.set_cons_zero, List.set_cons_succ]
        refine take_at 21 87 undef rfl rfl (by kernel_rfl) (by kernel_rfl) (by kernel_rfl) (fun _ _ _ h => h) (Or.inr ⟨by rfl, rfl⟩) (by assumption) ?_
        simp only [List.set_cons_zero, List.set_cons_succ]
        refine take_at 22 88 undef rfl rfl (by kernel_rfl) (by kernel_rfl) (by kernel_rfl) (fun _ _ _ h => h) (Or.inr ⟨by rfl, rfl⟩) (by assumption) ?_
        simp only [List.set_cons_zero, List.set_cons_succ]
        refine take_at 23 89 (.bool false) rfl rfl (by kernel_rfl) (by kernel_rfl) (by kernel_rfl) (fun _ _ _ h => h) (Or.inl ⟨by rfl, ?_⟩) (by assumption) ?_
        · intro W0 hSw
          (try dsimp only at hSw)
          go_simp
        simp only [List.set_cons_zero, List.set_cons_succ]
        refine take_at 24 90 (.bool false) rfl rfl (by kernel_rfl) (by kernel_rfl) (by kernel_rfl) (fun _ _ _ h => h) (Or.inl ⟨by rfl, ?_⟩) (by assumption) ?_
        · intro W0 hSw
          (try dsimp only at hSw)
          go_simp
        simp only [List.set_cons_zero, List.set_cons_succ]
        refine take_at 25 91 undef rfl rfl (by kernel_rfl) (by kernel_rfl) (by kernel_rfl) (fun _ _ _ h => h) (Or.inr ⟨by rfl, rfl⟩) (by assumption) ?_
        simp only [List.set_cons_zero, List.set_cons_succ]
        refine take_at 26 92 undef rfl rfl (by kernel_rfl) (by kernel_rfl) (by kernel_rfl) (fun _ _ _ h => h) (Or.inr ⟨by rfl, rfl⟩) (by assumption) ?_
        simp only [List.set_cons_zero, List.set_cons_succ]
        refine take_at 27 93 undef rfl rfl (by kernel_rfl) (by kernel_rfl) (by kernel_rfl) (fun _ _ _ h => h) (Or.inr ⟨by rfl, rfl⟩) (by assumption) ?_
        simp only [List.set_cons_zero, List.set_cons_succ]
        refine take_at 28 94 (.bool false) rfl rfl (by kernel_rfl) (by kernel_rfl) (by kernel_rfl) (fun _ _ _ h => h) (Or.inl ⟨by rfl, ?_⟩) (by assumption) ?_
        · intro W0 hSw
          (try dsimp only at hSw)
          go_simp
        simp only [List.set_cons_zero, List.set_cons_succ]
        refine take_at 29 95 (.bool false) rfl rfl (by kernel_rfl) (by kernel_rfl) (by kernel_rfl) (fun _ _ _ h => h) (Or.inl ⟨by rfl, ?_⟩) (by assumption) ?_
        · intro W0 hSw
          (try dsimp only at hSw)
          go_simp
        simp only [List.set_cons_zero, List.set_cons_succ]
        refine take_at 30 96 undef rfl rfl (by kernel_rfl) (by kernel_rfl) (by kernel_rfl) (fun _ _ _ h => h) (Or.inr ⟨by rfl, rfl⟩) (by assumption) ?_
        simp only [List.set_cons_zero, List.set_cons_succ]
        refine take_at 31 97 undef rfl rfl (by kernel_rfl) (by kernel_rfl) (by kernel_rfl) (fun _ _ _ h => h) (Or.inr ⟨by rfl, rfl⟩) (by assumption) ?_
        simp only [List.set_cons_zero, List.set_cons_succ]
        refine take_at 32 98 undef rfl rfl (by kernel_rfl) (by kernel_rfl) (by kernel_rfl) (fun _ _ _ h => h) (Or.inr ⟨by rfl, rfl⟩) (by assumption) ?_
        simp only [List.set_cons_zero, List.set_cons_succ]
        refine take_at 33 99 undef rfl rfl (by kernel_rfl) (by kernel_rfl) (by kernel_rfl) (fun _ _ _ h => h) (Or.inr ⟨by rfl, rfl⟩) (by assumption) ?_
        simp only [List.set_cons_zero, List.set_cons_succ]
        refine take_at 34 100 undef rfl rfl (by kernel_rfl) (by kernel_rfl) (by kernel_rfl) (fun _ _ _ h => h) (Or.inr ⟨by rfl, rfl⟩) (by assumption) ?_
        simp only [List.set_cons_zero, List.set_cons_succ]
        refine take_at 35 101 undef rfl rfl (by kernel_rfl) (by kernel_rfl) (by kernel_rfl) (fun _ _ _ h => h) (Or.inr ⟨by rfl, rfl⟩) (by assumption) ?_
        simp only [List.set_cons_zero, List.set_cons_succ]
        refine take_at 36 102 undef rfl rfl (by kernel_rfl) (by kernel_rfl) (by kernel_rfl) (fun _ _ _ h => h) (Or.inr ⟨by rfl, rfl⟩) (by assumption) ?_
        simp only [List.set_cons_zero, List.set_cons_succ]
        refine take_at 37 103 (.bool false) rfl rfl (by kernel_rfl) (by kernel_rfl) (by kernel_rfl) (fun _ _ _ h => h) (Or.inl ⟨by rfl, ?_⟩) (by assumption) ?_
        · intro W0 hSw
          (try dsimp only at hSw)
          go_simp
        simp only [List.set_cons_zero, List.set_cons_succ]
        refine take_at 38 104 (.bool false) rfl rfl (by kernel_rfl) (by kernel_rfl) (by kernel_rfl) (fun _ _ _ h => h) (Or.inl ⟨by rfl, ?_⟩) (by assumption) ?_
        · intro W0 hSw
          (try dsimp only at hSw)
          go_simp
        simp only [List.set_cons_zero, List.set_cons_succ]
        refine take_at 39 105 undef rfl rfl (by kernel_rfl) (by kernel_rfl) (by kernel_rfl) (fun _ _ _ h => h) (Or.inr ⟨by rfl, rfl⟩) (by assumption) ?_
        simp only [List.set_cons_zero, List.set_cons_succ]
        refine take_at 40 106 undef rfl rfl (by kernel_rfl) (by kernel_rfl) (by kernel_rfl) (fun _ _ _ h => h) (Or.inr ⟨by rfl, rfl⟩) (by assumption) ?_
        simp only [List.set_cons_zero, List.set_cons_succ]
        refine take_at 41 107 undef rfl rfl (by kernel_rfl) (by kernel_rfl) (by kernel_rfl) (fun _ _ _ h => h) (Or.inr ⟨by rfl, rfl⟩) (by assumption) ?_
        simp only [List.set_cons_zero, List.set_cons_succ]
        refine take_at 42 108 undef rfl rfl (by kernel_rfl) (by kernel_rfl) (by kernel_rfl) (fun _ _ _ h => h) (Or.inr ⟨by rfl, rfl⟩) (by assumption) ?_
        simp only [List.set_cons_zero, List.set_cons_succ]
        refine take_at 43 109 undef rfl rfl (by kernel_rfl) (by kernel_rfl) (by kernel_rfl) (fun _ _ _ h => h) (Or.inr ⟨by rfl, rfl⟩) (by assumption) ?_
        simp only [List.set_cons_zero, List.set_cons_succ]
        refine take_at 44 110 undef rfl rfl (by kernel_rfl) (by kernel_rfl) (by kernel_rfl) (fun _ _ _ h => h) (Or.inr ⟨by rfl, rfl⟩) (by assumption) ?_
        simp only [List.set_cons_zero, List.set_cons_succ]
        refine take_at 45 111 undef rfl rfl (by kernel_rfl) (by kernel_rfl) (by kernel_rfl) (fun _ _ _ h => h) (Or.inr ⟨by rfl, rfl⟩) (by assumption) ?_
        simp only [List.set_cons_zero, List.set_cons_succ]
        refine take_at 46 112 (.bool false) rfl rfl (by kernel_rfl) (by kernel_rfl) (by kernel_rfl) (fun _ _ _ h => h) (Or.inl ⟨by rfl, ?_⟩) (by assumption) ?_
        · intro W0 hSw
          (try dsimp only at hSw)
          go_simp
        simp only [List.set_cons_zero, List.set_cons_succ]
        refine wpAnyH_done (by kernel_rfl) ?_ _
        refine NoPanic.normal ?_
        all_goals
          go_wp2_with fail
          go_meet
          exact ⟨rfl, HB12.out⟩
  case rest =>
    obtain ⟨rfl, hby⟩ := hcut
    obtain ⟨i0, hi0, hz0, hz1, hz2⟩ := info_parts Try.infoR
    have HGY := Lib.hid (HGZ.out.belowS hby)
    have HRGY := Lib.hid (HRG.out.below hby)
    have HSY := Lib.hid (HSZ.out.below hby)
    have HBY := Lib.hid (bstep HBZ.out hby)
    clear hby HGZ HRZ HRG HBZ HSZ HC9 HCRP HSM HFIN
    go_wp2_with fail
    go_loopw [19, 114] (fun v i wr => ∃ y : Nat, i = .int .i64 y ∧ y ≤ H ∧ wr.ownsRow wc.heap.size 43 4 v (cutR ss W y 0).length (rcs (cutR ss W y 0)) ∧ Below wc.heap.size wc wr) (fun _ i _ => H - (intOf i).toNat)
    case atStart => exact ⟨0, rfl, by omega, by simpa [cut_start, rcs] using World.ownsRow_nil wc wc.heap.size 43 4, bre wc⟩
    case round =>
      obtain ⟨y, rfl, hy, ho, hB⟩ := hrel
      have HO := Lib.hid ho
      have HB9 := Lib.hid hB
      clear ho hB
      by_cases hyl : y < H
      · have dy : decide ((y : Int) < (H : Int)) = true := by simp; omega
        go_wp2_with fail
        go_loopw [19, 118] (fun v i wq => ∃ x : Nat, i = .int .i64 x ∧ x ≤ W ∧ wq.ownsRow wc.heap.size 43 4 v (cutR ss W y x).length (rcs (cutR ss W y x)) ∧ Below wc.heap.size wc wq) (fun _ i _ => W - (intOf i).toNat)
        case atStart => exact ⟨0, rfl, by omega, HO.out, HB9.out⟩
        case round =>
          obtain ⟨x, rfl, hx, ho, hB⟩ := hrel
          have HO2 := Lib.hid ho
          have HB10 := Lib.hid hB
          have hBs := hB.size
          have hcl := cut_len ss W y x
          clear ho hB
          by_cases hxl : x < W
          · have dx : decide ((x : Int) < (W : Int)) = true := by simp; omega
            cases hin : inSm ss x y
            · have HIN := Lib.hid hin
              clear hin
              go_wp2_with (go_at_call 30; refine (inSm_any L nl cl ss x y _ (by omega) (HSY.out.below HB10.out) HOK.out).mono ?_; rintro e w20 ⟨rfl, b20⟩; rw [HIN.out]; have HB20 := Lib.hid b20; clear b20)
              go_roundw
              case rel => exact ⟨x + 1, by go_num, by omega, by rw [cut_no HIN.out]; exact ownsRow_below HO2.out HB20.out, bstep HB10.out HB20.out⟩
              case measure => simp [intOf]; omega
            · have HIN := Lib.hid hin
              clear hin
              go_upto_region 20 with (go_at_call 30; refine (inSm_any L nl cl ss x y _ (by omega) (HSY.out.below HB10.out) HOK.out).mono ?_; rintro e w20 ⟨rfl, b20⟩; rw [HIN.out]; have HB20 := Lib.hid b20; clear b20)
              have HO20 := Lib.hid (ownsRow_below HO2.out HB20.out)
              have hs20 := HB20.out.size
              have hcl2 : (cutR ss W y x).length ≤ 300 := by
                have : y * W ≤ 16 * 16 := Nat.mul_le_mul (by omega) (by omega)
                omega
              obtain ⟨K, hK⟩ : ∃ K, (cutR ss W y x).length = K := ⟨_, rfl⟩
              have HK := Lib.hid hK
              rw [hK] at HO20 hcl2
              clear hK hcl
              go_wp2_with (at_builtin; refine wpList_append_own _ rfl _ _ 60 rfl wc.heap.size 43 i0 _ 4 32 Try.underlying60 hi0 hz0 hz1 hz2 rfl (by decide) _ _ _ rfl (HO20.out.alloc _) ⟨w20.heap.size, 0, none⟩ 1 1 [.int .i64 x, .int .i64 y, .int .i64 1, .int .i64 1] rfl rfl (four_new _ _ _ _ _ _) (by simp [Value.oneCell']) (by simp only [maxLen]; omega) (by omega) (by simp; omega) ?_; intro v' w21 hown' hgrow _)
              have hB21 : Below wc.heap.size wc w21 := (bal (bstep HB10.out HB20.out) _).grown hgrow (by simp; omega) (own_ge HO20.out)
              go_roundw
              case rel => exact ⟨x + 1, by go_num, by omega, by rw [cut_yes HIN.out, rcs_append, List.length_append, HK.out]; exact hown', hB21⟩
              case measure => simp [intOf]; omega
          · obtain rfl : x = W := by omega
            go_wp2_with fail
            go_roundw
            case rel => exact ⟨y + 1, by go_num, by omega, by rw [cut_row]; exact HO2.out, HB10.out⟩
            case measure => simp [intOf]; omega
      · obtain rfl : y = H := by omega
        obtain ⟨Ac, cc, hvc, _⟩ := own_form HO.out
        subst hvc
        have hRC := RdR.of_own HO.out rfl
        have hcl9 : (cutR ss W y 0).length ≤ 300 := by
          have h1 := cut_len ss W y 0
          have h2 : y * W ≤ 16 * 16 := Nat.mul_le_mul (by omega) (by omega)
          omega
        have HRC9 := Lib.hid hRC
        clear hRC
        go_upto_region 23 with fail
        refine back_fill p q W y gg c1 px A1 L nl cl ss _ _ _ _ _ _ _ _ _ _ _ _ _ _ _ _ _ _ _ _ _ _ _ _ _ _ _ _ _ _ _ _ _ _ _ _ _ _ _ _ _ _ _ _ _ _ _ _ _ _ _ _ _ _ _ _ _ _ _ _ _ _ _ _ _ _ _ _ _ _ _ _ _ _ _ _ _ _ _ _ _ _ _ _ _ _ _ _ _ _ _ _ _ _ _ _ _ _ _ _ _ _ _ _ _ _ _ _ _ _ _ _ _ _ _ _ _ _ _ _ _ _ _ _ _ _ _ _ _ _ _ _ _ _ _ _ _ _ _ _ _ _ _ _ _ _ _ _ _ _ _ _ _ _ _ _ _ _ _ _ _ _ _ (by assumption) hW hH (by omega) (HGY.out.belowS HB9.out).lt (HGY.out.belowS HB9.out) (HRGY.out.below HB9.out) (HSY.out.below HB9.out) HOK.out ?_
        intro oL A2 gA w23 s133 s134 s135 s136 s137 s138 b23 hg23 ha23 hra23 hca23 hpl23
        refine bk_wp ?_
        refine back_end p q W y gg gA c1 px A1 A2 L _ nl cl _ _ ss oL _ _ _ _ _ _ _ _ _ _ _ _ _ _ _ _ _ _ _ _ _ _ _ _ _ _ _ _ _ _ _ _ _ _ _ _ _ _ _ _ _ _ _ _ _ _ _ _ _ _ _ _ _ _ _ _ _ _ _ _ _ _ _ _ _ _ _ _ _ _ _ _ _ _ _ _ _ _ _ _ _ _ _ _ _ _ _ _ _ _ _ _ _ _ _ _ _ _ _ _ _ _ _ _ _ _ _ _ _ _ _ _ _ _ _ _ _ _ _ _ _ _ _ _ _ _ _ _ _ _ _ _ _ _ _ _ _ _ _ _ _ _ _ _ _ _ _ _ _ _ _ _ _ _ _ _ _ _ _ _ hW hH (by omega) hcl9 HPL.out hg23 ha23 (HRGY.out.below (bstep HB9.out b23)) hra23 (HSY.out.below (bstep HB9.out b23)) HOK.out (HRC9.out.below b23) hca23 hpl23 ?_
        intro w24 x139 x140 x141 x142 x143 x144 x145 x146 x147 x148 x149 x150 x151 x152 x153 x154 x155 x156 x157 x158 x159 x160 x161 x162 x163 b24
        rw [bkRet]
        dsimp only
        go_wp2_with fail
        go_ret
        exact ⟨rfl, bstep HBY.out (bstep (bstep HB9.out b23) b24)⟩

end Go.Proofs.Ytcdecglbkcllaab
