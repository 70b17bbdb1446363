/-
  The walks of the grid's and the document's Same, and of the document's Set.
-/
import Derived.Test.YtcdecglbkcllaabGridWalkJ
namespace Go.Proofs.Ytcdecglbkcllaab
open Go.RowKit

theorem u8_at {w : World} {A : Option Addr} {n : Nat} {px : List Int} (hr : Rd w A n (U8 px)) (hn : 0 < n) : ∃ b off, A = some ⟨b, off, none⟩ ∧ b < w.heap.size ∧ ∀ k p, px[k]? = some p → w.cell? ⟨b, off + k, none⟩ = some (.int .u8 p) := by
  obtain ⟨b, off, e, hb, hc⟩ := hr.2 hn
  exact ⟨b, off, e, hb, fun k p hp => hc k _ (by simp [U8, hp])⟩
theorem u8_len {w : World} {A : Option Addr} {n : Nat} {px : List Int} (hr : Rd w A n (U8 px)) : px.length = n := by simpa [U8] using hr.1

set_option maxHeartbeats 1000000 in
theorem gsame_any (W H : Int) (px qx : List Int) (A A' : Option Addr) (n c c' : Nat) (w : World) (hn : n ≤ 16384) (hr : Rd w A n (U8 px)) (hr' : Rd w A' n (U8 qx)) :
    Calls Try.prog 25 #[.agg #[.int .i64 W, .int .i64 H, .slice A n c], .agg #[.int .i64 W, .int .i64 H, .slice A' n c']] w fun e w' => e = .returned (.bool (decide (px = qx))) ∧ Below w.heap.size w w' := by
  have HR := Lib.hid hr
  have HR' := Lib.hid hr'
  clear hr hr'
  go_enter Try.func25, Try.ntmps25
  go_wp2_with fail
  have b0 := (Blk.new w 25 #[.int .i64 W, .int .i64 H, .slice A n c]).alloc (.cells #[.int .i64 W, .int .i64 H, .slice A' n c'] 25)
  have b1 := Blk.new (w.alloc (.cells #[.int .i64 W, .int .i64 H, .slice A n c] 25)) 25 #[.int .i64 W, .int .i64 H, .slice A' n c']
  have bB : Below w.heap.size w ((w.alloc (.cells #[.int .i64 W, .int .i64 H, .slice A n c] 25)).alloc (.cells #[.int .i64 W, .int .i64 H, .slice A' n c'] 25)) := bal (bal (bre w) _) _
  rw [World.size_alloc] at b1
  obtain ⟨Z, hZ⟩ : ∃ Z, (w.alloc (.cells #[.int .i64 W, .int .i64 H, .slice A n c] 25)).alloc (.cells #[.int .i64 W, .int .i64 H, .slice A' n c'] 25) = Z := ⟨_, rfl⟩
  rw [hZ] at b0 b1 bB ⊢
  have BB := Lib.hid bB
  have x2 := b1.cellV (i := 2) (v := .slice A' n c') rfl
  clear hZ b0 b1 bB
  go_loop [22] (fun i => ∃ k : Nat, i = .int .i64 k ∧ k ≤ n ∧ px.take k = qx.take k) (fun i => n - (intOf i).toNat)
  case atStart => exact ⟨0, rfl, by omega, rfl⟩
  case round =>
    obtain ⟨k, rfl, hk, htk⟩ := hrel
    have HT := Lib.hid htk
    clear htk
    by_cases hlt : k < n
    · obtain ⟨p, hp⟩ : ∃ p, px[k]? = some p := ⟨_, List.getElem?_eq_getElem (by have := u8_len HR.out; omega)⟩
      obtain ⟨q, hq⟩ : ∃ q, qx[k]? = some q := ⟨_, List.getElem?_eq_getElem (by have := u8_len HR'.out; omega)⟩
      obtain ⟨b, off, rfl, hb, hc⟩ := u8_at HR.out (by omega)
      obtain ⟨b', off', rfl, hb', hc'⟩ := u8_at HR'.out (by omega)
      have e1 := (BB.out.cell (p := ⟨b, off + k, none⟩) hb).trans (hc k p hp)
      have e2 := (BB.out.cell (p := ⟨b', off' + k, none⟩) hb').trans (hc' k q hq)
      have HP := Lib.hid hp
      have HQ := Lib.hid hq
      have k0 : (0 : Int) ≤ (k : Int) := by omega
      have k1 : (k : Int) < (n : Int) := by omega
      clear hp hq hc hc'
      by_cases hpq : p = q
      · subst hpq
        go_wp2_with fail
        go_round
        case rel => exact ⟨k + 1, by go_num, by omega, by rw [List.take_add_one, List.take_add_one, HT.out, HP.out, HQ.out]⟩
        case measure => simp [intOf]; omega
      · have d1 : (q != p) = true := by rw [bne_iff_ne]; exact fun e => hpq e.symm
        have hne : px ≠ qx := fun e => hpq (by have h := HP.out; rw [e, HQ.out] at h; exact (Option.some.inj h).symm)
        have HNE := Lib.hid hne
        clear hne hpq
        go_wp2_with fail
        go_ret
        exact ⟨ret_bool (decide_eq_false HNE.out).symm, BB.out⟩
    · obtain rfl : k = n := by omega
      have he : px = qx := by
        have h := HT.out
        rw [List.take_of_length_le (by rw [u8_len HR.out]; exact Nat.le_refl _), List.take_of_length_le (by rw [u8_len HR'.out]; exact Nat.le_refl _)] at h
        exact h
      have HE := Lib.hid he
      clear he
      go_wp2_with fail
      go_ret
      exact ⟨ret_bool (decide_eq_true HE.out).symm, BB.out⟩

set_option maxHeartbeats 1000000 in
theorem rsame_any (W H : Nat) (px qx : List Int) (A A' : Option Addr) (n c c' : Nat) (w : World) (hn : n = W * H) (hW : W ≤ 128) (hH : H ≤ 128) (hr : Rd w A n (U8 px)) (hr' : Rd w A' n (U8 qx)) :
    Calls Try.prog 26 #[.agg #[.int .i64 W, .int .i64 H, .slice A n c], .agg #[.int .i64 W, .int .i64 H, .slice A' n c']] w fun e w' => e = .returned (.bool (decide (px = qx))) ∧ Below w.heap.size w w' := by
  have hnm := mul_le_128 hW hH
  rw [← hn] at hnm
  have hmul : IntKind.i64.wrap ((W : Int) * (H : Int)) = (n : Int) := by rw [hn, ← Int.natCast_mul, ← hn]; exact IntWalk.i64_in _ (by omega)
  have hm2 : (W : Int) * (H : Int) = (n : Int) := by rw [hn, Int.natCast_mul]
  have HR := Lib.hid hr
  have HR' := Lib.hid hr'
  clear hr hr' hn
  go_enter Try.func26, Try.ntmps26
  go_wp2_with fail
  have b0 := (Blk.new w 36 #[.int .i64 W, .int .i64 H, .slice A n c]).alloc (.cells #[.int .i64 W, .int .i64 H, .slice A' n c'] 36)
  have b1 := Blk.new (w.alloc (.cells #[.int .i64 W, .int .i64 H, .slice A n c] 36)) 36 #[.int .i64 W, .int .i64 H, .slice A' n c']
  have bB : Below w.heap.size w ((w.alloc (.cells #[.int .i64 W, .int .i64 H, .slice A n c] 36)).alloc (.cells #[.int .i64 W, .int .i64 H, .slice A' n c'] 36)) := bal (bal (bre w) _) _
  rw [World.size_alloc] at b1
  obtain ⟨Z, hZ⟩ : ∃ Z, (w.alloc (.cells #[.int .i64 W, .int .i64 H, .slice A n c] 36)).alloc (.cells #[.int .i64 W, .int .i64 H, .slice A' n c'] 36) = Z := ⟨_, rfl⟩
  rw [hZ] at b0 b1 bB ⊢
  have BB := Lib.hid bB
  have y0 := b0.cellV (i := 0) (v := .int .i64 W) rfl
  have y1 := b0.cellV (i := 1) (v := .int .i64 H) rfl
  have y2 := b0.cellV (i := 2) (v := .slice A n c) rfl
  have x2 := b1.cellV (i := 2) (v := .slice A' n c') rfl
  clear hZ b0 b1 bB
  go_loopw [5] (fun i wr => ∃ k : Nat, i = .int .i64 k ∧ k ≤ n ∧ px.take k = qx.take k ∧ ∃ m, wr = Z.drewN m) (fun i _ => n - (intOf i).toNat)
  case atStart => exact ⟨0, rfl, by omega, rfl, 0, rfl⟩
  case round =>
    obtain ⟨k, rfl, hk, htk, m, rfl⟩ := hrel
    have HT := Lib.hid htk
    clear htk
    by_cases hlt : k < n
    · obtain ⟨p, hp⟩ : ∃ p, px[k]? = some p := ⟨_, List.getElem?_eq_getElem (by have := u8_len HR.out; omega)⟩
      obtain ⟨q, hq⟩ : ∃ q, qx[k]? = some q := ⟨_, List.getElem?_eq_getElem (by have := u8_len HR'.out; omega)⟩
      obtain ⟨b, off, rfl, hb, hc⟩ := u8_at HR.out (by omega)
      obtain ⟨b', off', rfl, hb', hc'⟩ := u8_at HR'.out (by omega)
      have e1 := (BB.out.cell (p := ⟨b, off + k, none⟩) hb).trans (hc k p hp)
      have e2 := (BB.out.cell (p := ⟨b', off' + k, none⟩) hb').trans (hc' k q hq)
      have HP := Lib.hid hp
      have HQ := Lib.hid hq
      have k0 : (0 : Int) ≤ (k : Int) := by omega
      have k1 : (k : Int) < (n : Int) := by omega
      clear hp hq hc hc'
      by_cases hpq : p = q
      · subst hpq
        go_wp2_with fail
        go_quiet (fail)
        go_wp2_with fail
        go_roundw
        case rel => exact ⟨k + 1, by go_num, by omega, by rw [List.take_add_one, List.take_add_one, HT.out, HP.out, HQ.out], _, rfl⟩
        case measure => simp [intOf]; omega
      · have d1 : (p != q) = true := by rw [bne_iff_ne]; exact hpq
        have hne : px ≠ qx := fun e => hpq (by have h := HP.out; rw [e, HQ.out] at h; exact (Option.some.inj h).symm)
        have HNE := Lib.hid hne
        clear hne hpq
        go_wp2_with fail
        go_quiet (fail)
        go_wp2_with fail
        go_ret
        exact ⟨ret_bool (decide_eq_false HNE.out).symm, below_drewN (below_drewN BB.out _) _⟩
    · obtain rfl : k = n := by omega
      have he : px = qx := by
        have h := HT.out
        rw [List.take_of_length_le (by rw [u8_len HR.out]; exact Nat.le_refl _), List.take_of_length_le (by rw [u8_len HR'.out]; exact Nat.le_refl _)] at h
        exact h
      have HE := Lib.hid he
      clear he
      go_wp2_with fail
      go_ret
      exact ⟨ret_bool (decide_eq_true HE.out).symm, below_drewN BB.out _⟩

set_option maxRecDepth 100000 in
set_option maxHeartbeats 2000000 in
theorem rset_any (W H : Nat) (px : List Int) (x y p : Int) (A : Option Addr) (n c : Nat) (w : World) (hn : n = W * H) (hW : W ≤ 128) (hH : H ≤ 128) (hr : Rd w A n (U8 px)) :
    Calls Try.prog 22 #[.agg #[.int .i64 W, .int .i64 H, .slice A n c], .int .i64 x, .int .i64 y, .int .u8 p] w fun e w' => ∃ A' c', e = .returned (.agg #[.int .i64 W, .int .i64 H, .slice A' n c']) ∧ Rd w' A' n (U8 (gset W H px x y p)) ∧ (A' = A ∨ Fr w.heap.size A') ∧ Below w.heap.size w w' := by
  have hnm := mul_le_128 hW hH
  rw [← hn] at hnm
  have HN := Lib.hid hn
  have HR := Lib.hid hr
  clear hr hn
  cases hh : hasB W H x y
  · have hv : gset W H px x y p = px := by simp [gset, hh]
    have HV := Lib.hid hv
    clear hv
    go_enter Try.func22, Try.ntmps22
    go_wp2_with (go_at_call 32; refine (rin_any _ _ _ _ _ _ _ _).mono ?_; rintro e w' ⟨rfl, rfl⟩)
    refine bodyPost_ret (v := .agg #[.int .i64 W, .int .i64 H, .slice A n c]) (by simp [results, Try.results22, go_sem]) rfl ⟨A, c, rfl, ?_, .inl rfl, ?_⟩
    · rw [HV.out]; exact HR.out.below (bal (bal (bal (bre w) _) _) _)
    · exact bal (bal (bal (bre w) _) _) _
  · have hi := has_idx hh
    have hb := (has_iff W H x y).1 hh
    have hm : y * (W : Int) + x = ((y.toNat * W + x.toNat : Nat) : Int) := by
      rw [Int.natCast_add, Int.natCast_mul, Int.toNat_of_nonneg hb.2.2.1, Int.toNat_of_nonneg hb.1]
    have m1 : 0 ≤ y * (W : Int) := Int.mul_nonneg hb.2.2.1 (by omega)
    have m2 : y * (W : Int) ≤ 16384 := by
      have : y * (W : Int) ≤ 128 * 128 := Int.mul_le_mul (by omega) (by omega) (by omega) (by omega)
      omega
    have m3 : y * (W : Int) + x < (n : Int) := by rw [hm, HN.out]; omega
    have m4 : (y * (W : Int) + x).toNat = y.toNat * W + x.toNat := by rw [hm]; exact Int.toNat_natCast _
    have hv : gset W H px x y p = px.set (y * (W : Int) + x).toNat p := by unfold gset; rw [if_pos hh, m4]
    have hidx : (y * (W : Int) + x).toNat < n := by rw [m4, HN.out]; exact hi
    have HV := Lib.hid hv
    obtain ⟨b, off, rfl, hbl, hcell⟩ := HR.out.2 (by omega)
    have hul : (U8 px).length = n := HR.out.1
    have HUL := Lib.hid hul
    have HCELL := Lib.hid hcell
    clear hv hm m4 hi hcell hul
    obtain ⟨i0, hi0, hz0, hz1, hz2⟩ := info_parts Try.infoPx
    go_enter Try.func22, Try.ntmps22
    go_upto_region 4 with (go_at_call 32; refine (rin_any _ _ _ _ _ _ _ _).mono ?_; rintro e w' ⟨rfl, rfl⟩)
    have q0 := ((Blk.new w 36 #[.int .i64 W, .int .i64 H, .slice (some ⟨b, off, none⟩) n c]).alloc (.cells #[.int .i64 0, .int .i64 0, .slice none 0 0] 36)).alloc (.cells #[.int .i64 W, .int .i64 H, .slice (some ⟨b, off, none⟩) n c] 36)
    have q1 := (Blk.new (w.alloc (.cells #[.int .i64 W, .int .i64 H, .slice (some ⟨b, off, none⟩) n c] 36)) 36 #[.int .i64 0, .int .i64 0, .slice none 0 0]).alloc (.cells #[.int .i64 W, .int .i64 H, .slice (some ⟨b, off, none⟩) n c] 36)
    rw [World.size_alloc] at q1
    have qB : Below w.heap.size w (((w.alloc (.cells #[.int .i64 W, .int .i64 H, .slice (some ⟨b, off, none⟩) n c] 36)).alloc (.cells #[.int .i64 0, .int .i64 0, .slice none 0 0] 36)).alloc (.cells #[.int .i64 W, .int .i64 H, .slice (some ⟨b, off, none⟩) n c] 36)) := bal (bal (bal (bre w) _) _) _
    obtain ⟨Z, hZ⟩ : ∃ Z, ((w.alloc (.cells #[.int .i64 W, .int .i64 H, .slice (some ⟨b, off, none⟩) n c] 36)).alloc (.cells #[.int .i64 0, .int .i64 0, .slice none 0 0] 36)).alloc (.cells #[.int .i64 W, .int .i64 H, .slice (some ⟨b, off, none⟩) n c] 36) = Z := ⟨_, rfl⟩
    rw [hZ] at q0 q1 qB ⊢
    have Q0 := Lib.hid q0
    have Q1 := Lib.hid q1
    have QB := Lib.hid qB
    have x2 := q0.cellV (i := 2) (v := .slice (some ⟨b, off, none⟩) n c) rfl
    have zz := q1.lt
    have hnews : ∀ j u, (U8 px)[j]? = some u → Z.cell? ((⟨b, off, none⟩ : Addr).add j) = some u := fun j u hu => by
      have h := (qB.cell (p := ⟨b, off + j, none⟩) hbl).trans (HCELL.out j u hu)
      unfold Addr.add
      split
      · rename_i h0; subst h0; exact h
      · exact h
    have HNEW := Lib.hid hnews
    clear hZ q0 q1 qB hnews
    go_upto_region 5 with (at_builtin; refine wpList_append_own _ rfl _ _ 23 rfl Z.heap.size 22 i0 _ 1 1 Try.underlying23 hi0 hz0 hz1 hz2 rfl (by decide) _ _ _ rfl (World.ownsRow_nil Z Z.heap.size 22 1) ⟨b, off, none⟩ n c (U8 px) rfl (by rw [HUL.out, Nat.mul_one]) HNEW.out (by simp [U8, Value.oneCell']) (by simp only [maxLen]; omega) (by omega) (Nat.le_refl _) ?_; intro v' w4 hown' hgrow _; simp only [Nat.zero_add, List.nil_append] at hown')
    obtain ⟨g, cap, rfl⟩ : ∃ g cap, v' = .slice (some ⟨g, 0, none⟩) n cap := by
      rcases hown'.2 with ⟨_, h0⟩ | ⟨g, cap, cur, rfl, _⟩
      · omega
      · exact ⟨g, cap, rfl⟩
    have b4 := below_of_grown hgrow
    have hgl := hown'.lt g rfl
    have r0 := Q0.out.belowS b4
    have r1 := Q1.out.belowS b4
    have rB := bstep QB.out b4
    obtain ⟨v0, hv0⟩ : ∃ v, (U8 px)[(y * (W : Int) + x).toNat]? = some v := ⟨_, List.getElem?_eq_getElem (by have := HUL.out; omega)⟩
    have c0 := r0.cellV (i := 0) (v := .int .i64 W) rfl
    have cp := (hown'.cellAt (y * (W : Int) + x).toNat (by omega)).trans hv0
    have fp := hown'.frozenAt (y * (W : Int) + x).toNat
    have R0 := Lib.hid r0
    have R1 := Lib.hid r1
    have RB := Lib.hid rB
    have HO := Lib.hid hown'
    clear hgrow b4 r0 r1 rB hv0 hown' x2
    go_upto_region 6 with fail
    have r0 := R0.out.far (p := ⟨g, (y * (W : Int) + x).toNat, none⟩) (by dsimp only; omega) (.int .u8 p)
    have r1 := R1.out.far (p := ⟨g, (y * (W : Int) + x).toNat, none⟩) (by dsimp only; omega) (.int .u8 p)
    have rO := (HO.out.stored (y * (W : Int) + x).toNat (.int .u8 p)).1
    have rB := bset (p := ⟨g, (y * (W : Int) + x).toNat, none⟩) RB.out (by have := QB.out.size; dsimp only; omega) (.int .u8 p)
    obtain ⟨Y, hY⟩ : ∃ Y, w4.setCell ⟨g, (y * (W : Int) + x).toNat, none⟩ (.int .u8 p) = Y := ⟨_, rfl⟩
    rw [hY] at r0 r1 rO rB ⊢
    have d0 := r0.cellV (i := 0) (v := .int .i64 W) rfl
    have d1 := r0.cellV (i := 1) (v := .int .i64 H) rfl
    have d2 := r0.cellV (i := 2) (v := .slice (some ⟨b, off, none⟩) n c) rfl
    have fr2 := r0.frozen 2
    have s0 := r1.cellV (i := 0) (v := .int .i64 0) rfl
    have s1 := r1.cellV (i := 1) (v := .int .i64 0) rfl
    have s2 := r1.cellV (i := 2) (v := .slice none 0 0) rfl
    have f0 := r1.frozen 0
    have f1 := r1.frozen 1
    have f2 := r1.frozen 2
    have R2 := Lib.hid rO
    have RB2 := Lib.hid rB
    clear hY r0 r1 rO rB c0 cp fp R0 R1 RB HO
    go_wp2_with fail
    refine bodyPost_ret (v := .agg #[.int .i64 W, .int .i64 H, .slice (some ⟨g, 0, none⟩) n cap]) (by simp [results, Try.results22, go_sem, s0, s1, s2]) rfl ⟨some ⟨g, 0, none⟩, cap, rfl, ?_, .inr (fun a ea => by cases ea; have := QB.out.size; dsimp only; omega), ?_⟩
    · rw [HV.out]
      have hr := Rd.of_own R2.out
      have e : (U8 px).set (y * (W : Int) + x).toNat (.int .u8 p) = U8 (px.set (y * (W : Int) + x).toNat p) := by simp [U8, List.map_set]
      rw [e] at hr
      have hne : ∀ a : Addr, some (⟨g, 0, none⟩ : Addr) = some a → a.block ≠ w.heap.size + 1 := fun a e => by cases e; dsimp only; omega
      have hne' : ∀ a : Addr, some (⟨g, 0, none⟩ : Addr) = some a → a.block ≠ w.heap.size := fun a e => by cases e; dsimp only; omega
      exact (((hr.far (p := ⟨w.heap.size, 2, none⟩) hne' _).far (p := ⟨w.heap.size + 1, 0, none⟩) hne _).far (p := ⟨w.heap.size + 1, 1, none⟩) hne _).far (p := ⟨w.heap.size + 1, 2, none⟩) hne _
    · exact bset (p := ⟨_, _, _⟩) (bset (p := ⟨_, _, _⟩) (bset (p := ⟨_, _, _⟩) (bset (p := ⟨_, _, _⟩) RB2.out (by dsimp only; omega) _) (by dsimp only; omega) _) (by dsimp only; omega) _) (by dsimp only; omega) _

end Go.Proofs.Ytcdecglbkcllaab
