/-
  The walks of a grid's twin and Set.
-/
import Derived.Test.YtcdecglbkcllaabGridWalkB
namespace Go.Proofs.Ytcdecglbkcllaab
open Go.RowKit

set_option maxHeartbeats 1000000 in
theorem twin_any (W H : Int) (A : Option Addr) (n c : Nat) (px : List Int) (w : World) (hn : n ≤ 16384) (hr : Rd w A n (U8 px)) :
    Calls Try.prog 37 #[.agg #[.int .i64 W, .int .i64 H, .slice A n c]] w fun e w' => ∃ g, e = .returned (.agg #[.int .i64 W, .int .i64 H, .slice (some ⟨g, 0, none⟩) n n]) ∧ w'.ownsRow w.heap.size 22 1 (.slice (some ⟨g, 0, none⟩) n n) n (U8 px) ∧ Below w.heap.size w w' := by
  obtain ⟨i0, hi, hz0, hz1, hz2⟩ := info_parts Try.infoPx
  have HR := Lib.hid hr
  clear hr
  go_enter Try.func37, Try.ntmps37
  go_upto_region 2 with (at_make; refine wpList_make_full _ rfl _ _ 23 rfl (w.heap.size + 2) 22 i0 _ 1 Try.underlying23 hi hz0 hz1 _ _ _ _ n rfl rfl rfl rfl (by rw [hz2]; omega) (by simp only [maxLen]; omega) (by simp) ?_; intro w1 hown hg1; have HO := Lib.hid hown; have hB1 : Below (w.heap.size + 2) ((w.alloc (.cells #[.int .i64 W, .int .i64 H, .slice A n c] 25)).alloc (.cells #[.int .i64 0, .int .i64 0, .slice none 0 0] 25)) w1 := (Below.refl _ _).grown hg1 (by simp) (by simp); clear hown hg1; have q2 : w1.cell? ⟨w.heap.size, 2, none⟩ = some (.slice A n c) := (hB1.cell (p := ⟨w.heap.size, 2, none⟩) (by dsimp only; omega)).trans (by go_simp))
  obtain ⟨CUR, hCUR⟩ : ∃ CUR, (madeCells (Value.int .u8 0).cells (n * 1)).toList = CUR := ⟨_, rfl⟩
  have hblk : w1.heap[w.heap.size + 1 + 1]? = some (.cells CUR.toArray 22 (0, 0)) := by rw [← hCUR]; have := (own_blk HO.out).2; simpa [Blk] using this
  have hcl : CUR.length = n := by rw [← hCUR]; have := HO.out.1; simpa using this
  have HBK := Lib.hid hblk
  have HCL := Lib.hid hcl
  obtain ⟨CS, hCS⟩ : ∃ CS, U8 px = CS := ⟨_, rfl⟩
  have HCS := Lib.hid hCS
  clear hblk hcl hCUR hCS
  have hisz : (Try.prog.info? 22).map (·.size) = some 1 := by kernel_rfl
  have HIS := Lib.hid hisz
  clear hisz
  apply wp_region_lit
  iterate 9 (first | go_step | go_upon)
  have hlen : CS.length = n := by rw [← HCS.out]; exact HR.out.1
  refine wpList_copy_splice rfl (.tmp 8) (.tmp 10) 23 23 rfl 22 Try.underlying23 HIS.out (some ⟨w.heap.size + 1 + 1, 0, none⟩) A n n n c rfl rfl (w.heap.size + 1 + 1) 0 CUR 22 HBK.out CS ?hn ?hpos ?hfit ?h1 (w.heap.size + 2) _ hB1 (by omega) ?_
  case hn => rw [hlen]; exact (Nat.min_self n).symm
  case hpos =>
    intro h0
    refine ⟨rfl, ?_⟩
    obtain ⟨b, off, e, hb, hc⟩ := HR.out.2 (by omega)
    refine ⟨_, e, fun j v hj => ?_⟩
    rw [HCS.out] at hc
    have hcj := hc j v hj
    have hlt := block_lt_of_cell hcj
    have : w1.cell? ⟨b, off + j, none⟩ = some v := by
      rw [hB1.cell (p := ⟨b, off + j, none⟩) (by dsimp only at hlt ⊢; omega), World.cell?_alloc_lt _ _ _ (by dsimp only at hlt ⊢; simp; omega), World.cell?_alloc_lt _ _ _ hlt]
      exact hcj
    unfold Addr.add
    split
    · rename_i e0; subst e0; exact this
    · exact this
  case hfit => rw [hlen, HCL.out]; omega
  case h1 => rw [← HCS.out]; intro v hv; simp [U8] at hv; obtain ⟨x, _, rfl⟩ := hv; rfl
  intro w2 hg2 hB2
  have hg3 : Blk w2 (w.heap.size + 1 + 1) 22 (U8 px).toArray := by
    have h := hg2.out
    have e : splice CUR 0 CS = U8 px := by unfold splice; rw [HCS.out]; simp [HCL.out, hlen]
    rw [e] at h
    exact h
  have HG := Lib.hid hg3
  have HLN := Lib.hid hlen
  have r0 : w2.cell? ⟨w.heap.size, 0, none⟩ = some (.int .i64 W) := (hB2.cell (p := ⟨w.heap.size, 0, none⟩) (by dsimp only; omega)).trans (by go_simp)
  have r1 : w2.cell? ⟨w.heap.size, 1, none⟩ = some (.int .i64 H) := (hB2.cell (p := ⟨w.heap.size, 1, none⟩) (by dsimp only; omega)).trans (by go_simp)
  have s0 : Blk w2 (w.heap.size + 1) 25 #[.int .i64 0, .int .i64 0, .slice none 0 0] := (hB2.block (w.heap.size + 1) (by omega)).trans (by have := Blk.new (w.alloc (.cells #[.int .i64 W, .int .i64 H, .slice A n c] 25)) 25 #[.int .i64 0, .int .i64 0, .slice none 0 0]; rw [World.size_alloc] at this; exact this)
  have d0 := s0.cellV (i := 0) rfl
  have d1 := s0.cellV (i := 1) rfl
  have d2 := s0.cellV (i := 2) rfl
  have f0 := s0.frozen 0
  have f1 := s0.frozen 1
  have f2 := s0.frozen 2
  have HBB : Hid (Below w.heap.size w w2) := (bal (bal (bre w) _) _).trans (hB2.mono (by omega))
  clear hg2 hg3 hlen s0 hB2 hB1 q2
  go_wp2_with fail
  refine bodyPost_ret (v := .agg #[.int .i64 W, .int .i64 H, .slice (some ⟨w.heap.size + 1 + 1, 0, none⟩) n n]) (by simp [results, Try.results37, go_sem, d0, d1, d2]) rfl ⟨w.heap.size + 1 + 1, rfl, ?_, ?_⟩
  · refine ownsRow_base (base := w.heap.size + 2) ?_ (by omega)
    exact own_far (p := ⟨w.heap.size + 1, 2, none⟩) (own_far (p := ⟨w.heap.size + 1, 1, none⟩) (own_far (p := ⟨w.heap.size + 1, 0, none⟩) (blk_own HG.out (Nat.le_refl _) (HCS.out ▸ HLN.out) (by simp only [maxLen]; omega)) (by dsimp only; omega) _) (by dsimp only; omega) _) (by dsimp only; omega) _
  · exact bset (p := ⟨_, _, _⟩) (bset (p := ⟨_, _, _⟩) (bset (p := ⟨_, _, _⟩) HBB.out (by dsimp only; omega) _) (by dsimp only; omega) _) (by dsimp only; omega) _

def gset (W H : Nat) (px : List Int) (x y p : Int) : List Int := if hasB W H x y then px.set (y.toNat * W + x.toNat) p else px
theorem gset_length (W H : Nat) (px : List Int) (x y p : Int) : (gset W H px x y p).length = px.length := by unfold gset; split <;> simp

set_option maxHeartbeats 1000000 in
theorem set_any (W H : Nat) (px : List Int) (x y p : Int) (A : Option Addr) (n c : Nat) (w : World) (hn : n = W * H) (hW : W ≤ 128) (hH : H ≤ 128) (hc : n ≤ c) (hr : Rd w A n (U8 px)) :
    Calls Try.prog 21 #[.agg #[.int .i64 W, .int .i64 H, .slice A n c], .int .i64 x, .int .i64 y, .int .u8 p] w fun e w' => ∃ A' c', e = .returned (.agg #[.int .i64 W, .int .i64 H, .slice A' n c']) ∧ Rd w' A' n (U8 (gset W H px x y p)) ∧ n ≤ c' ∧ (A' = A ∨ Fr w.heap.size A') ∧ Below w.heap.size w w' := by
  have hnm := mul_le_128 hW hH
  rw [← hn] at hnm
  have HN := Lib.hid hn
  have HR := Lib.hid hr
  clear hr hn
  cases hh : hasB W H x y
  · have hv : gset W H px x y p = px := by simp [gset, hh]
    have HV := Lib.hid hv
    clear hv
    go_enter Try.func21, Try.ntmps21
    go_wp2_with (go_at_call 35; refine (has_any _ _ _ _ _ _ _ _).mono ?_; rintro e w' ⟨rfl, rfl⟩)
    refine bodyPost_ret (v := .agg #[.int .i64 W, .int .i64 H, .slice A n c]) (by simp [results, Try.results21, go_sem]) rfl ⟨A, c, rfl, ?_, hc, .inl rfl, ?_⟩
    · rw [HV.out]; exact HR.out.below (bal (bal (bal (bre w) _) _) _)
    · exact bal (bal (bal (bre w) _) _) _
  · have hi := has_idx hh
    have hb := (has_iff W H x y).1 hh
    have hm : y * (W : Int) + x = ((y.toNat * W + x.toNat : Nat) : Int) := by
      rw [Int.natCast_add, Int.natCast_mul, Int.toNat_of_nonneg hb.2.2.1, Int.toNat_of_nonneg hb.1]
    have m1 : 0 ≤ y * (W : Int) := Int.mul_nonneg hb.2.2.1 (by omega)
    have m2 : y * (W : Int) ≤ 16384 := by
      have : y * (W : Int) ≤ 128 * 128 := Int.mul_le_mul (by omega) (by omega) (by omega) (by omega)
      omega
    have m3 : y * (W : Int) + x < (n : Int) := by rw [hm, HN.out]; omega
    have m4 : (y * (W : Int) + x).toNat = y.toNat * W + x.toNat := by rw [hm]; exact Int.toNat_natCast _
    have hv : gset W H px x y p = px.set (y * (W : Int) + x).toNat p := by unfold gset; rw [if_pos hh, m4]
    have hidx : (y * (W : Int) + x).toNat < n := by rw [m4, HN.out]; exact hi
    have HV := Lib.hid hv
    clear hv hm m4 hi
    go_enter Try.func21, Try.ntmps21
    go_upto_region 4 with (first
      | (go_at_call 35; refine (has_any _ _ _ _ _ _ _ _).mono ?_; rintro e w' ⟨rfl, rfl⟩)
      | (go_at_call 37; refine (twin_any _ _ _ _ _ px _ hnm (HR.out.below (bal (bal (bal (bre w) _) _) _))).mono ?_; rintro e w1 ⟨g, rfl, hown, hb1⟩; have HO := Lib.hid hown; have HB1 := Lib.hid hb1; have z1 := hb1.size; simp only [World.size_alloc] at z1; clear hown hb1))
    have hgl := (own_blk HO.out).2.lt
    have hge := (own_blk HO.out).1
    simp only [World.size_alloc] at hge
    have hres : Blk w1 (w.heap.size + 1) 25 #[.int .i64 0, .int .i64 0, .slice none 0 0] := by
      refine Blk.below (B := w.heap.size + 1 + 1 + 1) ?_ (HB1.out.mono (by simp)) (by omega)
      have := (Blk.new (w.alloc (.cells #[.int .i64 W, .int .i64 H, .slice A n c] 25)) 25 #[.int .i64 0, .int .i64 0, .slice none 0 0]).alloc (.cells #[.int .i64 W, .int .i64 H, .slice A n c] 25)
      rw [World.size_alloc] at this
      exact this
    have hbx := Blk.new w1 25 #[.int .i64 W, .int .i64 H, .slice (some ⟨g, 0, none⟩) n n]
    have hpx := (HO.out.alloc (.cells #[.int .i64 W, .int .i64 H, .slice (some ⟨g, 0, none⟩) n n] 25))
    have hBX : Below w.heap.size w (w1.alloc (.cells #[.int .i64 W, .int .i64 H, .slice (some ⟨g, 0, none⟩) n n] 25)) := bal (bstep (bal (bal (bal (bre w) _) _) _) HB1.out) _
    have hres := hres.alloc (.cells #[.int .i64 W, .int .i64 H, .slice (some ⟨g, 0, none⟩) n n] 25)
    obtain ⟨X, hX⟩ : ∃ X, w1.alloc (.cells #[.int .i64 W, .int .i64 H, .slice (some ⟨g, 0, none⟩) n n] 25) = X := ⟨_, rfl⟩
    obtain ⟨B, hB⟩ : ∃ B, w1.heap.size = B := ⟨_, rfl⟩
    rw [hX] at hbx hpx hBX hres ⊢
    rw [hB] at hbx hgl z1 ⊢
    clear hX hB HB1 HO
    have HP := Lib.hid hpx
    have HX := Lib.hid hBX
    have HRS := Lib.hid hres
    have HBX := Lib.hid hbx
    obtain ⟨v0, hv0⟩ : ∃ v, (U8 px)[(y * (W : Int) + x).toNat]? = some v := ⟨_, List.getElem?_eq_getElem (by have := HR.out.1; omega)⟩
    have c0 := hbx.cellV (i := 0) rfl
    have c2 := hbx.cellV (i := 2) rfl
    have cp := (hpx.cellAt (y * (W : Int) + x).toNat (by omega)).trans hv0
    have fp := hpx.frozenAt (y * (W : Int) + x).toNat
    clear hbx hpx hBX hres hv0
    go_upto_region 5 with fail
    have hbx2 := HBX.out.far (p := ⟨g, (y * (W : Int) + x).toNat, none⟩) (by dsimp only; omega) (.int .u8 p)
    have hrs2 := HRS.out.far (p := ⟨g, (y * (W : Int) + x).toNat, none⟩) (by dsimp only; omega) (.int .u8 p)
    have hpx2 := (HP.out.stored (y * (W : Int) + x).toNat (.int .u8 p)).1
    have hBX2 := bset (p := ⟨g, (y * (W : Int) + x).toNat, none⟩) HX.out (by dsimp only; omega) (.int .u8 p)
    obtain ⟨Y, hY⟩ : ∃ Y, X.setCell ⟨g, (y * (W : Int) + x).toNat, none⟩ (.int .u8 p) = Y := ⟨_, rfl⟩
    rw [hY] at hbx2 hrs2 hpx2 hBX2 ⊢
    clear hY c0 c2 cp fp HP HX HRS HBX
    have c0 := hbx2.cellV (i := 0) rfl
    have c1 := hbx2.cellV (i := 1) rfl
    have c2 := hbx2.cellV (i := 2) rfl
    have d0 := hrs2.cellV (i := 0) rfl
    have d1 := hrs2.cellV (i := 1) rfl
    have d2 := hrs2.cellV (i := 2) rfl
    have f0 := hrs2.frozen 0
    have f1 := hrs2.frozen 1
    have f2 := hrs2.frozen 2
    have HP := Lib.hid hpx2
    have HX := Lib.hid hBX2
    clear hpx2 hBX2 hbx2 hrs2
    go_wp2_with fail
    refine bodyPost_ret (v := .agg #[.int .i64 W, .int .i64 H, .slice (some ⟨g, 0, none⟩) n n]) (by simp [results, Try.results21, go_sem, d0, d1, d2]) rfl ⟨some ⟨g, 0, none⟩, n, rfl, ?_, Nat.le_refl _, .inr (fun a ea => by cases ea; dsimp only; omega), ?_⟩
    · rw [HV.out]
      have hr := Rd.of_own HP.out
      have e : (U8 px).set (y * (W : Int) + x).toNat (.int .u8 p) = U8 (px.set (y * (W : Int) + x).toNat p) := by simp [U8, List.map_set]
      rw [e] at hr
      have hne : ∀ a : Addr, some (⟨g, 0, none⟩ : Addr) = some a → a.block ≠ w.heap.size + 1 := fun a e => by cases e; dsimp only; omega
      exact ((hr.far (p := ⟨w.heap.size + 1, 0, none⟩) hne _).far (p := ⟨w.heap.size + 1, 1, none⟩) hne _).far (p := ⟨w.heap.size + 1, 2, none⟩) hne _
    · exact bset (p := ⟨_, _, _⟩) (bset (p := ⟨_, _, _⟩) (bset (p := ⟨_, _, _⟩) HX.out (by dsimp only; omega) _) (by dsimp only; omega) _) (by dsimp only; omega) _

end Go.Proofs.Ytcdecglbkcllaab
