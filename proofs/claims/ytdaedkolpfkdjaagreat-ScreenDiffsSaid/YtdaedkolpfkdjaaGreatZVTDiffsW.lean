/-
  The walk of ScreenDiffs.
-/
import Derived.Test.YtdaedkolpfkdjaaGreatZVTS34Q
import Derived.Test.YtdaedkolpfkdjaaGreatZV02
import Derived.Test.YtdaedkolpfkdjaaGreatZV35
section
namespace Go.Proofs.YtdaedkolpfkdjaaGreat
open Go.RowKit Go.Maps Go.Shelf
theorem gset_pix {W H : Nat} {px : List Int} {x y p : Int} (h : Gr.Pix px) (h0 : 0 ≤ p ∧ p < 256) : Gr.Pix (Gr.gset W H px x y p) := fun z hz => by
 unfold Gr.gset at hz
 split at hz
 ·
  rcases List.mem_or_eq_of_mem_set hz with h1 | rfl
  ·
   exact h z h1
  ·
   have := h0; omega
 ·
  exact h z hz
theorem xor8_bd (x y : Int) : 0 ≤ bits .xor .u8 x y ∧ bits .xor .u8 x y < 256 := by
 unfold bits
 simp only
 rw [IntKind.wrap_u8]
 omega
theorem reg_none {w : World} {v : Value} {out : List RC} (h : RegAt w v out) (h0 : ∀ x y, inB out x y = false) : out = [] := by
 obtain ⟨A, c, _, _, hc, _, _⟩ := h
 cases out with
 | nil => rfl
 | cons r l =>
  have hp := canon_pos hc r List.mem_cons_self
  have h1 : inB (r :: l) r.X r.Y = true := (inB_iff _ _ _).2 ⟨r, List.mem_cons_self, by omega, by omega, by omega, by omega⟩
  rw [h0] at h1
  cases h1
theorem diff_same (W H : Nat) (px : List Int) (x y : Int) : diffB W H px px x y = false := by simp [diffB]
set_option maxRecDepth 100000 in
set_option maxHeartbeats 8000000 in
theorem screenDiffs_any (a b q v : Int) (A : Option Addr) (n c : Nat) (ks : List Int) (w : World) (hn : n ≤ maxLen) (hr : Rd w A n (ks.map (Value.int .u16))) (hk : ∀ z ∈ ks, 0 ≤ z ∧ z ≤ 65535) (ha0 : 0 ≤ a ∧ a ≤ 255) (hb0 : 0 ≤ b ∧ b ≤ 255) :
 Calls Tryz.prog 7 #[.int .u8 a, .int .u8 b, .int .u8 q, .slice A n c, .int .u8 v] w fun e w' => e = .returned (.bool true) ∧ Below w.heap.size w w' := by
 obtain ⟨wa, hwa⟩ : ∃ x : Nat, a % 20 = (x : Int) := ⟨(a % 20).toNat, by omega⟩
 obtain ⟨wb, hwb⟩ : ∃ x : Nat, b % 20 = (x : Int) := ⟨(b % 20).toNat, by omega⟩
 have hb9 : wa < 20 ∧ wb < 20 := by omega
 have t0 : a.tmod 20 = (wa : Int) := by rw [Int.tmod_eq_emod_of_nonneg (by omega)]; exact hwa
 have t1 : b.tmod 20 = (wb : Int) := by rw [Int.tmod_eq_emod_of_nonneg (by omega)]; exact hwb
 have t4 : IntKind.u8.wrap (wa : Int) = (wa : Int) := IntWalk.u8_in _ (by omega)
 have t5 : IntKind.u8.wrap (wb : Int) = (wb : Int) := IntWalk.u8_in _ (by omega)
 have t8 : IntKind.i64.wrap (wa : Int) = (wa : Int) := IntWalk.i64_in _ (by omega)
 have t9 : IntKind.i64.wrap (wb : Int) = (wb : Int) := IntWalk.i64_in _ (by omega)
 obtain ⟨W, hW⟩ : ∃ W : Nat, wa + 1 = W := ⟨_, rfl⟩
 obtain ⟨H, hH⟩ : ∃ H : Nat, wb + 1 = H := ⟨_, rfl⟩
 have u0 : IntKind.i64.wrap ((wa : Int) + 1) = (W : Int) := by rw [IntWalk.i64_in _ (by omega)]; omega
 have u1 : IntKind.i64.wrap ((wb : Int) + 1) = (H : Int) := by rw [IntWalk.i64_in _ (by omega)]; omega
 have HWB := Lib.hid (show (1 ≤ W ∧ W ≤ 20) ∧ 1 ≤ H ∧ H ≤ 20 by omega)
 have hmul : W * H ≤ 16384 := Gr.mul_le_128 (by omega) (by omega)
 have hmul1 : 1 ≤ W * H := Nat.mul_pos (by omega) (by omega)
 have hw1 : (1 ≤ W ∧ W ≤ 128) ∧ 1 ≤ H ∧ H ≤ 128 := by omega
 clear hwa hwb hb9 hW hH
 obtain ⟨N, hN⟩ : ∃ N, W * H = N := ⟨_, rfl⟩
 have HN := Lib.hid hN.symm
 have HR := Lib.hid hr
 have HB := Lib.hid (bre w)
 clear hr
 go_enter Tryz.func7, Tryz.ntmps7
 go_wp2_with fail
 refine (ink_any W H q _ hw1.1 hw1.2).mono ?_
 rintro e w1 ⟨Ai, ci, rfl, hri, hci, hfi, hb1⟩
 rw [hN] at hri hci ⊢
 replace HR := Lib.hid (HR.out.below hb1)
 replace HB := Lib.hid (bstep HB.out hb1)
 clear hb1
 go_wp2_with fail
 obtain ⟨px, hpx⟩ : ∃ px, inkL W N q = px := ⟨_, rfl⟩
 have HPX := Lib.hid (show Gr.Pix px by rw [← hpx]; exact inkL_pix _ _ _)
 rw [hpx] at hri
 refine (plane_any W H px Ai N ci _ hw1.1 hw1.2 HN.out hri).mono ?_
 rintro e w2 ⟨Ax, cx, rfl, hrx, hcx, hfx, hb2⟩
 rw [hN] at hmul hmul1
 have HX := Lib.hid hrx
 have HCX := Lib.hid hcx
 replace HR := Lib.hid (HR.out.below hb2)
 replace HB := Lib.hid (bstep HB.out hb2)
 clear hb2 hri hci hfi hrx hcx hfx hpx t0 t1 t4 t5 t8 t9 u0 u1 hN
 have ha := bal (bre w2) (.cells #[.int .i64 W, .int .i64 H, .slice Ax N cx] 75)
 have xk := Blk.new w2 75 #[.int .i64 W, .int .i64 H, .slice Ax N cx]
 have z := bstep HB.out ha
 have z0 := HR.out.below ha
 have z1 := HX.out.below ha
 clear ha
 go_upto_region 3 with fail
 obtain ⟨g1, hg⟩ : ∃ g, w2.heap.size = g := ⟨_, rfl⟩
 obtain ⟨X2, hX⟩ : ∃ X, w2.alloc (.cells #[.int .i64 W, .int .i64 H, .slice Ax N cx] 75) = X := ⟨_, rfl⟩
 rw [hX] at z xk z0 z1 ⊢
 rw [hg] at xk ⊢
 replace HB := Lib.hid z
 have KX := Lib.hid xk
 replace HR := Lib.hid z0
 replace HX := Lib.hid z1
 clear z xk hX hg z0 z1
 by_cases h60 : 60 < n
 ·
  have h61 : (60 : Int) < (n : Int) := by omega
  as_aux_lemma =>
   go_wp2_with (go_at_call 34; refine (awake34_any _).mono ?_; rintro e w9 ⟨rfl, hb9⟩; have HB9 := Lib.hid (bstep HB.out hb9); clear hb9)
   go_ret
   exact ⟨rfl, HB9.out⟩
 have h61 : ¬ (60 : Int) < (n : Int) := by omega
 have q0 := KX.out.cellV (i := 0) (v := .int .i64 W) rfl
 have q1 := KX.out.cellV (i := 1) (v := .int .i64 H) rfl
 have q2 := KX.out.cellV (i := 2) (v := .slice Ax N cx) rfl
 have xk := Blk.new X2 75 #[.int .i64 W, .int .i64 H, .slice Ax N cx]
 have xb := bal (bre X2) (.cells #[.int .i64 W, .int .i64 H, .slice Ax N cx] 75)
 have xx := HX.out.below xb
 go_upto_region 6 with fail
 obtain ⟨g2, hg⟩ : ∃ g, X2.heap.size = g := ⟨_, rfl⟩
 obtain ⟨X3, hX⟩ : ∃ X, X2.alloc (.cells #[.int .i64 W, .int .i64 H, .slice Ax N cx] 75) = X := ⟨_, rfl⟩
 rw [hX] at xk xb xx ⊢
 rw [hg] at xk ⊢
 have KY := Lib.hid xk
 have HBX := Lib.hid xb
 have HY := Lib.hid xx
 have HG2 := Lib.hid hg
 clear xk xb xx hX hg q0 q1 q2
 go_wp2_with fail
 go_loopw [60, 17, 18] (fun i _ _ wr => ∃ (k : Nat) (Ay : Option Addr) (cy : Nat) (py : List Int), i = .int .i64 k ∧ k ≤ n ∧ (N ≤ cy ∧ Gr.Pix py) ∧ Blk wr g2 75 #[.int .i64 W, .int .i64 H, .slice Ay N cy] ∧ Rd wr Ay N (Gr.U8 py) ∧ Below X2.heap.size X2 wr) (fun i _ _ _ => n - (intOf i).toNat)
 case atStart => exact ⟨0, Ax, cx, px, rfl, by omega, ⟨HCX.out, HPX.out⟩, KY.out, HY.out, HBX.out⟩
 case round =>
  obtain ⟨k, Ay, cy, py, rfl, hkn, ⟨hcy, hpy⟩, hb8, hr2, hbr⟩ := hrel
  have HPY := Lib.hid hpy
  have KB8 := Lib.hid hb8
  have HR2 := Lib.hid hr2
  have HBR := Lib.hid hbr
  by_cases hlt : k < n
  ·
   have hkl : ks.length = n := by simpa using HR.out.1
   obtain ⟨z, hz⟩ : ∃ z, ks[k]? = some z := ⟨_, List.getElem?_eq_getElem (by rw [hkl]; exact hlt)⟩
   have hzb := hk z (List.mem_of_getElem? hz)
   obtain ⟨b, off, rfl, hbl, hcl⟩ := (HR.out.below hbr).2 (by omega)
   have q0 := hcl k (.int .u16 z) (by simp [hz])
   obtain ⟨e0, he0⟩ : ∃ e : Nat, z % (N : Int) = (e : Int) := ⟨(z % (N : Int)).toNat, by rw [Int.toNat_of_nonneg (Int.emod_nonneg _ (by omega))]⟩
   have hel : e0 < N := by have := Int.emod_lt_of_pos z (b := (N : Int)) (by omega); omega
   obtain ⟨r, hr0⟩ : ∃ r : Nat, e0 % W = r := ⟨_, rfl⟩
   obtain ⟨d, hd0⟩ : ∃ d : Nat, e0 / W = d := ⟨_, rfl⟩
   have hW1 := HWB.out
   have hrl : r < W := by rw [← hr0]; exact Nat.mod_lt _ (by omega)
   have hdH : d < H := by rw [← hd0]; exact Nat.div_lt_of_lt_mul (by rw [← HN.out]; exact hel)
   have m0 : (W : Int) * (H : Int) = (N : Int) := by rw [HN.out]; exact (Int.natCast_mul _ _).symm
   have t0 : IntKind.i64.wrap ((W : Int) * (H : Int)) = (N : Int) := by rw [m0]; exact IntWalk.i64_in _ (by omega)
   have t1 : z.tmod (N : Int) = (e0 : Int) := by rw [Int.tmod_eq_emod_of_nonneg (by omega)]; exact he0
   have t2 : IntKind.i64.wrap z = z := IntWalk.i64_in _ (by omega)
   have t3 : IntKind.i64.wrap (e0 : Int) = (e0 : Int) := IntWalk.i64_in _ (by omega)
   have t4 : (e0 : Int).tmod (W : Int) = (r : Int) := by rw [Int.tmod_eq_emod_of_nonneg (by omega), ← hr0]; exact (Int.natCast_emod e0 W).symm
   have t5 : (e0 : Int).tdiv (W : Int) = (d : Int) := by rw [Int.tdiv_eq_ediv_of_nonneg (by omega), ← hd0]; exact (Int.natCast_ediv e0 W).symm
   have t6 : IntKind.i64.wrap (r : Int) = (r : Int) := IntWalk.i64_in _ (by omega)
   have t7 : IntKind.i64.wrap (d : Int) = (d : Int) := IntWalk.i64_in _ (by omega)
   have z1 : ((W : Int) == 0) = false := by rw [beq_eq_false_iff_ne]; omega
   have z2 : ¬ (W : Int) = 0 := by omega
   have z3 : ((N : Int) == 0) = false := by rw [beq_eq_false_iff_ne]; omega
   have z4 : ¬ (N : Int) = 0 := by omega
   have z5 : ¬ W = 0 := by omega
   have z6 : ¬ N = 0 := by omega
   have k0 : (0 : Int) ≤ (k : Int) := by omega
   have k1 : (k : Int) < (n : Int) := by omega
   have c0 := hb8.cellV (i := 0) (v := .int .i64 W) rfl
   have c1 := hb8.cellV (i := 1) (v := .int .i64 H) rfl
   have c2 := hb8.cellV (i := 2) (v := .slice Ay N cy) rfl
   clear hb8 hr2 hbr hcl hz hzb hr0 hd0 he0 m0 hW1 hkl hpy
   go_upto_region 10 with fail
   clear t0 t1 t2 t3 z3 z4 z6 q0
   have t8 := xor8_bd (Gr.gat W H py (r : Int) (d : Int)) v
   go_region_with (first
    | (go_at_call 37; refine (Gr.at_any W H py (r : Int) (d : Int) Ay N cy _ HN.out hw1.1.2 hw1.2.2 (by exact HR2.out.below (bre wr).drew)).mono ?_; rintro e w4 ⟨rfl, hb49⟩; have hb4 := undrewX (w := wr) hb49 rfl rfl rfl rfl; have KB4 := Lib.hid (KB8.out.belowS hb4); have HR4 := Lib.hid (HR2.out.below hb4); have HB4 := Lib.hid (bstep HBR.out hb4); have d0 := KB4.out.cellV (i := 0) (v := .int .i64 W) rfl; have d1 := KB4.out.cellV (i := 1) (v := .int .i64 H) rfl; have d2 := KB4.out.cellV (i := 2) (v := .slice Ay N cy) rfl; clear hb4 hb49)
    | (go_at_call 42; refine (Gr.set_any W H py (r : Int) (d : Int) (bits .xor .u8 (Gr.gat W H py (r : Int) (d : Int)) v) Ay N cy _ HN.out hw1.1.2 hw1.2.2 hcy HR4.out).mono ?_; rintro e w5 ⟨A5, c5, rfl, hr5, hc5, _, hb5⟩; have HR5 := Lib.hid hr5; have HC5 := Lib.hid hc5; have HB5 := Lib.hid (bstep HB4.out hb5); have KB5 := Lib.hid (KB4.out.belowS hb5); have e0' := KB5.out.cellV (i := 0) (v := .int .i64 W) rfl; have e1 := KB5.out.cellV (i := 1) (v := .int .i64 H) rfl; have e2 := KB5.out.cellV (i := 2) (v := .slice Ay N cy) rfl; have f0 := KB5.out.frozen 0; have f1 := KB5.out.frozen 1; have f2 := KB5.out.frozen 2; have fl := KB5.out.lt; clear hr5 hc5 hb5))
   all_goals
    go_wp2_with fail
    go_roundw
    case rel =>
     have x8 := ((KB5.out.set_ 0 (.int .i64 W)).set_ 1 (.int .i64 H)).set_ 2 (.slice A5 N c5)
     have hgw : X2.heap.size ≤ g2 := by have := HG2.out; omega
     have xb := bset (bset (bset HB5.out (p := ⟨g2, 0, none⟩) hgw (.int .i64 W)) (p := ⟨g2, 1, none⟩) hgw (.int .i64 H)) (p := ⟨g2, 2, none⟩) hgw (.slice A5 N c5)
     have xr := rd_nou8 (rd_nou8 (rd_nou8 HR5.out KB5.out (grid_no8 _ _ _ _ _) 0 (.int .i64 W)) (KB5.out.set_ 0 (.int .i64 W)) (grid_no8 _ _ _ _ _) 1 (.int .i64 H)) ((KB5.out.set_ 0 (.int .i64 W)).set_ 1 (.int .i64 H)) (grid_no8 _ _ _ _ _) 2 (.slice A5 N c5)
     exact ⟨k + 1, A5, c5, _, by go_num, by omega, ⟨HC5.out, gset_pix HPY.out t8⟩, x8, xr, xb⟩
    case measure => simp [intOf]; omega
  ·
   obtain rfl : k = n := by omega
   have k1 : ¬ (k : Int) < (k : Int) := by omega
   clear hb8 hr2 hbr hpy
   replace HR := Lib.hid (HR.out.below HBR.out)
   replace HX := Lib.hid (HX.out.below HBR.out)
   replace KX := Lib.hid (KX.out.belowS HBR.out)
   replace HB := Lib.hid (bstep HB.out HBR.out)
   have q0 := KX.out.cellV (i := 0) (v := .int .i64 W) rfl
   have q1 := KX.out.cellV (i := 1) (v := .int .i64 H) rfl
   have q2 := KX.out.cellV (i := 2) (v := .slice Ax N cx) rfl
   have y0 := KB8.out.cellV (i := 0) (v := .int .i64 W) rfl
   have y1 := KB8.out.cellV (i := 1) (v := .int .i64 H) rfl
   have y2 := KB8.out.cellV (i := 2) (v := .slice Ay N cy) rfl
   go_wp2_with fail
   refine (diff_any W H px py Ax Ay N cx cy _ HN.out hw1.1 hw1.2 HCX.out hcy HX.out HR2.out HPX.out HPY.out).mono ?_
   rintro e w4 ⟨Ad, out, cd, rfl, hrd, hin, hb4⟩
   have HD := Lib.hid hrd
   have HIN := Lib.hid hin
   replace HR := Lib.hid (HR.out.below hb4)
   replace HX := Lib.hid (HX.out.below hb4)
   replace KX := Lib.hid (KX.out.belowS hb4)
   replace KB8 := Lib.hid (KB8.out.belowS hb4)
   replace HR2 := Lib.hid (HR2.out.below hb4)
   replace HB := Lib.hid (bstep HB.out hb4)
   clear hrd hin hb4 q0 q1 q2 y0 y1 y2
   have ha := bal (bre w4) (.cells #[.slice Ad out.length cd] 57)
   have xk := Blk.new w4 57 #[.slice Ad out.length cd]
   have z := bstep HB.out ha
   have z0 := HR.out.below ha
   have z1 := HX.out.below ha
   have z2 := KX.out.belowS ha
   have z3 := KB8.out.belowS ha
   have z4 := HR2.out.below ha
   have z5 := HD.out.below ha
   clear ha
   go_upto_region 13 with fail
   obtain ⟨g3, hg⟩ : ∃ g, w4.heap.size = g := ⟨_, rfl⟩
   obtain ⟨X4, hX⟩ : ∃ X, w4.alloc (.cells #[.slice Ad out.length cd] 57) = X := ⟨_, rfl⟩
   rw [hX] at z xk z0 z1 z2 z3 z4 z5 ⊢
   rw [hg] at xk ⊢
   replace HB := Lib.hid z
   have KD := Lib.hid xk
   replace HR := Lib.hid z0
   replace HX := Lib.hid z1
   replace KX := Lib.hid z2
   replace KB8 := Lib.hid z3
   replace HR2 := Lib.hid z4
   replace HD := Lib.hid z5
   clear z xk hX hg z0 z1 z2 z3 z4 z5
   have m0 : (W : Int) * (H : Int) = (N : Int) := by rw [HN.out]; exact (Int.natCast_mul _ _).symm
   have t0 : IntKind.i64.wrap ((W : Int) * (H : Int)) = (N : Int) := by rw [m0]; exact IntWalk.i64_in _ (by omega)
   clear m0
   go_wp2_with fail
   go_loopw [98, 10, 21] (fun i _ _ wr => ∃ k : Nat, i = .int .i64 k ∧ k ≤ N ∧ Below X4.heap.size X4 wr) (fun i _ _ _ => N - (intOf i).toNat)
   case atStart => exact ⟨0, rfl, by omega, bre X4⟩
   case round =>
    obtain ⟨k2, rfl, hk2, hB⟩ := hrel
    have HBX := Lib.hid hB
    clear hB
    by_cases hlt : k2 < N
    ·
     obtain ⟨r, hr0⟩ : ∃ r : Nat, k2 % W = r := ⟨_, rfl⟩
     obtain ⟨d, hd0⟩ : ∃ d : Nat, k2 / W = d := ⟨_, rfl⟩
     have hW1 := HWB.out
     have hrl : r < W := by rw [← hr0]; exact Nat.mod_lt _ (by omega)
     have hdH : d < H := by rw [← hd0]; exact Nat.div_lt_of_lt_mul (by rw [← HN.out]; exact hlt)
     have t1 : (k2 : Int).tmod (W : Int) = (r : Int) := by rw [Int.tmod_eq_emod_of_nonneg (by omega), ← hr0]; exact (Int.natCast_emod k2 W).symm
     have t2 : (k2 : Int).tdiv (W : Int) = (d : Int) := by rw [Int.tdiv_eq_ediv_of_nonneg (by omega), ← hd0]; exact (Int.natCast_ediv k2 W).symm
     have t3 : IntKind.i64.wrap (r : Int) = (r : Int) := IntWalk.i64_in _ (by omega)
     have t4 : IntKind.i64.wrap (d : Int) = (d : Int) := IntWalk.i64_in _ (by omega)
     have z3 : ¬ (W : Int) = 0 := by omega
     have z4 : ¬ W = 0 := by omega
     obtain ⟨u1, hu1⟩ : ∃ u, Gr.gat W H px (r : Int) (d : Int) = u := ⟨_, rfl⟩
     obtain ⟨u2, hu2⟩ : ∃ u, Gr.gat W H py (r : Int) (d : Int) = u := ⟨_, rfl⟩
     obtain ⟨bb, hbb⟩ : ∃ b, (u1 != u2) = b := ⟨_, rfl⟩
     have hhas : inB out (r : Int) (d : Int) = bb := by
      rw [HIN.out, diffB, (Gr.has_iff _ _ _ _).2 (by omega), Bool.true_and, hu1, hu2, ← hbb]
      by_cases h9 : u1 = u2 <;> simp [h9]
     have HU1 := Lib.hid hu1
     have HU2 := Lib.hid hu2
     have HBB := Lib.hid hhas
     have k1 : (k2 : Int) < (N : Int) := by omega
     have k0 : (0 : Int) ≤ (k2 : Int) := by omega
     clear hr0 hd0 hu1 hu2 hhas hW1
     go_upto_region 16 with fail
     have HBW := Lib.hid (show Below wr.heap.size wr wr.drew from (bre wr).drew)
     have KW := Lib.hid (fun (W' : World) (h : Below wr.heap.size wr W') => show (fun w' => w'.cell? ⟨g3, 0, none⟩ = some (.slice Ad out.length cd) ∧ w'.cell? ⟨g1, 0, none⟩ = some (.int .i64 W) ∧ w'.cell? ⟨g1, 1, none⟩ = some (.int .i64 H) ∧ w'.cell? ⟨g1, 2, none⟩ = some (.slice Ax N cx) ∧ w'.cell? ⟨g2, 0, none⟩ = some (.int .i64 W) ∧ w'.cell? ⟨g2, 1, none⟩ = some (.int .i64 H) ∧ w'.cell? ⟨g2, 2, none⟩ = some (.slice Ay N cy)) W' from ⟨(KD.out.belowS (bstep HBX.out h)).cellV (i := 0) rfl, (KX.out.belowS (bstep HBX.out h)).cellV (i := 0) rfl, (KX.out.belowS (bstep HBX.out h)).cellV (i := 1) rfl, (KX.out.belowS (bstep HBX.out h)).cellV (i := 2) rfl, (KB8.out.belowS (bstep HBX.out h)).cellV (i := 0) rfl, (KB8.out.belowS (bstep HBX.out h)).cellV (i := 1) rfl, (KB8.out.belowS (bstep HBX.out h)).cellV (i := 2) rfl⟩)
     refine wp_region_noPanic ?_
     refine wp_region_held_drew (S := (fun w' => w'.cell? ⟨g3, 0, none⟩ = some (.slice Ad out.length cd) ∧ w'.cell? ⟨g1, 0, none⟩ = some (.int .i64 W) ∧ w'.cell? ⟨g1, 1, none⟩ = some (.int .i64 H) ∧ w'.cell? ⟨g1, 2, none⟩ = some (.slice Ax N cx) ∧ w'.cell? ⟨g2, 0, none⟩ = some (.int .i64 W) ∧ w'.cell? ⟨g2, 1, none⟩ = some (.int .i64 H) ∧ w'.cell? ⟨g2, 2, none⟩ = some (.slice Ay N cy))) (by kernel_rfl) ?_ (fun _ => ?_)
     ·
      (try dsimp only)
      exact ⟨(KD.out.belowS (bstep HBX.out HBW.out)).cellV (i := 0) rfl, (KX.out.belowS (bstep HBX.out HBW.out)).cellV (i := 0) rfl, (KX.out.belowS (bstep HBX.out HBW.out)).cellV (i := 1) rfl, (KX.out.belowS (bstep HBX.out HBW.out)).cellV (i := 2) rfl, (KB8.out.belowS (bstep HBX.out HBW.out)).cellV (i := 0) rfl, (KB8.out.belowS (bstep HBX.out HBW.out)).cellV (i := 1) rfl, (KB8.out.belowS (bstep HBX.out HBW.out)).cellV (i := 2) rfl⟩
     refine Tr.take_at 0 101 (.agg #[.slice Ad out.length cd]) rfl rfl (by kernel_rfl) (by kernel_rfl) (by kernel_rfl) (fun _ _ _ h => h) (Or.inl ⟨by rfl, ?_⟩) (by assumption) ?_
     ·
      intro W0 hSw
      (try dsimp only at hSw)
      go_simp
     simp only [List.set_cons_zero, List.set_cons_succ]
     refine Tr.take_at 1 102 (.int .i64 k2) rfl rfl (by kernel_rfl) (by kernel_rfl) (by kernel_rfl) (fun _ _ _ h => h) (Or.inl ⟨by rfl, ?_⟩) (by assumption) ?_
     ·
      intro W0 hSw
      (try dsimp only at hSw)
      go_simp
     simp only [List.set_cons_zero, List.set_cons_succ]
     refine Tr.take_at 2 103 (.int .i64 W) rfl rfl (by kernel_rfl) (by kernel_rfl) (by kernel_rfl) (fun _ _ _ h => h) (Or.inl ⟨by rfl, ?_⟩) (by assumption) ?_
     ·
      intro W0 hSw
      (try dsimp only at hSw)
      go_simp
     simp only [List.set_cons_zero, List.set_cons_succ]
     refine Tr.take_at 3 104 (.int .i64 r) rfl rfl (by kernel_rfl) (by kernel_rfl) (by kernel_rfl) (fun _ _ _ h => h) (Or.inl ⟨by rfl, ?_⟩) (by assumption) ?_
     ·
      intro W0 hSw
      (try dsimp only at hSw)
      go_simp
     simp only [List.set_cons_zero, List.set_cons_succ]
     refine Tr.take_at 4 105 (.int .i64 k2) rfl rfl (by kernel_rfl) (by kernel_rfl) (by kernel_rfl) (fun _ _ _ h => h) (Or.inl ⟨by rfl, ?_⟩) (by assumption) ?_
     ·
      intro W0 hSw
      (try dsimp only at hSw)
      go_simp
     simp only [List.set_cons_zero, List.set_cons_succ]
     refine Tr.take_at 5 106 (.int .i64 W) rfl rfl (by kernel_rfl) (by kernel_rfl) (by kernel_rfl) (fun _ _ _ h => h) (Or.inl ⟨by rfl, ?_⟩) (by assumption) ?_
     ·
      intro W0 hSw
      (try dsimp only at hSw)
      go_simp
     simp only [List.set_cons_zero, List.set_cons_succ]
     refine Tr.take_at 6 107 (.int .i64 d) rfl rfl (by kernel_rfl) (by kernel_rfl) (by kernel_rfl) (fun _ _ _ h => h) (Or.inl ⟨by rfl, ?_⟩) (by assumption) ?_
     ·
      intro W0 hSw
      (try dsimp only at hSw)
      go_simp
     simp only [List.set_cons_zero, List.set_cons_succ]
     refine Tr.take_at 8 109 (.agg #[.int .i64 W, .int .i64 H, .slice Ax N cx]) rfl rfl (by kernel_rfl) (by kernel_rfl) (by kernel_rfl) (fun _ _ _ h => h) (Or.inl ⟨by rfl, ?_⟩) (by assumption) ?_
     ·
      intro W0 hSw
      (try dsimp only at hSw)
      go_simp
     simp only [List.set_cons_zero, List.set_cons_succ]
     refine Tr.take_at 9 110 (.int .i64 k2) rfl rfl (by kernel_rfl) (by kernel_rfl) (by kernel_rfl) (fun _ _ _ h => h) (Or.inl ⟨by rfl, ?_⟩) (by assumption) ?_
     ·
      intro W0 hSw
      (try dsimp only at hSw)
      go_simp
     simp only [List.set_cons_zero, List.set_cons_succ]
     refine Tr.take_at 10 111 (.int .i64 W) rfl rfl (by kernel_rfl) (by kernel_rfl) (by kernel_rfl) (fun _ _ _ h => h) (Or.inl ⟨by rfl, ?_⟩) (by assumption) ?_
     ·
      intro W0 hSw
      (try dsimp only at hSw)
      go_simp
     simp only [List.set_cons_zero, List.set_cons_succ]
     refine Tr.take_at 11 112 (.int .i64 r) rfl rfl (by kernel_rfl) (by kernel_rfl) (by kernel_rfl) (fun _ _ _ h => h) (Or.inl ⟨by rfl, ?_⟩) (by assumption) ?_
     ·
      intro W0 hSw
      (try dsimp only at hSw)
      go_simp
     simp only [List.set_cons_zero, List.set_cons_succ]
     refine Tr.take_at 12 113 (.int .i64 k2) rfl rfl (by kernel_rfl) (by kernel_rfl) (by kernel_rfl) (fun _ _ _ h => h) (Or.inl ⟨by rfl, ?_⟩) (by assumption) ?_
     ·
      intro W0 hSw
      (try dsimp only at hSw)
      go_simp
     simp only [List.set_cons_zero, List.set_cons_succ]
     refine Tr.take_at 13 114 (.int .i64 W) rfl rfl (by kernel_rfl) (by kernel_rfl) (by kernel_rfl) (fun _ _ _ h => h) (Or.inl ⟨by rfl, ?_⟩) (by assumption) ?_
     ·
      intro W0 hSw
      (try dsimp only at hSw)
      go_simp
     simp only [List.set_cons_zero, List.set_cons_succ]
     refine Tr.take_at 14 115 (.int .i64 d) rfl rfl (by kernel_rfl) (by kernel_rfl) (by kernel_rfl) (fun _ _ _ h => h) (Or.inl ⟨by rfl, ?_⟩) (by assumption) ?_
     ·
      intro W0 hSw
      (try dsimp only at hSw)
      go_simp
     simp only [List.set_cons_zero, List.set_cons_succ]
     refine Tr.take_at 16 117 (.agg #[.int .i64 W, .int .i64 H, .slice Ay N cy]) rfl rfl (by kernel_rfl) (by kernel_rfl) (by kernel_rfl) (fun _ _ _ h => h) (Or.inl ⟨by rfl, ?_⟩) (by assumption) ?_
     ·
      intro W0 hSw
      (try dsimp only at hSw)
      go_simp
     simp only [List.set_cons_zero, List.set_cons_succ]
     refine Tr.take_at 17 118 (.int .i64 k2) rfl rfl (by kernel_rfl) (by kernel_rfl) (by kernel_rfl) (fun _ _ _ h => h) (Or.inl ⟨by rfl, ?_⟩) (by assumption) ?_
     ·
      intro W0 hSw
      (try dsimp only at hSw)
      go_simp
     simp only [List.set_cons_zero, List.set_cons_succ]
     refine Tr.take_at 18 119 (.int .i64 W) rfl rfl (by kernel_rfl) (by kernel_rfl) (by kernel_rfl) (fun _ _ _ h => h) (Or.inl ⟨by rfl, ?_⟩) (by assumption) ?_
     ·
      intro W0 hSw
      (try dsimp only at hSw)
      go_simp
     simp only [List.set_cons_zero, List.set_cons_succ]
     refine Tr.take_at 19 120 (.int .i64 r) rfl rfl (by kernel_rfl) (by kernel_rfl) (by kernel_rfl) (fun _ _ _ h => h) (Or.inl ⟨by rfl, ?_⟩) (by assumption) ?_
     ·
      intro W0 hSw
      (try dsimp only at hSw)
      go_simp
     simp only [List.set_cons_zero, List.set_cons_succ]
     refine Tr.take_at 20 121 (.int .i64 k2) rfl rfl (by kernel_rfl) (by kernel_rfl) (by kernel_rfl) (fun _ _ _ h => h) (Or.inl ⟨by rfl, ?_⟩) (by assumption) ?_
     ·
      intro W0 hSw
      (try dsimp only at hSw)
      go_simp
     simp only [List.set_cons_zero, List.set_cons_succ]
     refine Tr.take_at 21 122 (.int .i64 W) rfl rfl (by kernel_rfl) (by kernel_rfl) (by kernel_rfl) (fun _ _ _ h => h) (Or.inl ⟨by rfl, ?_⟩) (by assumption) ?_
     ·
      intro W0 hSw
      (try dsimp only at hSw)
      go_simp
     simp only [List.set_cons_zero, List.set_cons_succ]
     refine Tr.take_at 22 123 (.int .i64 d) rfl rfl (by kernel_rfl) (by kernel_rfl) (by kernel_rfl) (fun _ _ _ h => h) (Or.inl ⟨by rfl, ?_⟩) (by assumption) ?_
     ·
      intro W0 hSw
      (try dsimp only at hSw)
      go_simp
     simp only [List.set_cons_zero, List.set_cons_succ]
     refine wpAnyH_ready (rs := [7]) (by kernel_rfl) (by simp) ?_
     refine AllReadyH.cons rfl (fun K hK => ?_) AllReadyH.nil; go_simp
     refine (hasReg_any (HD.out.below (bstep HBX.out HBW.out)) (r : Int) (d : Int)).mono ?_
     rintro e wc1 ⟨rfl, hbA⟩
     rw [HBB.out]
     replace HBW := Lib.hid (bstep HBW.out hbA); clear hbA; go_simp
     refine hK.out _ _ (KW.out _ HBW.out) (fun _ => ?_); clear hK K
     refine wpAnyH_ready (rs := [15]) (by kernel_rfl) (by simp) ?_
     refine AllReadyH.cons rfl (fun K hK => ?_) AllReadyH.nil; go_simp
     refine (Gr.at_any W H px (r : Int) (d : Int) Ax N cx _ HN.out hw1.1.2 hw1.2.2 (HX.out.below (bstep HBX.out HBW.out))).mono ?_
     rintro e wc2 ⟨rfl, hbA⟩
     rw [HU1.out]
     replace HBW := Lib.hid (bstep HBW.out hbA); clear hbA; go_simp
     refine hK.out _ _ (KW.out _ HBW.out) (fun _ => ?_); clear hK K
     refine wpAnyH_ready (rs := [23]) (by kernel_rfl) (by simp) ?_
     refine AllReadyH.cons rfl (fun K hK => ?_) AllReadyH.nil; go_simp
     refine (Gr.at_any W H py (r : Int) (d : Int) Ay N cy _ HN.out hw1.1.2 hw1.2.2 (HR2.out.below (bstep HBX.out HBW.out))).mono ?_
     rintro e wc3 ⟨rfl, hbA⟩
     rw [HU2.out]
     replace HBW := Lib.hid (bstep HBW.out hbA); clear hbA; go_simp
     refine hK.out _ _ (KW.out _ HBW.out) (fun _ => ?_); clear hK K
     refine Tr.take_at 24 125 (.bool bb) rfl rfl (by kernel_rfl) (by kernel_rfl) (by kernel_rfl) (fun _ _ _ h => h) (Or.inl ⟨by rfl, ?_⟩) (by assumption) ?_
     ·
      intro W0 hSw
      (try dsimp only at hSw)
      go_simp
     simp only [List.set_cons_zero, List.set_cons_succ]
     refine Tr.take_at 25 126 (.bool false) rfl rfl (by kernel_rfl) (by kernel_rfl) (by kernel_rfl) (fun _ _ _ h => h) (Or.inl ⟨by rfl, ?_⟩) (by assumption) ?_
     ·
      intro W0 hSw
      (try dsimp only at hSw)
      go_simp
     simp only [List.set_cons_zero, List.set_cons_succ]
     refine wpAnyH_done (by kernel_rfl) ?_ _
     refine NoPanic.normal ?_
     go_wp2_with fail
     go_roundw
     case rel => exact ⟨k2 + 1, by go_num, by omega, bstep HBX.out HBW.out⟩
     case measure => simp [intOf]; omega
    ·
     obtain rfl : k2 = N := by omega
     have k1 : ¬ (k2 : Int) < (k2 : Int) := by omega
     replace HR := Lib.hid (HR.out.below HBX.out)
     replace HX := Lib.hid (HX.out.below HBX.out)
     replace KX := Lib.hid (KX.out.belowS HBX.out)
     replace KB8 := Lib.hid (KB8.out.belowS HBX.out)
     replace HR2 := Lib.hid (HR2.out.below HBX.out)
     replace HD := Lib.hid (HD.out.below HBX.out)
     replace KD := Lib.hid (KD.out.belowS HBX.out)
     replace HB := Lib.hid (bstep HB.out HBX.out)
     have u0 : IntKind.i64.wrap ((W : Int) + 1) = ((W + 1 : Nat) : Int) := by rw [IntWalk.i64_in _ (by have := HWB.out; omega)]; omega
     have hw2 : 1 ≤ W + 1 ∧ W + 1 ≤ 128 := by have := HWB.out; omega
     clear t0
     go_wp2_with fail
     refine (ink_any (W + 1) H q _ hw2 hw1.2).mono ?_
     rintro e w5 ⟨Aj, cj, rfl, hrj, _, _, hb5⟩
     replace HR := Lib.hid (HR.out.below hb5)
     replace HX := Lib.hid (HX.out.below hb5)
     replace KX := Lib.hid (KX.out.belowS hb5)
     replace KB8 := Lib.hid (KB8.out.belowS hb5)
     replace HR2 := Lib.hid (HR2.out.below hb5)
     replace HD := Lib.hid (HD.out.below hb5)
     replace KD := Lib.hid (KD.out.belowS hb5)
     replace HB := Lib.hid (bstep HB.out hb5)
     clear hb5
     go_wp2_with fail
     refine (plane_any (W + 1) H _ Aj ((W + 1) * H) cj _ hw2 hw1.2 rfl hrj).mono ?_
     rintro e w6 ⟨Az, cz, rfl, _, _, _, hb6⟩
     replace HR := Lib.hid (HR.out.below hb6)
     replace HX := Lib.hid (HX.out.below hb6)
     replace KX := Lib.hid (KX.out.belowS hb6)
     replace KB8 := Lib.hid (KB8.out.belowS hb6)
     replace HR2 := Lib.hid (HR2.out.below hb6)
     replace HD := Lib.hid (HD.out.below hb6)
     replace KD := Lib.hid (KD.out.belowS hb6)
     replace HB := Lib.hid (bstep HB.out hb6)
     clear hb6 hrj u0
     obtain ⟨V, hV⟩ : ∃ V, W + 1 = V := ⟨_, rfl⟩
     have HV := Lib.hid (show W ≠ V by omega)
     obtain ⟨M, hM⟩ : ∃ M, (W + 1) * H = M := ⟨_, rfl⟩
     rw [hM, hV]
     clear hM hV hw2
     have ha := bal (bre w6) (.cells #[.int .i64 V, .int .i64 H, .slice Az M cz] 75)
     have xk := Blk.new w6 75 #[.int .i64 V, .int .i64 H, .slice Az M cz]
     have z := bstep HB.out ha
     have z0 := HR.out.below ha
     have z1 := HX.out.below ha
     have z2 := KX.out.belowS ha
     have z3 := KB8.out.belowS ha
     have z4 := HR2.out.below ha
     have z5 := HD.out.below ha
     have z6 := KD.out.belowS ha
     clear ha
     go_upto_region 20 with fail
     obtain ⟨g4, hg⟩ : ∃ g, w6.heap.size = g := ⟨_, rfl⟩
     obtain ⟨X6, hX⟩ : ∃ X, w6.alloc (.cells #[.int .i64 V, .int .i64 H, .slice Az M cz] 75) = X := ⟨_, rfl⟩
     rw [hX] at z xk z0 z1 z2 z3 z4 z5 z6 ⊢
     rw [hg] at xk ⊢
     replace HB := Lib.hid z
     have KZ := Lib.hid xk
     replace HR := Lib.hid z0
     replace HX := Lib.hid z1
     replace KX := Lib.hid z2
     replace KB8 := Lib.hid z3
     replace HR2 := Lib.hid z4
     replace HD := Lib.hid z5
     replace KD := Lib.hid z6
     clear z xk hX hg z0 z1 z2 z3 z4 z5 z6
     have q0 := KX.out.cellV (i := 0) (v := .int .i64 W) rfl
     have q1 := KX.out.cellV (i := 1) (v := .int .i64 H) rfl
     have q2 := KX.out.cellV (i := 2) (v := .slice Ax k2 cx) rfl
     have y0 := KZ.out.cellV (i := 0) (v := .int .i64 V) rfl
     have y1 := KZ.out.cellV (i := 1) (v := .int .i64 H) rfl
     have y2 := KZ.out.cellV (i := 2) (v := .slice Az M cz) rfl
     go_wp2_with fail
     refine (diff_no W H V H Ax Az k2 cx M cz _ HV.out).mono ?_
     rintro e w7 ⟨rfl, hb7⟩
     replace HR := Lib.hid (HR.out.below hb7)
     replace HX := Lib.hid (HX.out.below hb7)
     replace KX := Lib.hid (KX.out.belowS hb7)
     replace KB8 := Lib.hid (KB8.out.belowS hb7)
     replace HR2 := Lib.hid (HR2.out.below hb7)
     replace HD := Lib.hid (HD.out.below hb7)
     replace KD := Lib.hid (KD.out.belowS hb7)
     replace KZ := Lib.hid (KZ.out.belowS hb7)
     replace HB := Lib.hid (bstep HB.out hb7)
     clear hb7 q0 q1 q2 y0 y1 y2
     have ha := bal (bre w7) (.cells #[.slice none 0 0] 57)
     have xk := Blk.new w7 57 #[.slice none 0 0]
     have z := bstep HB.out ha
     have z0 := HR.out.below ha
     have z1 := HX.out.below ha
     have z2 := KX.out.belowS ha
     have z3 := KB8.out.belowS ha
     have z4 := HR2.out.below ha
     have z5 := HD.out.below ha
     have z6 := KD.out.belowS ha
     have z7 := KZ.out.belowS ha
     clear ha
     go_upto_region 21 with fail
     obtain ⟨g5, hg⟩ : ∃ g, w7.heap.size = g := ⟨_, rfl⟩
     obtain ⟨X7, hX⟩ : ∃ X, w7.alloc (.cells #[.slice none 0 0] 57) = X := ⟨_, rfl⟩
     rw [hX] at z xk z0 z1 z2 z3 z4 z5 z6 z7 ⊢
     rw [hg] at xk ⊢
     replace HB := Lib.hid z
     have K0 := Lib.hid xk
     replace HR := Lib.hid z0
     replace HX := Lib.hid z1
     replace KX := Lib.hid z2
     replace KB8 := Lib.hid z3
     replace HR2 := Lib.hid z4
     replace HD := Lib.hid z5
     replace KD := Lib.hid z6
     replace KZ := Lib.hid z7
     clear z xk hX hg z0 z1 z2 z3 z4 z5 z6 z7
     have q0 := KX.out.cellV (i := 0) (v := .int .i64 W) rfl
     have q1 := KX.out.cellV (i := 1) (v := .int .i64 H) rfl
     have q2 := KX.out.cellV (i := 2) (v := .slice Ax k2 cx) rfl
     go_wp2_with fail
     refine (diff_any W H px px Ax Ax k2 cx cx _ HN.out hw1.1 hw1.2 HCX.out HCX.out HX.out HX.out HPX.out HPX.out).mono ?_
     rintro e w8 ⟨Ae, out2, ce, rfl, hre, hin2, hb8⟩
     have ho2 := reg_none hre (fun x y => by rw [hin2, diff_same])
     replace HR := Lib.hid (HR.out.below hb8)
     replace HX := Lib.hid (HX.out.below hb8)
     replace KX := Lib.hid (KX.out.belowS hb8)
     replace KB8 := Lib.hid (KB8.out.belowS hb8)
     replace HR2 := Lib.hid (HR2.out.below hb8)
     replace HD := Lib.hid (HD.out.below hb8)
     replace KD := Lib.hid (KD.out.belowS hb8)
     replace KZ := Lib.hid (KZ.out.belowS hb8)
     replace K0 := Lib.hid (K0.out.belowS hb8)
     replace HB := Lib.hid (bstep HB.out hb8)
     clear hb8 q0 q1 q2 hin2 hre
     rw [ho2]
     have ha := bal (bre w8) (.cells #[.slice Ae 0 ce] 57)
     have xk := Blk.new w8 57 #[.slice Ae 0 ce]
     have z := bstep HB.out ha
     have z0 := HR.out.below ha
     have z1 := HX.out.below ha
     have z2 := KX.out.belowS ha
     have z3 := KB8.out.belowS ha
     have z4 := HR2.out.below ha
     have z5 := HD.out.below ha
     have z6 := KD.out.belowS ha
     have z7 := KZ.out.belowS ha
     have z8 := K0.out.belowS ha
     clear ha
     go_upto_region 22 with fail
     obtain ⟨g6, hg⟩ : ∃ g, w8.heap.size = g := ⟨_, rfl⟩
     obtain ⟨X8, hX⟩ : ∃ X, w8.alloc (.cells #[.slice Ae 0 ce] 57) = X := ⟨_, rfl⟩
     rw [hX] at z xk z0 z1 z2 z3 z4 z5 z6 z7 z8 ⊢
     rw [hg] at xk ⊢
     replace HB := Lib.hid z
     have KE := Lib.hid xk
     replace HR := Lib.hid z0
     replace HX := Lib.hid z1
     replace KX := Lib.hid z2
     replace KB8 := Lib.hid z3
     replace HR2 := Lib.hid z4
     replace HD := Lib.hid z5
     replace KD := Lib.hid z6
     replace KZ := Lib.hid z7
     replace K0 := Lib.hid z8
     clear z xk hX hg z0 z1 z2 z3 z4 z5 z6 z7 z8
     have q0 := KE.out.cellV (i := 0) (v := .slice Ae 0 ce) rfl
     go_wp2_with fail
     refine (awake34_any _).mono ?_
     rintro e w9 ⟨rfl, hb9⟩
     replace HR := Lib.hid (HR.out.below hb9)
     replace HX := Lib.hid (HX.out.below hb9)
     replace KX := Lib.hid (KX.out.belowS hb9)
     replace KB8 := Lib.hid (KB8.out.belowS hb9)
     replace HR2 := Lib.hid (HR2.out.below hb9)
     replace HD := Lib.hid (HD.out.below hb9)
     replace KD := Lib.hid (KD.out.belowS hb9)
     replace KZ := Lib.hid (KZ.out.belowS hb9)
     replace K0 := Lib.hid (K0.out.belowS hb9)
     replace KE := Lib.hid (KE.out.belowS hb9)
     replace HB := Lib.hid (bstep HB.out hb9)
     clear hb9
     have q0 := KE.out.cellV (i := 0) (v := .slice Ae 0 ce) rfl
     go_wp2_with fail
     refine (empty_any Ae 0 ce _).mono ?_
     rintro e w10 ⟨rfl, hb10⟩
     replace HB := Lib.hid (bstep HB.out hb10)
     clear hb10
     go_wp2_with fail
     go_ret
     exact ⟨rfl, HB.out⟩
end Go.Proofs.YtdaedkolpfkdjaaGreat
end
