/-
  The walk of ScreenCrops.
-/
import Derived.Test.YtdaedkolpfkdjaaGreatZX30
import Derived.Test.YtdaedkolpfkdjaaGreatZX33
import Derived.Test.YtdaedkolpfkdjaaGreatZX34
section
namespace Go.Proofs.YtdaedkolpfkdjaaGreat
open Go.RowKit Go.Maps Go.Shelf

theorem crop_px {P Q W H : Nat} {p q : List Int} {f : Int → Int → Int} (hp : ∀ x y : Nat, x < P → y < Q → Gr.gat P Q p x y = f x y) (hq : q.length = W * H ∧ ∀ x y : Nat, x < W → y < H → Gr.gat W H q x y = f x y) (hW : W ≤ P) (hH : H ≤ Q) : Gr.cropL P Q p 0 0 W H 0 = q := by
 refine px_ext (W := W) (H := H) (by simp [Gr.cropL]) hq.1 (fun x y hx hy => ?_)
 rw [hq.2 x y hx hy, ← hp x y (by omega) (by omega)]
 have hh : Gr.hasB W H x y = true := (Gr.has_iff _ _ _ _).2 (by omega)
 have hi := Gr.has_idx hh
 unfold Gr.gat
 rw [if_pos hh]
 simp only [Int.toNat_natCast] at hi ⊢
 unfold Gr.cropL
 rw [List.getD_eq_getElem?_getD, List.getElem?_map, List.getElem?_range hi]
 obtain ⟨d1, d2⟩ := Gr.idx_div (W := W) (x := x) (y := y) hx
 simp only [Option.map_some, Option.getD_some]
 unfold Gr.cpx
 rw [d1, d2]
 have hb : Gr.hasB P Q (0 + (x : Int)) (0 + (y : Int)) = true := (Gr.has_iff _ _ _ _).2 (by omega)
 rw [if_pos hb]
 unfold Gr.gat
 rw [if_pos hb]
 have hb2 : Gr.hasB P Q x y = true := (Gr.has_iff _ _ _ _).2 (by omega)
 rw [if_pos hb2]
 simp
set_option maxRecDepth 100000 in
set_option maxHeartbeats 8000000 in
theorem screenCrops_any (A : Option Addr) (n c : Nat) (ps : List PN34) (a b a2 b2 : Int) (w : World) (hn : n ≤ maxLen) (hr : RdP34 w A n ps) (hok : ∀ p ∈ ps, p.ok) (ha0 : 0 ≤ a ∧ a ≤ 255) (hb0 : 0 ≤ b ∧ b ≤ 255) (ha2 : 0 ≤ a2 ∧ a2 ≤ 255) (hb2 : 0 ≤ b2 ∧ b2 ≤ 255) :
 Calls Tryz.prog 8 #[.slice A n c, .int .u8 a, .int .u8 b, .int .u8 a2, .int .u8 b2] w fun e w' => e = .returned (.bool true) ∧ Below w.heap.size w w' := by
 go_enter Tryz.func8, Tryz.ntmps8
 go_wp2_with fail
 refine (make34_any A n c ps _ hn hr hok).mono ?_
 rintro e w1 ⟨ok, m1, m2, m3, m4, A0, n0, c0, rfl, hm, hb1⟩
 have HM0 := Lib.hid hm
 have ha := bal (bre w1) (.cells #[.map m1, .map m2, .map m3, .map m4, .slice A0 n0 c0] 70)
 have xk := Blk.new w1 70 #[.map m1, .map m2, .map m3, .map m4, .slice A0 n0 c0]
 have HB := Lib.hid (bstep hb1 ha)
 clear hm hb1
 cases ok with
 | false =>
  clear ha xk HM0
  as_aux_lemma =>
   go_wp2_with (go_at_call 34; refine (awake34_any _).mono ?_; rintro e w9 ⟨rfl, hb9⟩; have HB9 := Lib.hid (bstep HB.out hb9); clear hb9)
   go_ret
   exact ⟨rfl, HB9.out⟩
 | true =>
  obtain ⟨l, mk, mu, mp, mc, AL, cL, RW, RH, hmade⟩ := HM0.out rfl
  obtain ⟨rfl, rfl, rfl, rfl, rfl, rfl, rfl⟩ := hmade.form
  have hm2 := hmade.below ha
  clear HM0 hmade ha
  have hbz := HB.out
  go_upto_region 4 with fail
  obtain ⟨g1, hg1⟩ : ∃ g, w1.heap.size = g := ⟨_, rfl⟩
  obtain ⟨X1, hX1⟩ : ∃ X, w1.alloc (.cells #[.map m1, .map m2, .map m3, .map m4, .slice A0 l.length c0] 70) = X := ⟨_, rfl⟩
  rw [hX1] at hm2 xk hbz ⊢
  rw [hg1] at xk ⊢
  have HM := Lib.hid hm2
  have KM := Lib.hid xk
  replace HB := Lib.hid hbz
  clear hm2 xk hbz hX1 hg1
  have q0 := KM.out.cellV (i := 0) (v := .map m1) rfl
  have q1 := KM.out.cellV (i := 1) (v := .map m2) rfl
  have q2 := KM.out.cellV (i := 2) (v := .map m3) rfl
  go_wp2_with fail
  refine (view34 HM.out hok).mono ?_
  rintro e w3 ⟨Av, nv, cv, mv, og, rfl, hse, hb3⟩
  have HSE := Lib.hid hse
  replace HM := Lib.hid (HM.out.below hb3)
  replace KM := Lib.hid (KM.out.belowS hb3)
  replace HB := Lib.hid (bstep HB.out hb3)
  clear hse hb3 q0 q1 q2
  have ha := bal (bre w3) (.cells #[.slice Av nv cv, .map mv] 52)
  have xk := Blk.new w3 52 #[.slice Av nv cv, .map mv]
  have z := bstep HB.out ha
  have z0 := HM.out.below ha
  have z1 := KM.out.belowS ha
  have z2 := HSE.out.below ha
  clear ha
  go_upto_region 5 with fail
  obtain ⟨g2, hg⟩ : ∃ g, w3.heap.size = g := ⟨_, rfl⟩
  obtain ⟨X3, hX⟩ : ∃ X, w3.alloc (.cells #[.slice Av nv cv, .map mv] 52) = X := ⟨_, rfl⟩
  rw [hX] at z xk z0 z1 z2 ⊢
  rw [hg] at xk ⊢
  replace HB := Lib.hid z
  have KV := Lib.hid xk
  replace HM := Lib.hid z0
  replace KM := Lib.hid z1
  replace HSE := Lib.hid z2
  clear z xk hX hg z0 z1 z2
  obtain ⟨wa, hwa⟩ : ∃ x : Nat, a % 20 = (x : Int) := ⟨(a % 20).toNat, by omega⟩
  obtain ⟨wb, hwb⟩ : ∃ x : Nat, b % 20 = (x : Int) := ⟨(b % 20).toNat, by omega⟩
  obtain ⟨wc, hwc⟩ : ∃ x : Nat, a2 % 9 = (x : Int) := ⟨(a2 % 9).toNat, by omega⟩
  obtain ⟨wd, hwd⟩ : ∃ x : Nat, b2 % 9 = (x : Int) := ⟨(b2 % 9).toNat, by omega⟩
  have hb9 : wa < 20 ∧ wb < 20 ∧ wc < 9 ∧ wd < 9 := by omega
  have t0 : a.tmod 20 = (wa : Int) := by rw [Int.tmod_eq_emod_of_nonneg (by omega)]; exact hwa
  have t1 : b.tmod 20 = (wb : Int) := by rw [Int.tmod_eq_emod_of_nonneg (by omega)]; exact hwb
  have t2 : a2.tmod 9 = (wc : Int) := by rw [Int.tmod_eq_emod_of_nonneg (by omega)]; exact hwc
  have t3 : b2.tmod 9 = (wd : Int) := by rw [Int.tmod_eq_emod_of_nonneg (by omega)]; exact hwd
  have t4 : IntKind.u8.wrap (wa : Int) = (wa : Int) := IntWalk.u8_in _ (by omega)
  have t5 : IntKind.u8.wrap (wb : Int) = (wb : Int) := IntWalk.u8_in _ (by omega)
  have t6 : IntKind.u8.wrap (wc : Int) = (wc : Int) := IntWalk.u8_in _ (by omega)
  have t7 : IntKind.u8.wrap (wd : Int) = (wd : Int) := IntWalk.u8_in _ (by omega)
  have t8 : IntKind.i64.wrap (wa : Int) = (wa : Int) := IntWalk.i64_in _ (by omega)
  have t9 : IntKind.i64.wrap (wb : Int) = (wb : Int) := IntWalk.i64_in _ (by omega)
  have ta : IntKind.i64.wrap (wc : Int) = (wc : Int) := IntWalk.i64_in _ (by omega)
  have tb : IntKind.i64.wrap (wd : Int) = (wd : Int) := IntWalk.i64_in _ (by omega)
  obtain ⟨W, hW⟩ : ∃ W : Nat, wa + 1 = W := ⟨_, rfl⟩
  obtain ⟨H, hH⟩ : ∃ H : Nat, wb + 1 = H := ⟨_, rfl⟩
  obtain ⟨P, hP⟩ : ∃ P : Nat, W + wc = P := ⟨_, rfl⟩
  obtain ⟨Q, hQ⟩ : ∃ Q : Nat, H + wd = Q := ⟨_, rfl⟩
  have u0 : IntKind.i64.wrap ((wa : Int) + 1) = (W : Int) := by rw [IntWalk.i64_in _ (by omega)]; omega
  have u1 : IntKind.i64.wrap ((wb : Int) + 1) = (H : Int) := by rw [IntWalk.i64_in _ (by omega)]; omega
  have u2 : IntKind.i64.wrap ((W : Int) + (wc : Int)) = (P : Int) := by rw [IntWalk.i64_in _ (by omega)]; omega
  have u3 : IntKind.i64.wrap ((H : Int) + (wd : Int)) = (Q : Int) := by rw [IntWalk.i64_in _ (by omega)]; omega
  have HWB := Lib.hid (show ((1 ≤ W ∧ W ≤ 128) ∧ 1 ≤ H ∧ H ≤ 128) ∧ ((1 ≤ P ∧ P ≤ 128) ∧ 1 ≤ Q ∧ Q ≤ 128) ∧ W ≤ P ∧ H ≤ Q by omega)
  clear hwa hwb hwc hwd hb9 hW hH hP hQ
  have q2 := KM.out.cellV (i := 3) (v := .map m4) rfl
  have v0 := KV.out.cellV (i := 0) (v := .slice Av nv cv) rfl
  have v1 := KV.out.cellV (i := 1) (v := .map mv) rfl
  go_wp2_with fail
  refine (show34 HM.out HSE.out (W := P) (H := Q) HWB.out.2.1.1 HWB.out.2.1.2).mono ?_
  rintro e w5 ⟨Ag, cg, px, rfl, hrg, hcg, hpx, hb5⟩
  have HRG := Lib.hid hrg
  have HPX := Lib.hid hpx
  have HCG := Lib.hid hcg
  replace HM := Lib.hid (HM.out.below hb5)
  replace KM := Lib.hid (KM.out.belowS hb5)
  replace HSE := Lib.hid (HSE.out.below hb5)
  replace KV := Lib.hid (KV.out.belowS hb5)
  replace HB := Lib.hid (bstep HB.out hb5)
  clear hrg hcg hpx hb5 t0 t1 t2 t3 t4 t5 t6 t7 t8 t9 ta tb u0 u1 u2 u3 q2 v0 v1
  have ha := bal (bre w5) (.cells #[.int .i64 P, .int .i64 Q, .slice Ag (P * Q) cg] 75)
  have xk := Blk.new w5 75 #[.int .i64 P, .int .i64 Q, .slice Ag (P * Q) cg]
  have z := bstep HB.out ha
  have z0 := HM.out.below ha
  have z1 := KM.out.belowS ha
  have z2 := HSE.out.below ha
  have z3 := KV.out.belowS ha
  have z4 := HRG.out.below ha
  clear ha
  go_upto_region 7 with fail
  obtain ⟨g3, hg⟩ : ∃ g, w5.heap.size = g := ⟨_, rfl⟩
  obtain ⟨X5, hX⟩ : ∃ X, w5.alloc (.cells #[.int .i64 P, .int .i64 Q, .slice Ag (P * Q) cg] 75) = X := ⟨_, rfl⟩
  rw [hX] at z xk z0 z1 z2 z3 z4 ⊢
  rw [hg] at xk ⊢
  replace HB := Lib.hid z
  have KG := Lib.hid xk
  replace HM := Lib.hid z0
  replace KM := Lib.hid z1
  replace HSE := Lib.hid z2
  replace KV := Lib.hid z3
  replace HRG := Lib.hid z4
  clear z xk hX hg z0 z1 z2 z3 z4
  have q2 := KM.out.cellV (i := 3) (v := .map m4) rfl
  have v0 := KV.out.cellV (i := 0) (v := .slice Av nv cv) rfl
  have v1 := KV.out.cellV (i := 1) (v := .map mv) rfl
  go_wp2_with fail
  refine (show34 HM.out HSE.out (W := W) (H := H) HWB.out.1.1 HWB.out.1.2).mono ?_
  rintro e w7 ⟨Ah, ch, qx, rfl, hrh, hch, hqx, hb7⟩
  have HRH := Lib.hid hrh
  have HQX := Lib.hid hqx
  replace HM := Lib.hid (HM.out.below hb7)
  replace KM := Lib.hid (KM.out.belowS hb7)
  replace HSE := Lib.hid (HSE.out.below hb7)
  replace KV := Lib.hid (KV.out.belowS hb7)
  replace HRG := Lib.hid (HRG.out.below hb7)
  replace KG := Lib.hid (KG.out.belowS hb7)
  replace HB := Lib.hid (bstep HB.out hb7)
  clear hrh hch hqx hb7 q2 v0 v1
  have ha := bal (bre w7) (.cells #[.int .i64 W, .int .i64 H, .slice Ah (W * H) ch] 75)
  have xk := Blk.new w7 75 #[.int .i64 W, .int .i64 H, .slice Ah (W * H) ch]
  have z := bstep HB.out ha
  have z0 := HM.out.below ha
  have z1 := KM.out.belowS ha
  have z2 := HSE.out.below ha
  have z3 := KV.out.belowS ha
  have z4 := HRG.out.below ha
  have z5 := KG.out.belowS ha
  have z6 := HRH.out.below ha
  clear ha
  go_upto_region 8 with fail
  obtain ⟨g4, hg⟩ : ∃ g, w7.heap.size = g := ⟨_, rfl⟩
  obtain ⟨X7, hX⟩ : ∃ X, w7.alloc (.cells #[.int .i64 W, .int .i64 H, .slice Ah (W * H) ch] 75) = X := ⟨_, rfl⟩
  rw [hX] at z xk z0 z1 z2 z3 z4 z5 z6 ⊢
  rw [hg] at xk ⊢
  replace HB := Lib.hid z
  have KH := Lib.hid xk
  replace HM := Lib.hid z0
  replace KM := Lib.hid z1
  replace HSE := Lib.hid z2
  replace KV := Lib.hid z3
  replace HRG := Lib.hid z4
  replace KG := Lib.hid z5
  replace HRH := Lib.hid z6
  clear z xk hX hg z0 z1 z2 z3 z4 z5 z6
  have q0 := KG.out.cellV (i := 0) (v := .int .i64 P) rfl
  have q1 := KG.out.cellV (i := 1) (v := .int .i64 Q) rfl
  have q2 := KG.out.cellV (i := 2) (v := .slice Ag (P * Q) cg) rfl
  go_wp2_with fail
  refine (Gr.crop_any P Q px 0 0 W H 0 Ag (P * Q) cg _ rfl HWB.out.2.1.1.2 HWB.out.2.1.2.2 HRG.out (by decide) (by decide) HWB.out.1.1 HWB.out.1.2).mono ?_
  rintro e w8 ⟨Ai, ci, rfl, hri, _, _, hb8⟩
  rw [crop_px HPX.out.2 HQX.out HWB.out.2.2.1 HWB.out.2.2.2] at hri
  have HRI := Lib.hid hri
  replace HM := Lib.hid (HM.out.below hb8)
  replace KM := Lib.hid (KM.out.belowS hb8)
  replace HSE := Lib.hid (HSE.out.below hb8)
  replace KV := Lib.hid (KV.out.belowS hb8)
  replace HRG := Lib.hid (HRG.out.below hb8)
  replace KG := Lib.hid (KG.out.belowS hb8)
  replace HRH := Lib.hid (HRH.out.below hb8)
  replace KH := Lib.hid (KH.out.belowS hb8)
  replace HB := Lib.hid (bstep HB.out hb8)
  clear hri hb8 q0 q1 q2
  have ha := bal (bre w8) (.cells #[.int .i64 W, .int .i64 H, .slice Ai (W * H) ci] 75)
  have xk := Blk.new w8 75 #[.int .i64 W, .int .i64 H, .slice Ai (W * H) ci]
  have z := bstep HB.out ha
  have z0 := HM.out.below ha
  have z1 := KM.out.belowS ha
  have z2 := HSE.out.below ha
  have z3 := KV.out.belowS ha
  have z4 := HRG.out.below ha
  have z5 := KG.out.belowS ha
  have z6 := HRH.out.below ha
  have z7 := KH.out.belowS ha
  have z8 := HRI.out.below ha
  clear ha
  go_upto_region 9 with fail
  obtain ⟨g5, hg⟩ : ∃ g, w8.heap.size = g := ⟨_, rfl⟩
  obtain ⟨X8, hX⟩ : ∃ X, w8.alloc (.cells #[.int .i64 W, .int .i64 H, .slice Ai (W * H) ci] 75) = X := ⟨_, rfl⟩
  rw [hX] at z xk z0 z1 z2 z3 z4 z5 z6 z7 z8 ⊢
  rw [hg] at xk ⊢
  replace HB := Lib.hid z
  have KI := Lib.hid xk
  replace HM := Lib.hid z0
  replace KM := Lib.hid z1
  replace HSE := Lib.hid z2
  replace KV := Lib.hid z3
  replace HRG := Lib.hid z4
  replace KG := Lib.hid z5
  replace HRH := Lib.hid z6
  replace KH := Lib.hid z7
  replace HRI := Lib.hid z8
  clear z xk hX hg z0 z1 z2 z3 z4 z5 z6 z7 z8
  go_wp2_with fail
  refine (awake34_any _).mono ?_
  rintro e w9 ⟨rfl, hb9⟩
  replace HM := Lib.hid (HM.out.below hb9)
  replace KM := Lib.hid (KM.out.belowS hb9)
  replace HSE := Lib.hid (HSE.out.below hb9)
  replace KV := Lib.hid (KV.out.belowS hb9)
  replace HRG := Lib.hid (HRG.out.below hb9)
  replace KG := Lib.hid (KG.out.belowS hb9)
  replace HRH := Lib.hid (HRH.out.below hb9)
  replace KH := Lib.hid (KH.out.belowS hb9)
  replace HRI := Lib.hid (HRI.out.below hb9)
  replace KI := Lib.hid (KI.out.belowS hb9)
  replace HB := Lib.hid (bstep HB.out hb9)
  clear hb9
  have q0 := KI.out.cellV (i := 0) (v := .int .i64 W) rfl
  have q1 := KI.out.cellV (i := 1) (v := .int .i64 H) rfl
  have q2 := KI.out.cellV (i := 2) (v := .slice Ai (W * H) ci) rfl
  have r0 := KH.out.cellV (i := 0) (v := .int .i64 W) rfl
  have r1 := KH.out.cellV (i := 1) (v := .int .i64 H) rfl
  have r2 := KH.out.cellV (i := 2) (v := .slice Ah (W * H) ch) rfl
  go_wp2_with fail
  refine (Gr.gsame_any (W : Int) (H : Int) qx qx Ai Ah (W * H) ci ch _ (Gr.mul_le_128 HWB.out.1.1.2 HWB.out.1.2.2) HRI.out HRH.out).mono ?_
  rintro e w10 ⟨rfl, hb10⟩
  rw [decide_eq_true rfl]
  replace HB := Lib.hid (bstep HB.out hb10)
  clear hb10
  go_wp2_with fail
  go_ret
  exact ⟨rfl, HB.out⟩
end Go.Proofs.YtdaedkolpfkdjaaGreat
end
