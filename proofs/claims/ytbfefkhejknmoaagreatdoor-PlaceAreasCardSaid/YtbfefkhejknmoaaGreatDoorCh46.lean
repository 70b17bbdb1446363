/-
  The walk of the law's example (awake), joined.
-/
import Derived.Test.YtbfefkhejknmoaaGreatDoorCh45
namespace Go.Proofs.YtbfefkhejknmoaaGreatDoor
open Go.RowKit Go.Maps Go.Shelf

section
variable {P : Program} {k : TypeId} {q : IntKind} {w : World} {n : Nat} {f : Int → Option Value}
variable {ops : Array Oper} {rest : List Oper} {o : Oper} {a : Act} {Q : Exit → Act → World → Prop}
/-- 'm[i]' where its operation is guarded, and wanted. -/
theorem map_look_if (m x : Operand) (t : TypeId) (hop : o.op = Op.lookup t m x false) (k e : TypeId) (q : IntKind) (hk : P.underlying k = some (.int q)) (ht : P.underlying t = some (.map k e)) (z : Value) (hz : (zeroValue e).run P w = .ok z w)
    (b n : Nat) (f : Int → Option Value) (hm : a.eval m = .map (some b)) (h : MapIs P k q w b n f) (i : Int) (hx : a.eval x = .int q i) (hwf : (Lit.int q i).wf = true) (hw : Region.wanted o (yielded ops a.tmps) = true)
    (hK : wpList P ops Q rest (a.put o.dst ((f i).getD z)) w) : wpList P ops Q (o :: rest) a w := by
  obtain ⟨D, hD, _, hh, ha⟩ := h
  refine wpList_step fun K' hK' => ?_
  rw [if_pos hw]
  obtain ⟨v, ps, hrun, hv⟩ := hD.lookup (int_keyed hk) ht hz (zd := .held z) (zp := []) rfl (keyOf_int_mk hk hwf)
  have e1 := rawR_inv hv
  rw [at_of hh ha] at e1
  injection e1 with e1
  subst e1
  unfold Oper.wp
  simp [execOp, hop, hm, hx, hrun, Result.andThen]
  exact hK' _ _ hK
end
theorem Tryz.zeroRc (w : World) : (zeroValue 29).run Tryz.prog w = .ok (.agg #[.int .i64 0, .int .i64 0, .int .i64 0, .int .i64 0]) w := by kernel_rfl

attribute [local go_sem ↓] run_eql_rc
set_option maxRecDepth 100000 in
set_option maxHeartbeats 8000000 in
theorem awake_any (w : World) (hH : Halves w) : Calls Tryz.prog 8 #[] w fun e w' => e = .returned (.bool true) ∧ Below w.heap.size w w' := by
  have HH := Lib.hid hH
  have hw0 := hH.1
  clear hH
  go_enter Tryz.func8, Tryz.ntmps8
  go_wp2_with fail
  with_reducible refine (tnew_any _).mono ?_
  rintro e w1 ⟨rfl, hb⟩
  have HB := Lib.hid (bstep (bre w) hb)
  clear hb
  go_wp2_with fail
  with_reducible refine (aw_addA _ (tree_new _)).mono ?_
  rintro e w2 ⟨⟨mk2, mu2, nk2, fk2, rfl, ht⟩, hb⟩
  have HB := Lib.hid (bstep HB.out hb)
  have HT := Lib.hid ht
  clear hb ht
  go_upto_region 3 with fail
  have hsz := HB.out.size
  have HLKT := Lib.hid hsz
  have bn : Blk (w2.alloc (.cells #[.map mk2, .map mu2] 35)) w2.heap.size 35 #[.map mk2, .map mu2] := Blk.new w2 35 #[.map mk2, .map mu2]
  have hbe := bal HB.out (.cells #[.map mk2, .map mu2] 35)
  have hbo := bal (bre w2) (.cells #[.map mk2, .map mu2] 35)
  have cHT := HT.out.below hbo
  obtain ⟨X2, hX2⟩ : ∃ X2, (w2.alloc (.cells #[.map mk2, .map mu2] 35)) = X2 := ⟨_, rfl⟩
  rw [hX2] at bn hbe cHT ⊢
  have HB := Lib.hid hbe
  have HT := Lib.hid cHT
  have KT := Lib.hid bn
  clear bn hbe cHT hsz hX2 hbo
  have kt0 := KT.out.cellV (i := 0) (v := .map mk2) rfl
  have kt1 := KT.out.cellV (i := 1) (v := .map mu2) rfl
  go_wp2_with fail
  with_reducible refine (aw_addB mk2 mu2 nk2 fk2 _ HT.out).mono ?_
  rintro e w3 ⟨⟨mk3, mu3, nk3, fk3, rfl, ht⟩, hb⟩
  clear kt0 kt1
  have KT := Lib.hid (KT.out.belowS hb)
  have HB := Lib.hid (bstep HB.out hb)
  have HT := Lib.hid ht
  clear hb ht
  have kt0 := KT.out.cellV (i := 0) (v := .map mk2) rfl
  have fkt0 := KT.out.frozen 0
  have kt1 := KT.out.cellV (i := 1) (v := .map mu2) rfl
  have fkt1 := KT.out.frozen 1
  have lkt := KT.out.lt
  go_upto_region 4 with fail
  clear kt0 fkt0 kt1 fkt1 lkt
  have bl := KT.out.lt
  have hle : w.heap.size ≤ w2.heap.size := HLKT.out
  have bn : Blk ((w3.setCell ⟨w2.heap.size, 0, none⟩ (.map mk3)).setCell ⟨w2.heap.size, 1, none⟩ (.map mu3)) (w2.heap.size) 35 #[.map mk3, .map mu3] := ((KT.out).set_ 0 (.map mk3)).set_ 1 (.map mu3)
  have hbe := bset (p := ⟨w2.heap.size, 1, none⟩) (bset (p := ⟨w2.heap.size, 0, none⟩) (HB.out) hle (.map mk3)) hle (.map mu3)
  have cHT := ((HT.out).setBlk (KT.out) (maps_no _ _) 0 (.map mk3)).setBlk ((KT.out).set_ 0 (.map mk3)) (maps_no _ _) 1 (.map mu3)
  obtain ⟨X3, hX3⟩ : ∃ X3, ((w3.setCell ⟨w2.heap.size, 0, none⟩ (.map mk3)).setCell ⟨w2.heap.size, 1, none⟩ (.map mu3)) = X3 := ⟨_, rfl⟩
  rw [hX3] at bn hbe cHT ⊢
  have HB := Lib.hid hbe
  have HT := Lib.hid cHT
  have KT := Lib.hid bn
  clear bn hbe cHT bl hle hX3
  go_wp2_with fail
  with_reducible refine (aw_new _).mono ?_
  rintro e w4 ⟨mp4, rfl, hp, hb⟩
  have KT := Lib.hid (KT.out.belowS hb)
  have HT := Lib.hid (HT.out.below hb)
  have HB := Lib.hid (bstep HB.out hb)
  have HP := Lib.hid hp
  clear hb hp
  go_upto_region 5 with fail
  have hsz := HB.out.size
  have HLKP := Lib.hid hsz
  have NKTKP := Lib.hid (show w2.heap.size ≠ w4.heap.size from Nat.ne_of_lt KT.out.lt)
  have bn : Blk (w4.alloc (.cells #[.map mp4] 38)) w4.heap.size 38 #[.map mp4] := Blk.new w4 38 #[.map mp4]
  have hbe := bal HB.out (.cells #[.map mp4] 38)
  have hbo := bal (bre w4) (.cells #[.map mp4] 38)
  have cKT := KT.out.belowS hbo
  have cHT := HT.out.below hbo
  have cHP := HP.out.below hbo
  obtain ⟨X4, hX4⟩ : ∃ X4, (w4.alloc (.cells #[.map mp4] 38)) = X4 := ⟨_, rfl⟩
  rw [hX4] at bn hbe cKT cHT cHP ⊢
  have HB := Lib.hid hbe
  have KT := Lib.hid cKT
  have HT := Lib.hid cHT
  have HP := Lib.hid cHP
  have KP := Lib.hid bn
  clear bn hbe cKT cHT cHP hsz hX4 hbo
  have kp0 := KP.out.cellV (i := 0) (v := .map mp4) rfl
  go_wp2_with fail
  with_reducible refine (aw_setA _ _ HP.out).mono ?_
  rintro e w5 ⟨mp5, rfl, hp, hb⟩
  clear kp0
  have KT := Lib.hid (KT.out.belowS hb)
  have KP := Lib.hid (KP.out.belowS hb)
  have HT := Lib.hid (HT.out.below hb)
  have HB := Lib.hid (bstep HB.out hb)
  have HP := Lib.hid hp
  clear hb hp
  have kp0 := KP.out.cellV (i := 0) (v := .map mp4) rfl
  have fkp0 := KP.out.frozen 0
  have lkp := KP.out.lt
  go_upto_region 6 with fail
  clear kp0 fkp0 lkp
  have bl := KP.out.lt
  have hle : w.heap.size ≤ w4.heap.size := HLKP.out
  have bn : Blk (w5.setCell ⟨w4.heap.size, 0, none⟩ (.map mp5)) (w4.heap.size) 38 #[.map mp5] := (KP.out).set_ 0 (.map mp5)
  have hbe := bset (p := ⟨w4.heap.size, 0, none⟩) (HB.out) hle (.map mp5)
  have cHT := (HT.out).setBlk (KP.out) (map_no _) 0 (.map mp5)
  have cHP := (HP.out).setBlk (KP.out) 0 (.map mp5)
  have cKT := (KT.out).far (p := ⟨w4.heap.size, 0, none⟩) NKTKP.out (.map mp5)
  obtain ⟨X5, hX5⟩ : ∃ X5, (w5.setCell ⟨w4.heap.size, 0, none⟩ (.map mp5)) = X5 := ⟨_, rfl⟩
  rw [hX5] at bn hbe cKT cHT cHP ⊢
  have HB := Lib.hid hbe
  have KT := Lib.hid cKT
  have HT := Lib.hid cHT
  have HP := Lib.hid cHP
  have KP := Lib.hid bn
  clear bn hbe cKT cHT cHP bl hle hX5
  have kp0 := KP.out.cellV (i := 0) (v := .map mp5) rfl
  go_wp2_with fail
  with_reducible refine (aw_setB _ _ HP.out).mono ?_
  rintro e w6 ⟨mp6, rfl, hp, hb⟩
  clear kp0
  have KT := Lib.hid (KT.out.belowS hb)
  have KP := Lib.hid (KP.out.belowS hb)
  have HT := Lib.hid (HT.out.below hb)
  have HB := Lib.hid (bstep HB.out hb)
  have HP := Lib.hid hp
  clear hb hp
  have kp0 := KP.out.cellV (i := 0) (v := .map mp5) rfl
  have fkp0 := KP.out.frozen 0
  have lkp := KP.out.lt
  go_upto_region 7 with fail
  clear kp0 fkp0 lkp
  have bl := KP.out.lt
  have hle : w.heap.size ≤ w4.heap.size := HLKP.out
  have bn : Blk (w6.setCell ⟨w4.heap.size, 0, none⟩ (.map mp6)) (w4.heap.size) 38 #[.map mp6] := (KP.out).set_ 0 (.map mp6)
  have hbe := bset (p := ⟨w4.heap.size, 0, none⟩) (HB.out) hle (.map mp6)
  have cHT := (HT.out).setBlk (KP.out) (map_no _) 0 (.map mp6)
  have cHP := (HP.out).setBlk (KP.out) 0 (.map mp6)
  have cKT := (KT.out).far (p := ⟨w4.heap.size, 0, none⟩) NKTKP.out (.map mp6)
  obtain ⟨X6, hX6⟩ : ∃ X6, (w6.setCell ⟨w4.heap.size, 0, none⟩ (.map mp6)) = X6 := ⟨_, rfl⟩
  rw [hX6] at bn hbe cKT cHT cHP ⊢
  have HB := Lib.hid hbe
  have KT := Lib.hid cKT
  have HT := Lib.hid cHT
  have HP := Lib.hid cHP
  have KP := Lib.hid bn
  clear bn hbe cKT cHT cHP bl hle hX6
  have kp0 := KP.out.cellV (i := 0) (v := .map mp6) rfl
  have kt0 := KT.out.cellV (i := 0) (v := .map mk3) rfl
  have kt1 := KT.out.cellV (i := 1) (v := .map mu3) rfl
  go_wp2_with fail
  with_reducible refine (aw_origin mp6 mk3 mu3 nk3 fk3 _ HP.out HT.out).mono ?_
  rintro e w7 ⟨rfl, hb⟩
  clear kp0 kt0 kt1
  have KT := Lib.hid (KT.out.belowS hb)
  have KP := Lib.hid (KP.out.belowS hb)
  have HT := Lib.hid (HT.out.below hb)
  have HP := Lib.hid (HP.out.below hb)
  have HB := Lib.hid (bstep HB.out hb)
  clear hb
  go_upto_region 8 with fail
  have hsz := HB.out.size
  have HLKO := Lib.hid hsz
  have NKTKO := Lib.hid (show w2.heap.size ≠ w7.heap.size from Nat.ne_of_lt KT.out.lt)
  have NKPKO := Lib.hid (show w4.heap.size ≠ w7.heap.size from Nat.ne_of_lt KP.out.lt)
  have bn : Blk (w7.alloc (.cells #[.int .i64 3, .int .i64 4] 59)) w7.heap.size 59 #[.int .i64 3, .int .i64 4] := Blk.new w7 59 #[.int .i64 3, .int .i64 4]
  have hbe := bal HB.out (.cells #[.int .i64 3, .int .i64 4] 59)
  have hbo := bal (bre w7) (.cells #[.int .i64 3, .int .i64 4] 59)
  have cKT := KT.out.belowS hbo
  have cKP := KP.out.belowS hbo
  have cHT := HT.out.below hbo
  have cHP := HP.out.below hbo
  obtain ⟨X7, hX7⟩ : ∃ X7, (w7.alloc (.cells #[.int .i64 3, .int .i64 4] 59)) = X7 := ⟨_, rfl⟩
  rw [hX7] at bn hbe cKT cKP cHT cHP ⊢
  have HB := Lib.hid hbe
  have KT := Lib.hid cKT
  have KP := Lib.hid cKP
  have HT := Lib.hid cHT
  have HP := Lib.hid cHP
  have KO := Lib.hid bn
  clear bn hbe cKT cKP cHT cHP hsz hX7 hbo
  have kp0 := KP.out.cellV (i := 0) (v := .map mp6) rfl
  have kt0 := KT.out.cellV (i := 0) (v := .map mk3) rfl
  have kt1 := KT.out.cellV (i := 1) (v := .map mu3) rfl
  go_wp2_with fail
  with_reducible refine (aw_resize mp6 mk3 mu3 nk3 fk3 _ HP.out HT.out (HH.out.below HB.out hw0)).mono ?_
  rintro e w8 ⟨mq8, rfl, hq, hb⟩
  clear kp0 kt0 kt1
  have KT := Lib.hid (KT.out.belowS hb)
  have KP := Lib.hid (KP.out.belowS hb)
  have KO := Lib.hid (KO.out.belowS hb)
  have HT := Lib.hid (HT.out.below hb)
  have HP := Lib.hid (HP.out.below hb)
  have HB := Lib.hid (bstep HB.out hb)
  have HQ := Lib.hid hq
  clear hb hq
  go_upto_region 9 with fail
  have hsz := HB.out.size
  have HLKQ := Lib.hid hsz
  have NKTKQ := Lib.hid (show w2.heap.size ≠ w8.heap.size from Nat.ne_of_lt KT.out.lt)
  have NKPKQ := Lib.hid (show w4.heap.size ≠ w8.heap.size from Nat.ne_of_lt KP.out.lt)
  have NKOKQ := Lib.hid (show w7.heap.size ≠ w8.heap.size from Nat.ne_of_lt KO.out.lt)
  have bn : Blk (w8.alloc (.cells #[.map mq8] 38)) w8.heap.size 38 #[.map mq8] := Blk.new w8 38 #[.map mq8]
  have hbe := bal HB.out (.cells #[.map mq8] 38)
  have hbo := bal (bre w8) (.cells #[.map mq8] 38)
  have cKT := KT.out.belowS hbo
  have cKP := KP.out.belowS hbo
  have cKO := KO.out.belowS hbo
  have cHT := HT.out.below hbo
  have cHP := HP.out.below hbo
  have cHQ := HQ.out.below hbo
  obtain ⟨X8, hX8⟩ : ∃ X8, (w8.alloc (.cells #[.map mq8] 38)) = X8 := ⟨_, rfl⟩
  rw [hX8] at bn hbe cKT cKP cKO cHT cHP cHQ ⊢
  have HB := Lib.hid hbe
  have KT := Lib.hid cKT
  have KP := Lib.hid cKP
  have KO := Lib.hid cKO
  have HT := Lib.hid cHT
  have HP := Lib.hid cHP
  have HQ := Lib.hid cHQ
  have KQ := Lib.hid bn
  clear bn hbe cKT cKP cKO cHT cHP cHQ hsz hX8 hbo
  have kq0 := KQ.out.cellV (i := 0) (v := .map mq8) rfl
  go_wp2_with fail
  with_reducible refine (aw_boxQ mq8 _ HQ.out).mono ?_
  rintro e w9 ⟨rfl, hb⟩
  clear kq0
  have KT := Lib.hid (KT.out.belowS hb)
  have KP := Lib.hid (KP.out.belowS hb)
  have KO := Lib.hid (KO.out.belowS hb)
  have HT := Lib.hid (HT.out.below hb)
  have HP := Lib.hid (HP.out.below hb)
  have HB := Lib.hid (bstep HB.out hb)
  clear hb
  go_upto_region 10 with fail
  have hsz := HB.out.size
  have HLKX := Lib.hid hsz
  have NKTKX := Lib.hid (show w2.heap.size ≠ w9.heap.size from Nat.ne_of_lt KT.out.lt)
  have NKPKX := Lib.hid (show w4.heap.size ≠ w9.heap.size from Nat.ne_of_lt KP.out.lt)
  have NKOKX := Lib.hid (show w7.heap.size ≠ w9.heap.size from Nat.ne_of_lt KO.out.lt)
  have bn : Blk (w9.alloc (.cells #[.int .i64 3, .int .i64 0, .int .i64 2, .int .i64 2, .bool true, .int .i64 9, .int .i64 0, .bool false, .slice none 0 0] 46)) w9.heap.size 46 #[.int .i64 3, .int .i64 0, .int .i64 2, .int .i64 2, .bool true, .int .i64 9, .int .i64 0, .bool false, .slice none 0 0] := Blk.new w9 46 #[.int .i64 3, .int .i64 0, .int .i64 2, .int .i64 2, .bool true, .int .i64 9, .int .i64 0, .bool false, .slice none 0 0]
  have hbe := bal HB.out (.cells #[.int .i64 3, .int .i64 0, .int .i64 2, .int .i64 2, .bool true, .int .i64 9, .int .i64 0, .bool false, .slice none 0 0] 46)
  have hbo := bal (bre w9) (.cells #[.int .i64 3, .int .i64 0, .int .i64 2, .int .i64 2, .bool true, .int .i64 9, .int .i64 0, .bool false, .slice none 0 0] 46)
  have cKT := KT.out.belowS hbo
  have cKP := KP.out.belowS hbo
  have cKO := KO.out.belowS hbo
  have cHT := HT.out.below hbo
  have cHP := HP.out.below hbo
  obtain ⟨X9, hX9⟩ : ∃ X9, (w9.alloc (.cells #[.int .i64 3, .int .i64 0, .int .i64 2, .int .i64 2, .bool true, .int .i64 9, .int .i64 0, .bool false, .slice none 0 0] 46)) = X9 := ⟨_, rfl⟩
  rw [hX9] at bn hbe cKT cKP cKO cHT cHP ⊢
  have HB := Lib.hid hbe
  have KT := Lib.hid cKT
  have KP := Lib.hid cKP
  have KO := Lib.hid cKO
  have HT := Lib.hid cHT
  have HP := Lib.hid cHP
  have KX := Lib.hid bn
  clear bn hbe cKT cKP cKO cHT cHP hsz hX9 hbo
  have kp0 := KP.out.cellV (i := 0) (v := .map mp6) rfl
  have kt0 := KT.out.cellV (i := 0) (v := .map mk3) rfl
  have kt1 := KT.out.cellV (i := 1) (v := .map mu3) rfl
  go_wp2_with fail
  with_reducible refine (aw_mates mp6 mk3 mu3 nk3 fk3 _ HP.out HT.out).mono ?_
  rintro e w10 ⟨m10, f10, rfl, hm, hf, hb⟩
  clear kp0 kt0 kt1
  have KT := Lib.hid (KT.out.belowS hb)
  have KP := Lib.hid (KP.out.belowS hb)
  have KO := Lib.hid (KO.out.belowS hb)
  have KX := Lib.hid (KX.out.belowS hb)
  have HT := Lib.hid (HT.out.below hb)
  have HP := Lib.hid (HP.out.below hb)
  have HB := Lib.hid (bstep HB.out hb)
  have HM := Lib.hid hm
  have HF := Lib.hid hf
  clear hb hm hf
  go_upto_region 11 with fail
  have kp0 := KP.out.cellV (i := 0) (v := .map mp6) rfl
  have ko0 := KO.out.cellV (i := 0) (v := .int .i64 3) rfl
  have ko1 := KO.out.cellV (i := 1) (v := .int .i64 4) rfl
  have kx0 := KX.out.cellV (i := 0) (v := .int .i64 3) rfl
  have kx1 := KX.out.cellV (i := 1) (v := .int .i64 0) rfl
  have HWF := Lib.hid (u32_wf (i := 1048578) (by decide))
  go_wp2_with (first
    | (at_len; refine opt_len_if _ 76 rfl 27 29 .u32 Tryz.underlying76 (some m10) 1 f10 rfl (.inr ⟨_, rfl, HM.out⟩) (by go_simp) ?_)
    | (at_lookup; refine map_look_if _ _ 76 rfl 27 29 .u32 Tryz.underlying27 Tryz.underlying76 (.agg #[.int .i64 0, .int .i64 0, .int .i64 0, .int .i64 0]) (Tryz.zeroRc _) m10 1 f10 rfl HM.out 1048578 rfl HWF.out (by go_simp) ?_; rw [HF.out]; show wpList _ _ _ _ (Act.put _ _ (.agg #[.int .i64 1, .int .i64 1, .int .i64 2, .int .i64 2])) _)
    | (go_at_call 19; refine (aw_area mp6 _ HP.out).mono ?_; rintro e w11 ⟨A11, c11, rfl, hr, hb⟩; have HR := Lib.hid hr; have HB := Lib.hid (bstep HB.out hb); clear hr hb)
    | (go_at_call 22; refine (area_any A11 1 c11 [⟨0, 0, 2, 2⟩] _ (by decide) HR.out (by decide)).mono ?_; rintro e w12 ⟨rfl, hb⟩; have HB := Lib.hid (bstep HB.out hb); clear hb; rw [show areaL [⟨0, 0, 2, 2⟩] = 4 from rfl]))
  go_ret
  exact ⟨rfl, HB.out⟩

end Go.Proofs.YtbfefkhejknmoaaGreatDoor
