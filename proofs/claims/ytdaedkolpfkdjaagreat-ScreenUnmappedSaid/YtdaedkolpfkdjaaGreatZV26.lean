/-
  The walks of a canvas's add, Open, Grid and Lay.
-/
import Derived.Test.YtdaedkolpfkdjaaGreatZV25
import Derived.Test.YtdaedkolpfkdjaaGreatZV24
section
namespace Go.Proofs.YtdaedkolpfkdjaaGreat
open Go.RowKit Go.Maps Go.Shelf

theorem pix_rep {G : Int} (hG : 0 ≤ G ∧ G ≤ 255) (m : Nat) : Gr.Pix (List.replicate m G) := fun p hp => by
  have := List.eq_of_mem_replicate hp
  omega
/-- a store into a block without numbers leaves a canvas. -/
theorem rd_noint {w : World} {A : Option Addr} {n : Nat} {px : List Int} (h : Rd w A n (Gr.U8 px)) {B : Nat} {t : TypeId} {cs : Array Value} (hB : Blk w B t cs) (hno : ∀ (j : Nat) (k : IntKind) (x : Int), cs[j]? ≠ some (.int k x)) (i : Nat) (u : Value) : Rd (w.setCell ⟨B, i, none⟩ u) A n (Gr.U8 px) := by
  refine h.far' (p := ⟨B, i, none⟩) (fun hn a ha e => ?_) u
  obtain ⟨b, off, e1, _, hc⟩ := h.2 hn
  rw [e1] at ha
  cases ha
  dsimp only at e
  subst e
  have hl := h.1
  match px, hl with
  | [], hl => simp [Gr.U8] at hl; omega
  | x :: l, _ =>
    have := hc 0 (.int .u8 x) rfl
    rw [hB.cell] at this
    exact hno _ _ _ this
theorem CanvasIs.setX {w : World} {v : Value} {n : Nat} {cs : Its} (h : CanvasIs w v n cs) {B : Nat} {t : TypeId} {bs : Array Value} (hB : Blk w B t bs) (hno : ∀ (j : Nat) (k : IntKind) (x : Int), bs[j]? ≠ some (.int k x)) (i : Nat) (u : Value) : CanvasIs (w.setCell ⟨B, i, none⟩ u) v n cs := by
  obtain ⟨mb, e, h1, h2⟩ := h
  refine ⟨mb, e, h1.setBlk hB i u, fun j it hj => ?_⟩
  have h3 := h2 j it hj
  exact ⟨rd_noint h3.rd hB hno i u, h3.area, h3.wide, h3.high, h3.cap, h3.pix⟩
set_option maxRecDepth 100000 in
set_option maxHeartbeats 4000000 in
theorem cadd_ok (v : Value) (n : Nat) (cs : Its) (id : Int) (W H : Nat) (G : Int) (win back : Bool) (w : World) (hid : 0 ≤ id ∧ id ≤ 4294967295) (h : CanvasIs w v n cs) (hck : idC id = 0) (hW : 1 ≤ W ∧ W ≤ 128) (hH : 1 ≤ H ∧ H ≤ 128) (hG : 0 ≤ G ∧ G ≤ 255) (hno : cs id = none) (hn : n < 1025) :
    Calls Tryz.prog 116 #[v, .int .u32 id, .int .i64 W, .int .i64 H, .agg #[.int .i64 0, .int .i64 0, .slice none 0 0, .int .u8 G, .bool win, .bool back]] w fun e w' => ∃ mb' A' c', e = .returned (.tuple #[.agg #[.map (some mb')], .int .i64 0]) ∧ CanvasIs w' (.agg #[.map (some mb')]) (n + 1) (cs.put id ⟨W, H, A', W * H, c', G, win, back, List.replicate (W * H) G⟩) ∧ w.heap.size ≤ mb' ∧ Below w.heap.size w w' := by
  have hC := h
  obtain ⟨mb, rfl, hm, hc⟩ := h
  have HC := Lib.hid hC
  have HCK := Lib.hid hck
  have HM := Lib.hid hm
  have HWF := Lib.hid (u32_wf hid)
  have HNO := Lib.hid hno
  have HGG := Lib.hid (show (cs.f id).getD zIT.v = .agg #[.int .i64 0, .int .i64 0, .slice none 0 0, .int .u8 0, .bool false, .bool false] by rw [canvas_get, hno]; rfl)
  have HGS := Lib.hid (show (cs.f id).isSome = false by rw [canvas_has, hno]; rfl)
  have hnl : decide ((1025 : Int) ≤ (n : Int)) = false := decide_eq_false (by omega)
  have hng : decide ((n : Int) ≥ (1025 : Int)) = false := decide_eq_false (by omega)
  clear hC hm hc hck hno
  have xb := bal (bal (bal (bre w) (.cells #[.map mb] 67)) (.cells #[.int .i64 0, .int .i64 0, .slice none 0 0, .int .u8 G, .bool win, .bool back] 225)) (.cells #[.map none] 67)
  have x0 := ((Blk.new w 67 #[.map mb]).alloc (.cells #[.int .i64 0, .int .i64 0, .slice none 0 0, .int .u8 G, .bool win, .bool back] 225)).alloc (.cells #[.map none] 67)
  have x1 := (blk_new2 w (.cells #[.map mb] 67) 225 #[.int .i64 0, .int .i64 0, .slice none 0 0, .int .u8 G, .bool win, .bool back]).alloc (.cells #[.map none] 67)
  have x2 := blk_newX3 w (.cells #[.map mb] 67) (.cells #[.int .i64 0, .int .i64 0, .slice none 0 0, .int .u8 G, .bool win, .bool back] 225) 67 #[.map none]
  go_enter Tryz.func116, Tryz.ntmps116
  go_upto_region 1 with fail
  obtain ⟨X, hX⟩ : ∃ X, ((w.alloc (.cells #[.map mb] 67)).alloc (.cells #[.int .i64 0, .int .i64 0, .slice none 0 0, .int .u8 G, .bool win, .bool back] 225)).alloc (.cells #[.map none] 67) = X := ⟨_, rfl⟩
  rw [hX] at xb x0 x1 x2 ⊢
  have HB := Lib.hid xb
  have K0 := Lib.hid x0
  have K1 := Lib.hid x1
  have K2 := Lib.hid x2
  have p3 := x1.cellV (i := 3) (v := .int .u8 G) rfl
  clear xb x0 x1 x2 hX
  go_wp2_with (go_at_call 64; refine (check_any _ _ hid).mono ?_; rintro e w' ⟨rfl, rfl⟩; rw [HCK.out])
  refine (Gr.new_any W H G _ hW hH).mono ?_
  rintro e w1 ⟨A1, c1, rfl, hr1, hc1, hfr1, hb1⟩
  have hlx := K1.out.lt
  have HFA := Lib.hid (show ∀ a, A1 = some a → a.block ≠ w.heap.size + 1 from fun a e => by have := hfr1 a e; omega)
  have HR1 := Lib.hid hr1
  replace HB := Lib.hid (bstep HB.out hb1)
  replace K0 := Lib.hid (K0.out.belowS hb1)
  replace K1 := Lib.hid (K1.out.belowS hb1)
  replace K2 := Lib.hid (K2.out.belowS hb1)
  clear hr1 hb1 p3
  go_upto_region 5 with fail
  have xb := bal HB.out (.cells #[.int .i64 W, .int .i64 H, .slice A1 (W * H) c1] 75)
  have xr := HR1.out.below (bal (bre w1) (.cells #[.int .i64 W, .int .i64 H, .slice A1 (W * H) c1] 75))
  have x0 := K0.out.alloc (.cells #[.int .i64 W, .int .i64 H, .slice A1 (W * H) c1] 75)
  have x1 := K1.out.alloc (.cells #[.int .i64 W, .int .i64 H, .slice A1 (W * H) c1] 75)
  have x2 := K2.out.alloc (.cells #[.int .i64 W, .int .i64 H, .slice A1 (W * H) c1] 75)
  have x3 := Blk.new w1 75 #[.int .i64 W, .int .i64 H, .slice A1 (W * H) c1]
  have hlt2 := K2.out.lt
  obtain ⟨g, hg⟩ : ∃ g, w1.heap.size = g := ⟨_, rfl⟩
  obtain ⟨Y, hY⟩ : ∃ Y, w1.alloc (.cells #[.int .i64 W, .int .i64 H, .slice A1 (W * H) c1] 75) = Y := ⟨_, rfl⟩
  rw [hY] at xb xr x0 x1 x2 x3 ⊢
  rw [hg] at x3 hlt2 ⊢
  replace HB := Lib.hid xb
  replace HR1 := Lib.hid xr
  replace K0 := Lib.hid x0
  replace K1 := Lib.hid x1
  replace K2 := Lib.hid x2
  have K3 := Lib.hid x3
  have HMY := Lib.hid (HM.out.below xb)
  have hgy := x3.lt
  have p0 := x0.cellV (i := 0) (v := .map mb) rfl
  clear xb xr x0 x1 x2 x3 hY hg
  go_upto_region 10 with (at_lookup; refine opt_look_ok rfl _ _ 65 rfl 48 225 .u32 Tryz.underlying48 Tryz.underlying65 zIT.v (Tryz.zeroItem _) mb n cs.f rfl HMY.out id rfl HWF.out ?_; dsimp only; rw [HGG.out, HGS.out])
  have xb := bal HB.out (.cells #[.int .i64 0, .int .i64 0, .slice none 0 0, .int .u8 0, .bool false, .bool false] 225)
  have xr := HR1.out.below (bal (bre Y) (.cells #[.int .i64 0, .int .i64 0, .slice none 0 0, .int .u8 0, .bool false, .bool false] 225))
  have x0 := K0.out.alloc (.cells #[.int .i64 0, .int .i64 0, .slice none 0 0, .int .u8 0, .bool false, .bool false] 225)
  have x1 := K1.out.alloc (.cells #[.int .i64 0, .int .i64 0, .slice none 0 0, .int .u8 0, .bool false, .bool false] 225)
  have x2 := K2.out.alloc (.cells #[.int .i64 0, .int .i64 0, .slice none 0 0, .int .u8 0, .bool false, .bool false] 225)
  have x3 := K3.out.alloc (.cells #[.int .i64 0, .int .i64 0, .slice none 0 0, .int .u8 0, .bool false, .bool false] 225)
  obtain ⟨Z, hZ⟩ : ∃ Z, Y.alloc (.cells #[.int .i64 0, .int .i64 0, .slice none 0 0, .int .u8 0, .bool false, .bool false] 225) = Z := ⟨_, rfl⟩
  rw [hZ] at xb xr x0 x1 x2 x3 ⊢
  have HMZ := Lib.hid (HM.out.below xb)
  have p0' := x0.cellV (i := 0) (v := .map mb) rfl
  have p3 := x3.cellV (i := 0) (v := .int .i64 W) rfl
  have p4 := x3.cellV (i := 1) (v := .int .i64 H) rfl
  have p5 := x3.cellV (i := 2) (v := .slice A1 (W * H) c1) rfl
  have q0 := x1.cellV (i := 0) (v := .int .i64 0) rfl
  have q1 := x1.cellV (i := 1) (v := .int .i64 0) rfl
  have q2 := x1.cellV (i := 2) (v := .slice none 0 0) rfl
  have f0 := x1.frozen 0
  have f1 := x1.frozen 1
  have f2 := x1.frozen 2
  have l1 := x1.lt
  go_upto_region 13 with (at_len; refine opt_len rfl _ 65 rfl 48 225 .u32 Tryz.underlying65 mb n cs.f rfl HMZ.out ?_)
  have y1 := ((x1.set_ 0 (.int .i64 W)).set_ 1 (.int .i64 H)).set_ 2 (.slice A1 (W * H) c1)
  have n0 : w.heap.size ≠ w.heap.size + 1 := by omega
  have n2 : w.heap.size + 1 + 1 ≠ w.heap.size + 1 := by omega
  have y0 := ((x0.far (p := ⟨w.heap.size + 1, 0, none⟩) n0 (.int .i64 W)).far (p := ⟨w.heap.size + 1, 1, none⟩) n0 (.int .i64 H)).far (p := ⟨w.heap.size + 1, 2, none⟩) n0 (.slice A1 (W * H) c1)
  have y2 := ((x2.far (p := ⟨w.heap.size + 1, 0, none⟩) n2 (.int .i64 W)).far (p := ⟨w.heap.size + 1, 1, none⟩) n2 (.int .i64 H)).far (p := ⟨w.heap.size + 1, 2, none⟩) n2 (.slice A1 (W * H) c1)
  have yb := bset (bset (bset xb (p := ⟨w.heap.size + 1, 0, none⟩) (by show w.heap.size ≤ w.heap.size + 1; omega) (.int .i64 W)) (p := ⟨w.heap.size + 1, 1, none⟩) (by show w.heap.size ≤ w.heap.size + 1; omega) (.int .i64 H)) (p := ⟨w.heap.size + 1, 2, none⟩) (by show w.heap.size ≤ w.heap.size + 1; omega) (.slice A1 (W * H) c1)
  have yr := ((xr.far (p := ⟨w.heap.size + 1, 0, none⟩) HFA.out (.int .i64 W)).far (p := ⟨w.heap.size + 1, 1, none⟩) HFA.out (.int .i64 H)).far (p := ⟨w.heap.size + 1, 2, none⟩) HFA.out (.slice A1 (W * H) c1)
  obtain ⟨V, hV⟩ : ∃ V, ((Z.setCell ⟨w.heap.size + 1, 0, none⟩ (.int .i64 W)).setCell ⟨w.heap.size + 1, 1, none⟩ (.int .i64 H)).setCell ⟨w.heap.size + 1, 2, none⟩ (.slice A1 (W * H) c1) = V := ⟨_, rfl⟩
  rw [hV] at y0 y1 y2 yb yr ⊢
  have HBV := Lib.hid yb
  have HCV := Lib.hid (HC.out.below yb)
  have HRV := Lib.hid yr
  have K2V := Lib.hid y2
  have r0 := y0.cellV (i := 0) (v := .map mb) rfl
  have r1 := y1.cellV (i := 0) (v := .int .i64 W) rfl
  have r2 := y1.cellV (i := 1) (v := .int .i64 H) rfl
  have r3 := y1.cellV (i := 2) (v := .slice A1 (W * H) c1) rfl
  have r4 := y1.cellV (i := 3) (v := .int .u8 G) rfl
  have r5 := y1.cellV (i := 4) (v := .bool win) rfl
  have r6 := y1.cellV (i := 5) (v := .bool back) rfl
  clear y0 y1 y2 yb yr hV xb xr x0 x1 x2 x3 hZ p0 p0' p3 p4 p5 q0 q1 q2 f0 f1 f2 l1
  go_wp2_with fail
  have hit : IT.ok V ⟨W, H, A1, W * H, c1, G, win, back, List.replicate (W * H) G⟩ := ⟨HRV.out, rfl, hW.2, hH.2, hc1, pix_rep hG _⟩
  refine (cwith_any _ n cs id ⟨W, H, A1, W * H, c1, G, win, back, List.replicate (W * H) G⟩ _ hid HCV.out hit (by omega)).mono ?_
  rintro e w5 ⟨mb', rfl, hc5, hf5, hb5⟩
  rw [HNO.out] at hc5
  have HC5 := Lib.hid hc5
  have HB5 := Lib.hid (bstep HBV.out hb5)
  have x2 := K2V.out.belowS hb5
  have K25 := Lib.hid x2
  have s0 := x2.cellV (i := 0) (v := .map none) rfl
  have sf := x2.frozen 0
  have sl := x2.lt
  clear hc5 hb5 x2 hit
  go_wp2_with fail
  have hb9 := K25.out.set_ 0 (.map (some mb'))
  have hr := hb9.cellV (i := 0) (v := .map (some mb')) rfl
  have hbs := HBV.out.size
  refine bodyPost_ret (v := .tuple #[.agg #[.map (some mb')], .int .i64 0]) (by simp [results, Tryz.results116, go_sem, hr]) rfl ⟨mb', A1, c1, rfl, HC5.out.setX K25.out (fun j k x => by match j with | 0 => simp | j + 1 => simp) 0 _, by omega, bset HB5.out (p := ⟨w.heap.size + 1 + 1, 0, none⟩) (by show w.heap.size ≤ w.heap.size + 1 + 1; omega) _⟩
set_option maxRecDepth 100000 in
set_option maxHeartbeats 4000000 in
theorem copen_ok (v : Value) (n : Nat) (cs : Its) (id : Int) (W H : Nat) (G : Int) (back : Bool) (w : World) (hid : 0 ≤ id ∧ id ≤ 4294967295) (h : CanvasIs w v n cs) (hck : idC id = 0) (hW : 1 ≤ W ∧ W ≤ 128) (hH : 1 ≤ H ∧ H ≤ 128) (hG : 0 ≤ G ∧ G ≤ 255) (hno : cs id = none) (hn : n < 1025) :
    Calls Tryz.prog 62 #[v, .int .u32 id, .int .i64 W, .int .i64 H, .int .u8 G, .bool back] w fun e w' => ∃ mb' A' c', e = .returned (.tuple #[.agg #[.map (some mb')], .int .i64 0]) ∧ CanvasIs w' (.agg #[.map (some mb')]) (n + 1) (cs.put id ⟨W, H, A', W * H, c', G, true, back, List.replicate (W * H) G⟩) ∧ w.heap.size ≤ mb' ∧ Below w.heap.size w w' := by
  have hC := h
  obtain ⟨mb, rfl, _, _⟩ := h
  have HC := Lib.hid hC
  clear hC
  have xb := bal (bal (bre w) (.cells #[.map mb] 67)) (.cells #[.map none] 67)
  have x0 := (Blk.new w 67 #[.map mb]).alloc (.cells #[.map none] 67)
  have x1 := blk_new2 w (.cells #[.map mb] 67) 67 #[.map none]
  go_enter Tryz.func62, Tryz.ntmps62
  go_upto_region 1 with fail
  obtain ⟨X, hX⟩ : ∃ X, (w.alloc (.cells #[.map mb] 67)).alloc (.cells #[.map none] 67) = X := ⟨_, rfl⟩
  rw [hX] at xb x0 x1 ⊢
  have HB := Lib.hid xb
  have K1 := Lib.hid x1
  have p0 := x0.cellV (i := 0) (v := .map mb) rfl
  clear xb x0 x1 hX
  go_wp2_with fail
  refine (cadd_ok _ n cs id W H G true back _ hid (HC.out.below HB.out) hck hW hH hG hno hn).mono ?_
  rintro e w5 ⟨mb', A', c', rfl, hc5, hf5, hb5⟩
  have HC5 := Lib.hid hc5
  have hbs := HB.out.size
  have HB5 := Lib.hid (bstep HB.out hb5)
  have x1 := K1.out.belowS hb5
  have K15 := Lib.hid x1
  have s0 := x1.cellV (i := 0) (v := .map none) rfl
  have sf := x1.frozen 0
  have sl := x1.lt
  clear hc5 hb5 x1 p0
  go_wp2_with fail
  have hb9 := K15.out.set_ 0 (.map (some mb'))
  have hr := hb9.cellV (i := 0) (v := .map (some mb')) rfl
  refine bodyPost_ret (v := .tuple #[.agg #[.map (some mb')], .int .i64 0]) (by simp [results, Tryz.results62, go_sem, hr]) rfl ⟨mb', A', c', rfl, HC5.out.setX K15.out (fun j k x => by match j with | 0 => simp | j + 1 => simp) 0 _, by omega, bset HB5.out (p := ⟨w.heap.size + 1, 0, none⟩) (by show w.heap.size ≤ w.heap.size + 1; omega) _⟩
/-- a grid as a value. -/
def IT.g (i : IT) : Value := .agg #[.int .i64 i.W, .int .i64 i.H, .slice i.A i.n i.c]
set_option maxRecDepth 100000 in
set_option maxHeartbeats 4000000 in
theorem cgrid_any (v : Value) (n : Nat) (cs : Its) (id : Int) (w : World) (hid : 0 ≤ id ∧ id ≤ 4294967295) (h : CanvasIs w v n cs) :
    Calls Tryz.prog 61 #[v, .int .u32 id] w fun e w' => e = .returned (.tuple #[((cs id).getD zIT).g, .bool (cs id).isSome]) ∧ Below w.heap.size w w' := by
  obtain ⟨mb, rfl, hm, _⟩ := h
  have HM := Lib.hid hm
  have HWF := Lib.hid (u32_wf hid)
  have hgg := canvas_get cs id
  have hgs := canvas_has cs id
  obtain ⟨it, hit⟩ : ∃ it, (cs id).getD zIT = it := ⟨_, rfl⟩
  obtain ⟨s, hs⟩ : ∃ s, (cs id).isSome = s := ⟨_, rfl⟩
  rw [hit] at hgg ⊢
  rw [hs] at hgs ⊢
  obtain ⟨iW, iH, iA, inn, ic, iG, iw, ib, ip⟩ := it
  unfold IT.g
  unfold IT.v at hgg
  dsimp only at hgg ⊢
  have HGG := Lib.hid (show (cs.f id).getD zIT.v = .agg #[.int .i64 iW, .int .i64 iH, .slice iA inn ic, .int .u8 iG, .bool iw, .bool ib] from hgg)
  have HGS := Lib.hid hgs
  clear hgg hgs hm hit hs
  have xb := bal (bal (bre w) (.cells #[.map mb] 67)) (.cells #[.int .i64 0, .int .i64 0, .slice none 0 0] 75)
  have x0 := (Blk.new w 67 #[.map mb]).alloc (.cells #[.int .i64 0, .int .i64 0, .slice none 0 0] 75)
  have x1 := blk_new2 w (.cells #[.map mb] 67) 75 #[.int .i64 0, .int .i64 0, .slice none 0 0]
  go_enter Tryz.func61, Tryz.ntmps61
  go_upto_region 1 with fail
  obtain ⟨X, hX⟩ : ∃ X, (w.alloc (.cells #[.map mb] 67)).alloc (.cells #[.int .i64 0, .int .i64 0, .slice none 0 0] 75) = X := ⟨_, rfl⟩
  rw [hX] at xb x0 x1 ⊢
  have HB := Lib.hid xb
  have K1 := Lib.hid x1
  have p0 := x0.cellV (i := 0) (v := .map mb) rfl
  have HMX := Lib.hid (HM.out.below xb)
  clear xb x0 x1 hX
  go_upto_region 2 with (at_lookup; refine opt_look_ok rfl _ _ 65 rfl 48 225 .u32 Tryz.underlying48 Tryz.underlying65 zIT.v (Tryz.zeroItem _) mb n cs.f rfl HMX.out id rfl HWF.out ?_; dsimp only; rw [HGG.out, HGS.out])
  have xb := bal HB.out (.cells #[.int .i64 iW, .int .i64 iH, .slice iA inn ic, .int .u8 iG, .bool iw, .bool ib] 225)
  have x1 := K1.out.alloc (.cells #[.int .i64 iW, .int .i64 iH, .slice iA inn ic, .int .u8 iG, .bool iw, .bool ib] 225)
  have x2 := Blk.new X 225 #[.int .i64 iW, .int .i64 iH, .slice iA inn ic, .int .u8 iG, .bool iw, .bool ib]
  obtain ⟨g, hg⟩ : ∃ g, X.heap.size = g := ⟨_, rfl⟩
  obtain ⟨Z, hZ⟩ : ∃ Z, X.alloc (.cells #[.int .i64 iW, .int .i64 iH, .slice iA inn ic, .int .u8 iG, .bool iw, .bool ib] 225) = Z := ⟨_, rfl⟩
  rw [hZ] at xb x1 x2 ⊢
  rw [hg] at x2 ⊢
  have a0 := x2.cellV (i := 0) (v := .int .i64 iW) rfl
  have a1 := x2.cellV (i := 1) (v := .int .i64 iH) rfl
  have a2 := x2.cellV (i := 2) (v := .slice iA inn ic) rfl
  have c0 := x1.cellV (i := 0) (v := .int .i64 0) rfl
  have c1 := x1.cellV (i := 1) (v := .int .i64 0) rfl
  have c2 := x1.cellV (i := 2) (v := .slice none 0 0) rfl
  have f0 := x1.frozen 0
  have f1 := x1.frozen 1
  have f2 := x1.frozen 2
  have l1 := x1.lt
  go_wp2_with fail
  have hb9 := ((x1.set_ 0 (.int .i64 iW)).set_ 1 (.int .i64 iH)).set_ 2 (.slice iA inn ic)
  have h0 := hb9.cellV (i := 0) (v := .int .i64 iW) rfl
  have h1 := hb9.cellV (i := 1) (v := .int .i64 iH) rfl
  have h2 := hb9.cellV (i := 2) (v := .slice iA inn ic) rfl
  exact bodyPost_ret (v := .tuple #[.agg #[.int .i64 iW, .int .i64 iH, .slice iA inn ic], .bool s]) (by simp [results, Tryz.results61, go_sem, h0, h1, h2]) rfl ⟨rfl, bset (bset (bset xb (p := ⟨w.heap.size + 1, 0, none⟩) (by show w.heap.size ≤ w.heap.size + 1; omega) _) (p := ⟨w.heap.size + 1, 1, none⟩) (by show w.heap.size ≤ w.heap.size + 1; omega) _) (p := ⟨w.heap.size + 1, 2, none⟩) (by show w.heap.size ≤ w.heap.size + 1; omega) _⟩
set_option maxRecDepth 100000 in
set_option maxHeartbeats 4000000 in
theorem clay_ok (v : Value) (n : Nat) (cs : Its) (id : Int) (it : IT) (A : Option Addr) (c : Nat) (px : List Int) (w : World) (hid : 0 ≤ id ∧ id ≤ 4294967295) (h : CanvasIs w v n cs) (hit : cs id = some it) (hr : Rd w A it.n (Gr.U8 px)) (hc : it.n ≤ c) (hp : Gr.Pix px) (hn : n ≤ 100000) :
    Calls Tryz.prog 71 #[v, .int .u32 id, .agg #[.int .i64 it.W, .int .i64 it.H, .slice A it.n c]] w fun e w' => ∃ mb', e = .returned (.tuple #[.agg #[.map (some mb')], .int .i64 0]) ∧ CanvasIs w' (.agg #[.map (some mb')]) n (cs.put id ⟨it.W, it.H, A, it.n, c, it.G, it.win, it.back, px⟩) ∧ w.heap.size ≤ mb' ∧ Below w.heap.size w w' := by
  have hC := h
  obtain ⟨mb, rfl, hm, hcs⟩ := h
  have hio := hcs id it hit
  have HIO := Lib.hid (⟨hio.area, hio.wide, hio.high⟩ : it.n = it.W * it.H ∧ it.W ≤ 128 ∧ it.H ≤ 128)
  obtain ⟨W, H, iA, inn, ic, iG, iw, ib, ip⟩ := it
  dsimp only at hr hc HIO ⊢
  have HC := Lib.hid hC
  have HM := Lib.hid hm
  have HWF := Lib.hid (u32_wf hid)
  have HR := Lib.hid hr
  have HP := Lib.hid hp
  have HGG := Lib.hid (show (cs.f id).getD zIT.v = .agg #[.int .i64 W, .int .i64 H, .slice iA inn ic, .int .u8 iG, .bool iw, .bool ib] by rw [canvas_get, hit]; rfl)
  have HGS := Lib.hid (show (cs.f id).isSome = true by rw [canvas_has, hit]; rfl)
  have HSO := Lib.hid (show (cs id).isSome = true by rw [hit]; rfl)
  clear hC hm hcs hio hr hp hit
  have xb := bal (bal (bal (bre w) (.cells #[.map mb] 67)) (.cells #[.int .i64 W, .int .i64 H, .slice A inn c] 75)) (.cells #[.map none] 67)
  have x0 := ((Blk.new w 67 #[.map mb]).alloc (.cells #[.int .i64 W, .int .i64 H, .slice A inn c] 75)).alloc (.cells #[.map none] 67)
  have x1 := (blk_new2 w (.cells #[.map mb] 67) 75 #[.int .i64 W, .int .i64 H, .slice A inn c]).alloc (.cells #[.map none] 67)
  have x2 := blk_newX3 w (.cells #[.map mb] 67) (.cells #[.int .i64 W, .int .i64 H, .slice A inn c] 75) 67 #[.map none]
  go_enter Tryz.func71, Tryz.ntmps71
  go_upto_region 1 with fail
  obtain ⟨X, hX⟩ : ∃ X, ((w.alloc (.cells #[.map mb] 67)).alloc (.cells #[.int .i64 W, .int .i64 H, .slice A inn c] 75)).alloc (.cells #[.map none] 67) = X := ⟨_, rfl⟩
  rw [hX] at xb x0 x1 x2 ⊢
  have HB := Lib.hid xb
  have K0 := Lib.hid x0
  have K1 := Lib.hid x1
  have K2 := Lib.hid x2
  have HMX := Lib.hid (HM.out.below xb)
  have p0 := x0.cellV (i := 0) (v := .map mb) rfl
  have hl2 := x2.lt
  clear xb x0 x1 x2 hX
  go_upto_region 4 with (at_lookup; refine opt_look_ok rfl _ _ 65 rfl 48 225 .u32 Tryz.underlying48 Tryz.underlying65 zIT.v (Tryz.zeroItem _) mb n cs.f rfl HMX.out id rfl HWF.out ?_; dsimp only; rw [HGG.out, HGS.out])
  have xb := bal HB.out (.cells #[.int .i64 W, .int .i64 H, .slice iA inn ic, .int .u8 iG, .bool iw, .bool ib] 225)
  have x0 := K0.out.alloc (.cells #[.int .i64 W, .int .i64 H, .slice iA inn ic, .int .u8 iG, .bool iw, .bool ib] 225)
  have x1 := K1.out.alloc (.cells #[.int .i64 W, .int .i64 H, .slice iA inn ic, .int .u8 iG, .bool iw, .bool ib] 225)
  have x2 := K2.out.alloc (.cells #[.int .i64 W, .int .i64 H, .slice iA inn ic, .int .u8 iG, .bool iw, .bool ib] 225)
  have x3 := Blk.new X 225 #[.int .i64 W, .int .i64 H, .slice iA inn ic, .int .u8 iG, .bool iw, .bool ib]
  obtain ⟨g, hg⟩ : ∃ g, X.heap.size = g := ⟨_, rfl⟩
  obtain ⟨Z, hZ⟩ : ∃ Z, X.alloc (.cells #[.int .i64 W, .int .i64 H, .slice iA inn ic, .int .u8 iG, .bool iw, .bool ib] 225) = Z := ⟨_, rfl⟩
  rw [hZ] at xb x0 x1 x2 x3 ⊢
  rw [hg] at x3 hl2 ⊢
  replace HB := Lib.hid xb
  replace K0 := Lib.hid x0
  replace K1 := Lib.hid x1
  replace K2 := Lib.hid x2
  have K3 := Lib.hid x3
  have a0 := x3.cellV (i := 0) (v := .int .i64 W) rfl
  have a1 := x3.cellV (i := 1) (v := .int .i64 H) rfl
  have a2 := x3.cellV (i := 2) (v := .slice iA inn ic) rfl
  clear xb x0 x1 x2 x3 hZ p0 hg
  go_wp2_with fail
  refine (Gr.size_any W H iA inn ic _).mono ?_
  rintro e w1 ⟨rfl, hb1⟩
  replace HB := Lib.hid (bstep HB.out hb1)
  replace K0 := Lib.hid (K0.out.belowS hb1)
  replace K1 := Lib.hid (K1.out.belowS hb1)
  replace K2 := Lib.hid (K2.out.belowS hb1)
  replace K3 := Lib.hid (K3.out.belowS hb1)
  have b0 := K1.out.cellV (i := 0) (v := .int .i64 W) rfl
  have b1 := K1.out.cellV (i := 1) (v := .int .i64 H) rfl
  have b2 := K1.out.cellV (i := 2) (v := .slice A inn c) rfl
  clear hb1 a0 a1 a2
  go_wp2_with fail
  refine (Gr.size_any W H A inn c _).mono ?_
  rintro e w2 ⟨rfl, hb2⟩
  replace HB := Lib.hid (bstep HB.out hb2)
  replace K0 := Lib.hid (K0.out.belowS hb2)
  replace K1 := Lib.hid (K1.out.belowS hb2)
  replace K2 := Lib.hid (K2.out.belowS hb2)
  replace K3 := Lib.hid (K3.out.belowS hb2)
  clear hb2 b0 b1 b2
  have b0 := K1.out.cellV (i := 0) (v := .int .i64 W) rfl
  have b1 := K1.out.cellV (i := 1) (v := .int .i64 H) rfl
  have b2 := K1.out.cellV (i := 2) (v := .slice A inn c) rfl
  have a0 := K3.out.cellV (i := 0) (v := .int .i64 W) rfl
  have a1 := K3.out.cellV (i := 1) (v := .int .i64 H) rfl
  have a2 := K3.out.cellV (i := 2) (v := .slice iA inn ic) rfl
  have f0 := K3.out.frozen 0
  have f1 := K3.out.frozen 1
  have f2 := K3.out.frozen 2
  have l3 := K3.out.lt
  have hww : ((W : Int) != (W : Int)) = false := by simp
  have hhh : ((H : Int) != (H : Int)) = false := by simp
  go_upto_region 9 with fail
  have hbs := HB.out.size
  have ng0 : w.heap.size ≠ g := by omega
  have ng2 : w.heap.size + 1 + 1 ≠ g := by omega
  have y3 := ((K3.out.set_ 0 (.int .i64 W)).set_ 1 (.int .i64 H)).set_ 2 (.slice A inn c)
  have y0 := ((K0.out.far (p := ⟨g, 0, none⟩) ng0 (.int .i64 W)).far (p := ⟨g, 1, none⟩) ng0 (.int .i64 H)).far (p := ⟨g, 2, none⟩) ng0 (.slice A inn c)
  have y2 := ((K2.out.far (p := ⟨g, 0, none⟩) ng2 (.int .i64 W)).far (p := ⟨g, 1, none⟩) ng2 (.int .i64 H)).far (p := ⟨g, 2, none⟩) ng2 (.slice A inn c)
  have yb := bset (bset (bset HB.out (p := ⟨g, 0, none⟩) (by show w.heap.size ≤ g; omega) (.int .i64 W)) (p := ⟨g, 1, none⟩) (by show w.heap.size ≤ g; omega) (.int .i64 H)) (p := ⟨g, 2, none⟩) (by show w.heap.size ≤ g; omega) (.slice A inn c)
  obtain ⟨V, hV⟩ : ∃ V, ((w2.setCell ⟨g, 0, none⟩ (.int .i64 W)).setCell ⟨g, 1, none⟩ (.int .i64 H)).setCell ⟨g, 2, none⟩ (.slice A inn c) = V := ⟨_, rfl⟩
  rw [hV] at y0 y2 y3 yb ⊢
  have HBV := Lib.hid yb
  have HCV := Lib.hid (HC.out.below yb)
  have HRV := Lib.hid (HR.out.below yb)
  have K2V := Lib.hid y2
  have r0 := y0.cellV (i := 0) (v := .map mb) rfl
  have r1 := y3.cellV (i := 0) (v := .int .i64 W) rfl
  have r2 := y3.cellV (i := 1) (v := .int .i64 H) rfl
  have r3 := y3.cellV (i := 2) (v := .slice A inn c) rfl
  have r4 := y3.cellV (i := 3) (v := .int .u8 iG) rfl
  have r5 := y3.cellV (i := 4) (v := .bool iw) rfl
  have r6 := y3.cellV (i := 5) (v := .bool ib) rfl
  clear y0 y2 y3 yb hV a0 a1 a2 b0 b1 b2 f0 f1 f2 l3 hww hhh
  go_wp2_with fail
  have hok : IT.ok V ⟨W, H, A, inn, c, iG, iw, ib, px⟩ := ⟨HRV.out, HIO.out.1, HIO.out.2.1, HIO.out.2.2, hc, HP.out⟩
  refine (cwith_any _ n cs id ⟨W, H, A, inn, c, iG, iw, ib, px⟩ _ hid HCV.out hok hn).mono ?_
  rintro e w5 ⟨mb', rfl, hc5, hf5, hb5⟩
  rw [if_pos HSO.out] at hc5
  have HC5 := Lib.hid hc5
  have HB5 := Lib.hid (bstep HBV.out hb5)
  have x2 := K2V.out.belowS hb5
  have K25 := Lib.hid x2
  have s0 := x2.cellV (i := 0) (v := .map none) rfl
  have sf := x2.frozen 0
  have sl := x2.lt
  have hbv := HBV.out.size
  clear hc5 hb5 x2 hok r0 r1 r2 r3 r4 r5 r6
  go_wp2_with fail
  have hb9 := K25.out.set_ 0 (.map (some mb'))
  have hr := hb9.cellV (i := 0) (v := .map (some mb')) rfl
  refine bodyPost_ret (v := .tuple #[.agg #[.map (some mb')], .int .i64 0]) (by simp [results, Tryz.results71, go_sem, hr]) rfl ⟨mb', rfl, HC5.out.setX K25.out (fun j k x => by match j with | 0 => simp | j + 1 => simp) 0 _, by omega, bset HB5.out (p := ⟨w.heap.size + 1 + 1, 0, none⟩) (by show w.heap.size ≤ w.heap.size + 1 + 1; omega) _⟩
end Go.Proofs.YtdaedkolpfkdjaaGreat
end
