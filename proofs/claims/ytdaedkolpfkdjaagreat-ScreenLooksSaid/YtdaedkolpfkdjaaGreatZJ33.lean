/-
  The walk of screen.Show.
  What the laws of chapter 34 do with what Make makes: its view, its screen, the document's answers.
  A builder of strings: a byte written.
  The walk of screen.Text.
-/
import Derived.Test.YtdaedkolpfkdjaaGreatZJ31
import Derived.Test.YtdaedkolpfkdjaaGreatZJ02
import Derived.Test.YtdaedkolpfkdjaaGreatZJ28
import Derived.Test.YtdaedkolpfkdjaaGreatZJ32
import Derived.Test.YtdaedkolpfkdjaaGreatZJ24
import Derived.Test.YtdaedkolpfkdjaaGreatZJ12
import Derived.Lib.Builder
import Derived.Laws.Externs
import Derived.Test.YtdaedkolpfkdjaaGreatShelfB
import Derived.Test.YtdaedkolpfkdjaaGreatZJ01
import Derived.Test.YtdaedkolpfkdjaaGreatZJ23
section
namespace Go.Proofs.YtdaedkolpfkdjaaGreat
open Go.RowKit Go.Maps Go.Shelf

theorem rd_nou8s {w : World} {A : Option Addr} {n : Nat} {px : List Int} (h : Rd w A n (Gr.U8 px)) {B : Nat} {t : TypeId} {cs : Array Value} (hB : Blk w B t cs) (hno : ∀ (j : Nat) (x : Int), cs[j]? ≠ some (.int .u8 x)) (i : Nat) (u : Value) : Rd (w.setCell ⟨B, i, none⟩ u) A n (Gr.U8 px) := by
 refine h.far' (p := ⟨B, i, none⟩) (fun hn a ha e => ?_) u
 obtain ⟨b, off, e1, _, hc⟩ := h.2 hn
 rw [e1] at ha
 cases ha
 dsimp only at e
 subst e
 have hl := h.1
 match px, hl with
 | [], hl => simp [Gr.U8] at hl; omega
 | x :: l, _ =>
  have := hc 0 (.int .u8 x) rfl
  rw [hB.cell] at this
  exact hno _ _ this
theorem grid_no8s (W H : Int) (A : Option Addr) (n c : Nat) : ∀ (j : Nat) (x : Int), (#[.int .i64 W, .int .i64 H, .slice A n c] : Array Value)[j]? ≠ some (.int .u8 x) := fun j x => by
 match j with
 | 0 => simp
 | 1 => simp
 | 2 => simp
 | j + 3 => simp
theorem rd_nou32s {w : World} {A : Option Addr} {n : Nat} {l : List Int} (h : Rd w A n (U32 l)) {B : Nat} {t : TypeId} {cs : Array Value} (hB : Blk w B t cs) (hno : ∀ (j : Nat) (x : Int), cs[j]? ≠ some (.int .u32 x)) (i : Nat) (u : Value) : Rd (w.setCell ⟨B, i, none⟩ u) A n (U32 l) := by
 refine h.far' (p := ⟨B, i, none⟩) (fun hn a ha e => ?_) u
 obtain ⟨b, off, e1, _, hc⟩ := h.2 hn
 rw [e1] at ha
 cases ha
 dsimp only at e
 subst e
 have hl := h.1
 match l, hl with
 | [], hl => simp [U32] at hl; omega
 | x :: l, _ =>
  have := hc 0 (.int .u32 x) rfl
  rw [hB.cell] at this
  exact hno _ _ this
theorem grid_no32s (W H : Int) (A : Option Addr) (n c : Nat) : ∀ (j : Nat) (x : Int), (#[.int .i64 W, .int .i64 H, .slice A n c] : Array Value)[j]? ≠ some (.int .u32 x) := fun j x => by
 match j with
 | 0 => simp
 | 1 => simp
 | 2 => simp
 | j + 3 => simp
set_option maxRecDepth 100000 in
set_option maxHeartbeats 8000000 in
theorem show_any (v cv : Value) (RW RH : Nat) (ns : Nodes) (bx : Int → Option VB) (og : Int → Int × Int) (nc : Nat) (cs : Its) (W H : Nat) (w : World) (hv : SeenG w v RW RH ns bx og) (hn : TreeOk ns) (hc : CanvasIs w cv nc cs) (hW : 1 ≤ W ∧ W ≤ 128) (hH : 1 ≤ H ∧ H ≤ 128) :
 Calls Tryz.prog 35 #[v, cv, .int .i64 W, .int .i64 H] w fun e w' => ∃ A c px, e = .returned (.tuple #[.agg #[.int .i64 W, .int .i64 H, .slice A (W * H) c], .int .i64 0]) ∧ Rd w' A (W * H) (Gr.U8 px) ∧ W * H ≤ c ∧ ScrAt RW RH W H ns bx cs (ordW ns bx 1) px ∧ Below w.heap.size w w' := by
 have hWH := Gr.mul_le_128 hW.2 hH.2
 have HV := Lib.hid hv
 have HN := Lib.hid hn
 have HC := Lib.hid hc
 obtain ⟨Av, nv, cw, mv, rfl⟩ := hv.form
 obtain ⟨mb, rfl⟩ : ∃ mb, cv = .agg #[.map mb] := by obtain ⟨mb, e, _⟩ := hc; exact ⟨mb, e⟩
 clear hv hn hc
 have xb := bal (bal (bal (bre w) (.cells #[.slice Av nv cw, .map mv] 52)) (.cells #[.map mb] 67)) (.cells #[.int .i64 0, .int .i64 0, .slice none 0 0] 75)
 have xv := ((Blk.new w 52 #[.slice Av nv cw, .map mv]).alloc (.cells #[.map mb] 67)).alloc (.cells #[.int .i64 0, .int .i64 0, .slice none 0 0] 75)
 have xc := (blk_new2 w (.cells #[.slice Av nv cw, .map mv] 52) 67 #[.map mb]).alloc (.cells #[.int .i64 0, .int .i64 0, .slice none 0 0] 75)
 have xr := blk_new3 w (.cells #[.slice Av nv cw, .map mv] 52) (.cells #[.map mb] 67) 75 #[.int .i64 0, .int .i64 0, .slice none 0 0]
 go_enter Tryz.func35, Tryz.ntmps35
 go_upto_region 1 with fail
 obtain ⟨X, hX⟩ : ∃ X, ((w.alloc (.cells #[.slice Av nv cw, .map mv] 52)).alloc (.cells #[.map mb] 67)).alloc (.cells #[.int .i64 0, .int .i64 0, .slice none 0 0] 75) = X := ⟨_, rfl⟩
 rw [hX] at xb xv xc xr ⊢
 have HB := Lib.hid xb
 have KV := Lib.hid xv
 have KC := Lib.hid xc
 have KR := Lib.hid xr
 clear xb xv xc xr hX
 go_wp2_with fail
 refine (Gr.new_any W H 0 _ hW hH).mono ?_
 rintro e w1 ⟨A1, c1, rfl, hr1, hc1, _, hb1⟩
 have ha1 := bal (bre w1) (.cells #[.int .i64 W, .int .i64 H, .slice A1 (W * H) c1] 75)
 have x8 := Blk.new w1 75 #[.int .i64 W, .int .i64 H, .slice A1 (W * H) c1]
 have xb := bstep (bstep HB.out hb1) ha1
 have xv := (KV.out.belowS hb1).belowS ha1
 have xc := (KC.out.belowS hb1).belowS ha1
 have xr := (KR.out.belowS hb1).belowS ha1
 have xd := hr1.below ha1
 have HLT := Lib.hid (show w.heap.size + 1 + 1 < w1.heap.size from Nat.lt_of_lt_of_le KR.out.lt hb1.size)
 clear hb1 ha1 hr1
 go_upto_region 2 with fail
 obtain ⟨g, hg⟩ : ∃ g, w1.heap.size = g := ⟨_, rfl⟩
 obtain ⟨Y, hY⟩ : ∃ Y, w1.alloc (.cells #[.int .i64 W, .int .i64 H, .slice A1 (W * H) c1] 75) = Y := ⟨_, rfl⟩
 have hlt := HLT.out
 rw [hY] at xb xv xc xr x8 xd ⊢
 rw [hg] at x8 hlt ⊢
 replace HB := Lib.hid xb
 replace KV := Lib.hid xv
 replace KC := Lib.hid xc
 replace KR := Lib.hid xr
 have KG := Lib.hid x8
 have HR1 := Lib.hid xd
 replace HLT := Lib.hid hlt
 have v0 := xv.cellV (i := 0) (v := .slice Av nv cw) rfl
 have v1 := xv.cellV (i := 1) (v := .map mv) rfl
 clear xb xv xc xr x8 xd hY hg hlt
 go_wp2_with fail
 refine (HV.out.below HB.out).windows.mono ?_
 rintro e w4 ⟨u, rfl, ho4, hid4, hln4, hb4⟩
 obtain ⟨Au, cu, rfl, _⟩ := own_form ho4
 have HRO := Lib.hid (Rd.of_own ho4)
 have HID := Lib.hid hid4
 have HFO := Lib.hid hln4
 replace HB := Lib.hid (bstep HB.out hb4)
 replace KV := Lib.hid (KV.out.belowS hb4)
 replace KC := Lib.hid (KC.out.belowS hb4)
 replace KR := Lib.hid (KR.out.belowS hb4)
 replace KG := Lib.hid (KG.out.belowS hb4)
 replace HR1 := Lib.hid (HR1.out.below hb4)
 clear ho4 hid4 hln4 hb4 v0 v1
 obtain ⟨ord, hord⟩ : ∃ o, ordW ns bx 1 = o := ⟨_, rfl⟩
 have HOE := Lib.hid hord
 have hro := HRO.out
 have hido := HID.out
 have hfo := HFO.out
 rw [hord] at hro hido hfo ⊢
 replace HRO := Lib.hid hro
 replace HID := Lib.hid hido
 obtain ⟨N, hN⟩ : ∃ N, ord.length = N := ⟨_, rfl⟩
 rw [hN] at hfo hro ⊢
 replace HRO := Lib.hid hro
 have HNL := Lib.hid hN
 clear hro hido hord hN HFO
 go_wp2_with fail
 go_loopw [32, 13, 14, 15, 16, 17, 18] (fun i _ _ _ _ _ _ wr => ∃ (k : Nat) (A2 : Option Addr) (c2 : Nat) (px : List Int), i = .int .i64 k ∧ k ≤ N ∧ W * H ≤ c2 ∧ Blk wr g 75 #[.int .i64 W, .int .i64 H, .slice A2 (W * H) c2] ∧ Rd wr A2 (W * H) (Gr.U8 px) ∧ ScrAt RW RH W H ns bx cs (ord.take k) px ∧ (Blk wr w.heap.size 52 #[.slice Av nv cw, .map mv] ∧ Blk wr (w.heap.size + 1) 67 #[.map mb] ∧ Blk wr (w.heap.size + 1 + 1) 75 #[.int .i64 0, .int .i64 0, .slice none 0 0]) ∧ Rd wr Au N (U32 ord) ∧ Below w.heap.size w wr) (fun i _ _ _ _ _ _ _ => N - (intOf i).toNat)
 case atStart => exact ⟨0, A1, c1, _, rfl, by omega, hc1, KG.out, HR1.out, ScrAt.start, ⟨KV.out, KC.out, KR.out⟩, HRO.out, HB.out⟩
 case round =>
  obtain ⟨k, A2, c2, px, rfl, hk, hc2, hkg, hr2, hsc, ⟨hkv, hkc, hkr⟩, hro, hbr⟩ := hrel
  replace KG := Lib.hid hkg
  have HR2 := Lib.hid hr2
  have HSC := Lib.hid hsc
  replace KV := Lib.hid hkv
  replace KC := Lib.hid hkc
  replace KR := Lib.hid hkr
  replace HRO := Lib.hid hro
  replace HB := Lib.hid hbr
  clear hkg hr2 hsc hkv hkc hkr hbr
  by_cases hlt : k < N
  ·
   obtain ⟨id, hid⟩ : ∃ id, ord[k]? = some id := ⟨_, List.getElem?_eq_getElem (by rw [HNL.out]; exact hlt)⟩
   obtain ⟨b, off, rfl, hbl, hcl⟩ := hro.2 (by omega)
   have q0 := hcl k (.int .u32 id) (by simp [U32, hid])
   have HII := Lib.hid (HID.out id (List.mem_of_getElem? hid))
   have HTK := Lib.hid (take_snocI' hid)
   have k0 : (0 : Int) ≤ (k : Int) := by omega
   have k1 : (k : Int) < (N : Int) := by omega
   clear hro hcl hid
   have v0 := KV.out.cellV (i := 0) (v := .slice Av nv cw) rfl
   have v1 := KV.out.cellV (i := 1) (v := .map mv) rfl
   go_wp2_with fail
   refine ((HV.out.below HB.out).clip HN.out id HII.out).mono ?_
   rintro e w5 ⟨u5, out, rfl, hreg, hpl, _, hlo, hb5⟩
   obtain ⟨Ao, co, rfl, hro5, hcan, hnr, hcnt⟩ := hreg
   have ha5 := bal (bre w5) (.cells #[.slice Ao out.length co] 57)
   have xk5 := Blk.new w5 57 #[.slice Ao out.length co]
   have HPL := Lib.hid hpl
   have HLO := Lib.hid hnr
   have HCT := Lib.hid hcnt
   have HRR := Lib.hid hro5
   have K5 := Lib.hid xk5
   replace KV := Lib.hid (KV.out.belowS hb5)
   replace KC := Lib.hid (KC.out.belowS hb5)
   replace KR := Lib.hid (KR.out.belowS hb5)
   replace KG := Lib.hid (KG.out.belowS hb5)
   replace HR2 := Lib.hid (HR2.out.below hb5)
   replace HRO := Lib.hid (HRO.out.below hb5)
   replace HB := Lib.hid (bstep HB.out hb5)
   replace KV := Lib.hid (KV.out.belowS ha5)
   replace KC := Lib.hid (KC.out.belowS ha5)
   replace KR := Lib.hid (KR.out.belowS ha5)
   replace KG := Lib.hid (KG.out.belowS ha5)
   replace HR2 := Lib.hid (HR2.out.below ha5)
   replace HRO := Lib.hid (HRO.out.below ha5)
   replace HRR := Lib.hid (HRR.out.below ha5)
   replace HB := Lib.hid (bstep HB.out ha5)
   clear hb5 ha5 hro5 xk5 hpl hnr hcnt hcan hlo q0 v0 v1
   go_upto_region 8 with fail
   have z0 := KV.out
   have z1 := KC.out
   have z2 := KR.out
   have z3 := KG.out
   have z4 := HR2.out
   have z5 := HRO.out
   have z6 := HB.out
   have z7 := HRR.out
   have z8 := K5.out
   obtain ⟨g5, hg5⟩ : ∃ g, w5.heap.size = g := ⟨_, rfl⟩
   obtain ⟨X5, hX5⟩ : ∃ X, w5.alloc (.cells #[.slice Ao out.length co] 57) = X := ⟨_, rfl⟩
   rw [hX5] at z0 z1 z2 z3 z4 z5 z6 z7 z8 ⊢
   try rw [hg5] at z8
   rw [hg5]
   replace KV := Lib.hid z0
   replace KC := Lib.hid z1
   replace KR := Lib.hid z2
   replace KG := Lib.hid z3
   replace HR2 := Lib.hid z4
   replace HRO := Lib.hid z5
   replace HB := Lib.hid z6
   replace HRR := Lib.hid z7
   replace K5 := Lib.hid z8
   clear hX5 z0 z1 z2 z3 z4 z5 z6 z7 z8
   clear hg5
   have c0 := KC.out.cellV (i := 0) (v := .map mb) rfl
   go_wp2_with fail
   refine (cgrid_any (.agg #[.map mb]) nc cs id _ HII.out (HC.out.below HB.out)).mono ?_
   rintro e w6 ⟨rfl, hb6⟩
   obtain ⟨it, hit⟩ : ∃ it, (cs id).getD zIT = it := ⟨_, rfl⟩
   obtain ⟨tb, htb⟩ : ∃ tb, (cs id).isSome = tb := ⟨_, rfl⟩
   rw [hit, htb]
   have HIT := Lib.hid hit
   have HTB := Lib.hid htb
   obtain ⟨iW, iH, iA, inn, ic, iG, iw, ib, ip⟩ := it
   have ha6 := bal (bre w6) (.cells #[.int .i64 iW, .int .i64 iH, .slice iA inn ic] 75)
   have xk6 := Blk.new w6 75 #[.int .i64 iW, .int .i64 iH, .slice iA inn ic]
   have K6 := Lib.hid xk6
   have hit' : (⟨iW, iH, iA, inn, ic, iG, iw, ib, ip⟩ : IT).g = .agg #[.int .i64 iW, .int .i64 iH, .slice iA inn ic] := rfl
   rw [hit']
   replace KV := Lib.hid (KV.out.belowS hb6)
   replace KC := Lib.hid (KC.out.belowS hb6)
   replace KR := Lib.hid (KR.out.belowS hb6)
   replace KG := Lib.hid (KG.out.belowS hb6)
   replace HR2 := Lib.hid (HR2.out.below hb6)
   replace HRO := Lib.hid (HRO.out.below hb6)
   replace HRR := Lib.hid (HRR.out.below hb6)
   replace HB := Lib.hid (bstep HB.out hb6)
   replace K5 := Lib.hid (K5.out.belowS hb6)
   replace KV := Lib.hid (KV.out.belowS ha6)
   replace KC := Lib.hid (KC.out.belowS ha6)
   replace KR := Lib.hid (KR.out.belowS ha6)
   replace KG := Lib.hid (KG.out.belowS ha6)
   replace HR2 := Lib.hid (HR2.out.below ha6)
   replace HRO := Lib.hid (HRO.out.below ha6)
   replace HRR := Lib.hid (HRR.out.below ha6)
   replace HB := Lib.hid (bstep HB.out ha6)
   replace K5 := Lib.hid (K5.out.belowS ha6)
   clear hb6 ha6 xk6 hit htb hit' c0
   go_upto_region 9 with fail
   have z0 := KV.out
   have z1 := KC.out
   have z2 := KR.out
   have z3 := KG.out
   have z4 := HR2.out
   have z5 := HRO.out
   have z6 := HB.out
   have z7 := HRR.out
   have z8 := K5.out
   have z9 := K6.out
   obtain ⟨g6, hg6⟩ : ∃ g, w6.heap.size = g := ⟨_, rfl⟩
   obtain ⟨X6, hX6⟩ : ∃ X, w6.alloc (.cells #[.int .i64 iW, .int .i64 iH, .slice iA inn ic] 75) = X := ⟨_, rfl⟩
   rw [hX6] at z0 z1 z2 z3 z4 z5 z6 z7 z8 z9 ⊢
   try rw [hg6] at z9
   rw [hg6]
   replace KV := Lib.hid z0
   replace KC := Lib.hid z1
   replace KR := Lib.hid z2
   replace KG := Lib.hid z3
   replace HR2 := Lib.hid z4
   replace HRO := Lib.hid z5
   replace HB := Lib.hid z6
   replace HRR := Lib.hid z7
   replace K5 := Lib.hid z8
   replace K6 := Lib.hid z9
   clear hX6 z0 z1 z2 z3 z4 z5 z6 z7 z8 z9
   clear hg6
   have v0 := KV.out.cellV (i := 0) (v := .slice Av nv cw) rfl
   have v1 := KV.out.cellV (i := 1) (v := .map mv) rfl
   go_wp2_with fail
   refine ((HV.out.below HB.out).origin HN.out id HII.out).mono ?_
   rintro e w7 ⟨rfl, hb7⟩
   have hco := coordB_og (HV.out.below HB.out) HN.out id
   obtain ⟨ox, hox⟩ : ∃ o, (ogG ns bx id).1 = o := ⟨_, rfl⟩
   obtain ⟨oy, hoy⟩ : ∃ o, (ogG ns bx id).2 = o := ⟨_, rfl⟩
   obtain ⟨ok, hok⟩ : ∃ o, (hasN ns id && vw ns bx id) = o := ⟨_, rfl⟩
   have HLY := Lib.hid (fun (l : List Int) (p : List Int) (it : IT) (h : ScrAt RW RH W H ns bx cs l p) (hi : cs id = some it) => h.lay hi HPL.out hco)
   have hly := HLY.out
   rw [hox, hoy] at hly
   rw [hox, hoy, hok]
   replace HLY := Lib.hid hly
   have HOK := Lib.hid hok
   have ha7 := bal (bre w7) (.cells #[.int .i64 ox, .int .i64 oy] 179)
   have xk7 := Blk.new w7 179 #[.int .i64 ox, .int .i64 oy]
   have K7 := Lib.hid xk7
   replace KV := Lib.hid (KV.out.belowS hb7)
   replace KC := Lib.hid (KC.out.belowS hb7)
   replace KR := Lib.hid (KR.out.belowS hb7)
   replace KG := Lib.hid (KG.out.belowS hb7)
   replace HR2 := Lib.hid (HR2.out.below hb7)
   replace HRO := Lib.hid (HRO.out.below hb7)
   replace HRR := Lib.hid (HRR.out.below hb7)
   replace HB := Lib.hid (bstep HB.out hb7)
   replace K5 := Lib.hid (K5.out.belowS hb7)
   replace K6 := Lib.hid (K6.out.belowS hb7)
   replace KV := Lib.hid (KV.out.belowS ha7)
   replace KC := Lib.hid (KC.out.belowS ha7)
   replace KR := Lib.hid (KR.out.belowS ha7)
   replace KG := Lib.hid (KG.out.belowS ha7)
   replace HR2 := Lib.hid (HR2.out.below ha7)
   replace HRO := Lib.hid (HRO.out.below ha7)
   replace HRR := Lib.hid (HRR.out.below ha7)
   replace HB := Lib.hid (bstep HB.out ha7)
   replace K5 := Lib.hid (K5.out.belowS ha7)
   replace K6 := Lib.hid (K6.out.belowS ha7)
   clear hb7 ha7 xk7 hox hoy hok hly hco v0 v1
   go_upto_region 10 with fail
   have z0 := KV.out
   have z1 := KC.out
   have z2 := KR.out
   have z3 := KG.out
   have z4 := HR2.out
   have z5 := HRO.out
   have z6 := HB.out
   have z7 := HRR.out
   have z8 := K5.out
   have z9 := K6.out
   have z10 := K7.out
   obtain ⟨g7, hg7⟩ : ∃ g, w7.heap.size = g := ⟨_, rfl⟩
   obtain ⟨X7, hX7⟩ : ∃ X, w7.alloc (.cells #[.int .i64 ox, .int .i64 oy] 179) = X := ⟨_, rfl⟩
   rw [hX7] at z0 z1 z2 z3 z4 z5 z6 z7 z8 z9 z10 ⊢
   try rw [hg7] at z10
   rw [hg7]
   replace KV := Lib.hid z0
   replace KC := Lib.hid z1
   replace KR := Lib.hid z2
   replace KG := Lib.hid z3
   replace HR2 := Lib.hid z4
   replace HRO := Lib.hid z5
   replace HB := Lib.hid z6
   replace HRR := Lib.hid z7
   replace K5 := Lib.hid z8
   replace K6 := Lib.hid z9
   replace K7 := Lib.hid z10
   clear hX7 z0 z1 z2 z3 z4 z5 z6 z7 z8 z9 z10
   clear hg7
   have s5 := K5.out.cellV (i := 0) (v := .slice Ao out.length co) rfl
   go_wp2_with fail
   refine (empty_any Ao out.length co _).mono ?_
   rintro e w8 ⟨rfl, hb8⟩
   replace KV := Lib.hid (KV.out.belowS hb8)
   replace KC := Lib.hid (KC.out.belowS hb8)
   replace KR := Lib.hid (KR.out.belowS hb8)
   replace KG := Lib.hid (KG.out.belowS hb8)
   replace HR2 := Lib.hid (HR2.out.below hb8)
   replace HRO := Lib.hid (HRO.out.below hb8)
   replace HRR := Lib.hid (HRR.out.below hb8)
   replace HB := Lib.hid (bstep HB.out hb8)
   replace K5 := Lib.hid (K5.out.belowS hb8)
   replace K6 := Lib.hid (K6.out.belowS hb8)
   replace K7 := Lib.hid (K7.out.belowS hb8)
   clear hb8 s5
   have HSK := Lib.hid (fun (h : cs id = none ∨ ∀ x y, shG RW RH ns bx x y id = false) => HSC.out.skip h)
   obtain ⟨ev, hev⟩ : ∃ v, decide (out.length = 0) = v := ⟨_, rfl⟩
   rw [hev]
   have HEV := Lib.hid hev
   clear hev
   cases ev
   case true =>
    as_aux_lemma =>
     have h0 : out = [] := List.length_eq_zero_iff.1 (of_decide_eq_true HEV.out)
     have hno : ∀ x y, shG RW RH ns bx x y id = false := fun x y => by
      rw [← HPL.out, h0]
      rfl
     have HSN := Lib.hid (HSK.out (.inr hno))
     clear hno h0
     go_wp2_with fail
     go_roundw
     case rel => exact ⟨k + 1, A2, c2, px, by go_num, by omega, hc2, KG.out, HR2.out, by rw [HTK.out]; exact HSN.out, ⟨KV.out, KC.out, KR.out⟩, HRO.out, HB.out⟩
     case measure => simp [intOf]; omega
   case false =>
    cases tb
    case false =>
     as_aux_lemma =>
      have hno : cs id = none := by have h1 := HTB.out; simpa using h1
      have HSN := Lib.hid (HSK.out (.inl hno))
      clear hno
      go_wp2_with fail
      go_roundw
      case rel => exact ⟨k + 1, A2, c2, px, by go_num, by omega, hc2, KG.out, HR2.out, by rw [HTK.out]; exact HSN.out, ⟨KV.out, KC.out, KR.out⟩, HRO.out, HB.out⟩
      case measure => simp [intOf]; omega
    case true =>
     cases ok
     case false =>
      as_aux_lemma =>
       have hno : ∀ x y, shG RW RH ns bx x y id = false := fun x y => by
        unfold shG
        rw [Bool.and_eq_false_iff]
        refine .inr (decide_eq_false fun e => ?_)
        obtain ⟨h1, h2⟩ := topF_vw (bx := bx) HN.out (belowAt ns 1).length 1 x y (hasN_root ns) (vw_root HN.out)
        have h3 := HOK.out
        rw [e] at h3
        unfold topN at h3
        rw [h1, h2] at h3
        cases h3
       have HSN := Lib.hid (HSK.out (.inr hno))
       clear hno
       go_wp2_with fail
       go_roundw
       case rel => exact ⟨k + 1, A2, c2, px, by go_num, by omega, hc2, KG.out, HR2.out, by rw [HTK.out]; exact HSN.out, ⟨KV.out, KC.out, KR.out⟩, HRO.out, HB.out⟩
       case measure => simp [intOf]; omega
     case true =>
      as_aux_lemma =>
       have hci : cs id = some ⟨iW, iH, iA, inn, ic, iG, iw, ib, ip⟩ := by
        have h1 := HIT.out
        have h2 := HTB.out
        cases hc : cs id with
        | none => rw [hc] at h2; cases h2
        | some i => rw [hc] at h1; exact congrArg some h1
       obtain ⟨_, _, _, hci2⟩ := HC.out.below HB.out
       have hio := hci2 id _ hci
       have HIO := Lib.hid hio
       have HCI := Lib.hid hci
       have t0 := KG.out.cellV (i := 0) (v := .int .i64 W) rfl
       have t1 := KG.out.cellV (i := 1) (v := .int .i64 H) rfl
       have t2 := KG.out.cellV (i := 2) (v := .slice A2 (W * H) c2) rfl
       have s0 := K6.out.cellV (i := 0) (v := .int .i64 iW) rfl
       have s1 := K6.out.cellV (i := 1) (v := .int .i64 iH) rfl
       have s2 := K6.out.cellV (i := 2) (v := .slice iA inn ic) rfl
       have p0 := K7.out.cellV (i := 0) (v := .int .i64 ox) rfl
       have p1 := K7.out.cellV (i := 1) (v := .int .i64 oy) rfl
       have s5 := K5.out.cellV (i := 0) (v := .slice Ao out.length co) rfl
       clear hci hci2 hio
       go_wp2_with fail
       refine (Gr.lay_any W H iW iH px ip A2 iA Ao (W * H) c2 inn ic out.length co out ox oy _ hc2 rfl hW.2 hH.2 HR2.out HIO.out.area HIO.out.wide HIO.out.high HIO.out.rd HLO.out HRR.out HCT.out).mono ?_
       rintro e w9 ⟨A9, c9, rfl, hr9, hc9, hb9⟩
       have HR9 := Lib.hid hr9
       have HSN := Lib.hid (HLY.out _ _ _ HSC.out HCI.out)
       replace KV := Lib.hid (KV.out.belowS hb9)
       replace KC := Lib.hid (KC.out.belowS hb9)
       replace KR := Lib.hid (KR.out.belowS hb9)
       replace KG := Lib.hid (KG.out.belowS hb9)
       replace HRO := Lib.hid (HRO.out.below hb9)
       replace HB := Lib.hid (bstep HB.out hb9)
       clear hb9 hr9 t0 t1 t2 s0 s1 s2 p0 p1 s5
       have t0 := KG.out.cellV (i := 0) (v := .int .i64 W) rfl
       have t1 := KG.out.cellV (i := 1) (v := .int .i64 H) rfl
       have t2 := KG.out.cellV (i := 2) (v := .slice A2 (W * H) c2) rfl
       have f0 := KG.out.frozen 0
       have f1 := KG.out.frozen 1
       have f2 := KG.out.frozen 2
       have lg := KG.out.lt
       go_wp2_with fail
       have x8 := ((KG.out.set_ 0 (.int .i64 W)).set_ 1 (.int .i64 H)).set_ 2 (.slice A9 (W * H) c9)
       have hne : ∀ b, b < g → b ≠ g := fun b h e => by omega
       have hlt := HLT.out
       have far := fun {t : TypeId} {cs : Array Value} {b : Nat} (h : Blk w9 b t cs) (hb : b < g) => ((h.far (p := ⟨g, 0, none⟩) (hne b hb) (.int .i64 W)).far (p := ⟨g, 1, none⟩) (hne b hb) (.int .i64 H)).far (p := ⟨g, 2, none⟩) (hne b hb) (.slice A9 (W * H) c9)
       have xv := far KV.out (by omega)
       have xc := far KC.out (by omega)
       have xr := far KR.out (by omega)
       have hgw : w.heap.size ≤ g := by omega
       have xb := bset (bset (bset HB.out (p := ⟨g, 0, none⟩) hgw (.int .i64 W)) (p := ⟨g, 1, none⟩) hgw (.int .i64 H)) (p := ⟨g, 2, none⟩) hgw (.slice A9 (W * H) c9)
       have x9 := rd_nou8s (rd_nou8s (rd_nou8s HR9.out KG.out (grid_no8s _ _ _ _ _) 0 (.int .i64 W)) (KG.out.set_ 0 (.int .i64 W)) (grid_no8s _ _ _ _ _) 1 (.int .i64 H)) ((KG.out.set_ 0 (.int .i64 W)).set_ 1 (.int .i64 H)) (grid_no8s _ _ _ _ _) 2 (.slice A9 (W * H) c9)
       have xo := rd_nou32s (rd_nou32s (rd_nou32s HRO.out KG.out (grid_no32s _ _ _ _ _) 0 (.int .i64 W)) (KG.out.set_ 0 (.int .i64 W)) (grid_no32s _ _ _ _ _) 1 (.int .i64 H)) ((KG.out.set_ 0 (.int .i64 W)).set_ 1 (.int .i64 H)) (grid_no32s _ _ _ _ _) 2 (.slice A9 (W * H) c9)
       go_roundw
       case rel => exact ⟨k + 1, A9, c9, _, by go_num, by omega, hc9, x8, x9, by rw [HTK.out]; exact HSN.out, ⟨xv, xc, xr⟩, xo, xb⟩
       case measure => simp [intOf]; omega
  ·
   obtain rfl : k = N := by omega
   have k1 : ¬ (k : Int) < (k : Int) := by omega
   have hall : ord.take k = ord := List.take_of_length_le (by rw [HNL.out]; exact Nat.le_refl _)
   have hsc := HSC.out
   rw [hall] at hsc
   have HSF := Lib.hid hsc
   clear hsc hall hro
   have t0 := KG.out.cellV (i := 0) (v := .int .i64 W) rfl
   have t1 := KG.out.cellV (i := 1) (v := .int .i64 H) rfl
   have t2 := KG.out.cellV (i := 2) (v := .slice A2 (W * H) c2) rfl
   have r0 := KR.out.cellV (i := 0) (v := .int .i64 0) rfl
   have r1 := KR.out.cellV (i := 1) (v := .int .i64 0) rfl
   have r2 := KR.out.cellV (i := 2) (v := .slice none 0 0) rfl
   have f0 := KR.out.frozen 0
   have f1 := KR.out.frozen 1
   have f2 := KR.out.frozen 2
   have lr := KR.out.lt
   go_wp2_with fail
   have h9 := ((KR.out.set_ 0 (.int .i64 W)).set_ 1 (.int .i64 H)).set_ 2 (.slice A2 (W * H) c2)
   have q0 := h9.cellV (i := 0) (v := .int .i64 W) rfl
   have q1 := h9.cellV (i := 1) (v := .int .i64 H) rfl
   have q2 := h9.cellV (i := 2) (v := .slice A2 (W * H) c2) rfl
   have hle : w.heap.size ≤ w.heap.size + 1 + 1 := by omega
   have xb := bset (bset (bset HB.out (p := ⟨w.heap.size + 1 + 1, 0, none⟩) hle (.int .i64 W)) (p := ⟨w.heap.size + 1 + 1, 1, none⟩) hle (.int .i64 H)) (p := ⟨w.heap.size + 1 + 1, 2, none⟩) hle (.slice A2 (W * H) c2)
   have xr := rd_nou8s (rd_nou8s (rd_nou8s HR2.out KR.out (grid_no8s _ _ _ _ _) 0 (.int .i64 W)) (KR.out.set_ 0 (.int .i64 W)) (grid_no8s _ _ _ _ _) 1 (.int .i64 H)) ((KR.out.set_ 0 (.int .i64 W)).set_ 1 (.int .i64 H)) (grid_no8s _ _ _ _ _) 2 (.slice A2 (W * H) c2)
   exact bodyPost_ret (v := .tuple #[.agg #[.int .i64 W, .int .i64 H, .slice A2 (W * H) c2], .int .i64 0]) (by simp [results, Tryz.results35, go_sem, q0, q1, q2]) rfl ⟨A2, c2, rfl, px, xr, hc2, HOE.out.symm ▸ HSF.out, xb⟩
end Go.Proofs.YtdaedkolpfkdjaaGreat
end

section
namespace Go.Proofs.YtdaedkolpfkdjaaGreat
open Go.RowKit Go.Maps Go.Shelf

section
variable {w : World} {v : Value} {ps : List PN34} {l : List R34} {mk mu mp mc : Option Nat} {AL : Option Addr} {cL RW RH : Nat}
theorem Made34.up (h : Made34 w v ps l mk mu mp mc AL cL RW RH) : UpR l := upR_of (by rw [h.len]; exact Nat.le_refl _) h.like
theorem Made34.at_ (h : Made34 w v ps l mk mu mp mc AL cL RW RH) {d : R34} (hd : d ∈ l) : ∃ (j : Nat) (p : PN34), ps[j]? = some p ∧ l[j]? = some d ∧ Like34 j p d := by
  obtain ⟨j, hj⟩ := List.mem_iff_getElem?.1 hd
  have hlt := (List.getElem?_eq_some_iff.1 hj).1
  obtain ⟨p, hp⟩ : ∃ p, ps[j]? = some p := ⟨_, List.getElem?_eq_getElem (by rw [← h.len]; exact hlt)⟩
  exact ⟨j, p, hp, hj, h.like j p d hp hj⟩
theorem Made34.rootIs (h : Made34 w v ps l mk mu mp mc AL cL RW RH) : ∃ r, l[0]? = some r ∧ r.W = RW ∧ r.H = RH ∧ r.S = false ∧ (1 ≤ RW ∧ RW ≤ 16) ∧ 1 ≤ RH ∧ RH ≤ 16 := by
  obtain ⟨r, h1, h2, h3⟩ := h.root
  obtain ⟨p, hp⟩ : ∃ p, ps[0]? = some p := ⟨_, List.getElem?_eq_getElem (by have := h.len; have := h.few; omega)⟩
  have hk := h.like 0 p r hp h1
  have hb := hk.bounds
  refine ⟨r, h1, h2, h3, by rw [hk.S]; rfl, by omega, by omega⟩
theorem Made34.oks (h : Made34 w v ps l mk mu mp mc AL cL RW RH) (hok : ∀ p ∈ ps, p.ok) : ∀ d ∈ l, DWok d.dw := fun d hd => by
  obtain ⟨j, p, hp, _, hk⟩ := h.at_ hd
  exact hk.dw_ok (hok p (List.mem_of_getElem? hp))
theorem Made34.doc (h : Made34 w v ps l mk mu mp mc AL cL RW RH) (hok : ∀ p ∈ ps, p.ok) : Doc34 w AL l.length l RW RH := by
  obtain ⟨r, h1, h2, h3, h4, _⟩ := h.rootIs
  refine ⟨h.recs, h.shapes, h.pix, h.up, h.oks hok, ⟨r, h1, h2, h3, h4⟩, h.few, fun d hd => ?_⟩
  obtain ⟨j, p, hp, _, hk⟩ := h.at_ hd
  have hb := hk.bounds
  exact ⟨hk.np, by omega, by omega, by rw [hk.px]; exact inkL_pix _ _ _⟩
theorem dws_ok (hok : ∀ d ∈ l, DWok d.dw) : ∀ d ∈ dws l, DWok d := fun d hd => by
  unfold dws at hd
  obtain ⟨e, he, rfl⟩ := List.mem_map.1 hd
  exact hok e (List.mem_of_mem_tail he)
theorem Made34.form {m1 m2 m3 m4 : Option Nat} {A0 : Option Addr} {n0 c0 : Nat} (h : Made34 w (.agg #[.map m1, .map m2, .map m3, .map m4, .slice A0 n0 c0]) ps l mk mu mp mc AL cL RW RH) : m1 = mk ∧ m2 = mu ∧ m3 = mp ∧ m4 = mc ∧ A0 = AL ∧ n0 = l.length ∧ c0 = cL := by
  have hs := h.shape
  simpa using hs
end
end Go.Proofs.YtdaedkolpfkdjaaGreat
end

section
namespace Go.Proofs.YtdaedkolpfkdjaaGreat
open Go.RowKit Go.Shelf

set_option maxRecDepth 100000 in
theorem Tryz.infoBu : (Tryz.prog.info? 5).map (fun i => (i.zero, i.size, i.bytes)) = some (some (.int .u8 0), 1, 1) := by kernel_rfl
set_option maxRecDepth 100000 in
theorem Tryz.infoBd : (Tryz.prog.info? 204).map (·.size) = some 2 := by kernel_rfl
set_option maxRecDepth 100000 in
theorem Tryz.liesBd : liesAt Tryz.prog Tryz.prog.depth 204 (2 / Tryz.prog.cellsOf 204) 0 204 1 = true := by kernel_rfl
set_option maxRecDepth 100000 in
set_option maxHeartbeats 2000000 in
theorem bcheck_used (b : Nat) (w : World) (h0 : w.cell? ⟨b, 0, none⟩ = some (.pointer (some ⟨b, 0, none⟩))) :
    Calls Tryz.prog 158 #[.pointer (some ⟨b, 0, none⟩)] w fun e w' => e = .returned (.tuple #[]) ∧ w' = w := by
  obtain ⟨j, hj, _⟩ := Option.map_eq_some_iff.1 Tryz.infoBd
  go_enter Tryz.func158, Tryz.ntmps158
  go_wp2
  rw [Lib.run_neq_ptr_same w _ Tryz.underlying202 hj]
  go_wp2
  go_end0
  exact ⟨rfl, rfl⟩
set_option maxRecDepth 100000 in
set_option maxHeartbeats 2000000 in
theorem bcheck_fresh (b : Nat) (w : World) (h0 : w.cell? ⟨b, 0, none⟩ = some (.pointer none)) (hsh : w.shape? b = some (204, 2)) (hfz : w.frozen? ⟨b, 0, none⟩ = false) :
    Calls Tryz.prog 158 #[.pointer (some ⟨b, 0, none⟩)] w fun e w' => e = .returned (.tuple #[]) ∧ w' = w.setCell ⟨b, 0, none⟩ (.pointer (some ⟨b, 0, none⟩)) := by
  obtain ⟨j, hj, hjs⟩ := Option.map_eq_some_iff.1 Tryz.infoBd
  go_enter Tryz.func158, Tryz.ntmps158
  go_wp2
  rw [Lib.run_to_unsafe w ⟨b, 0, none⟩ Tryz.underlying202 Tryz.underlying295 hj (by rw [hjs]; decide) hsh (Nat.zero_lt_succ 1)]
  simp only [Result.andThen]
  rw [Oper.upon_value]
  go_wp2
  rw [run_callFunc_extern Tryz.func188 (by kernel_rfl) (by kernel_rfl) (by kernel_rfl) (e := Extern.AbiNoEscape.same) (by kernel_rfl)]
  rw [Lib.run_noEscape]
  simp only [Result.andThen]
  rw [Oper.upon_value]
  go_wp2
  rw [Lib.run_from_unsafe w ⟨b, 0, none⟩ Tryz.underlying295 Tryz.underlying202 hj hsh Tryz.liesBd]
  simp only [Result.andThen]
  rw [Oper.upon_value]
  go_wp2
  go_end0
  exact ⟨rfl, rfl⟩
theorem bcheck_any (B b : Nat) (bs : List Value) (w : World) (h : Lib.IsBuilder 204 5 B b bs w) :
    Calls Tryz.prog 158 #[.pointer (some ⟨b, 0, none⟩)] w fun e w' => e = .returned (.tuple #[]) ∧ (Lib.BuilderAt 204 5 B b (.pointer (some ⟨b, 0, none⟩)) bs w' ∧ Below B w w') := by
  rcases h with h | h
  · refine (bcheck_fresh b w h.cell0 h.shape h.frozen0).mono ?_
    rintro e w' ⟨rfl, rfl⟩
    exact ⟨rfl, h.used _, (Below.refl B w).setCell (p := ⟨b, 0, none⟩) h.1 _⟩
  · refine (bcheck_used b w h.cell0).mono ?_
    rintro e w' ⟨rfl, rfl⟩
    exact ⟨rfl, h, Below.refl B _⟩
set_option maxRecDepth 100000 in
set_option maxHeartbeats 2000000 in
theorem wbyte_any (B b : Nat) (bs : List Value) (c : Int) (w : World) (h : Lib.IsBuilder 204 5 B b bs w) (hlen : bs.length + 1 ≤ 140737488355328) (hBw : B ≤ w.heap.size) :
    Calls Tryz.prog 106 #[.pointer (some ⟨b, 0, none⟩), .int .u8 c] w fun e w' => e = .returned .nilIface ∧ (Lib.BuilderAt 204 5 B b (.pointer (some ⟨b, 0, none⟩)) (bs ++ [.int .u8 c]) w' ∧ Below B w w') := by
  obtain ⟨i0, hi, hz0, hz1, hz2⟩ := info_parts Tryz.infoBu
  go_enter Tryz.func106, Tryz.ntmps106
  go_wp2_with (go_at_call 158; refine (bcheck_any B b bs _ h).mono ?_)
  rintro e w1 ⟨rfl, h1, hb1⟩
  obtain ⟨hB, v, hbk, hown, hne⟩ := h1
  have c0 : w1.cell? ⟨b, 0, none⟩ = some (.pointer (some ⟨b, 0, none⟩)) := by rw [Lib.cell_of_heap hbk]; rfl
  have c1 : w1.cell? ⟨b, 1, none⟩ = some v := by rw [Lib.cell_of_heap hbk]; rfl
  go_wp2_with (at_builtin; refine wpList_append_own _ rfl _ _ 86 rfl B 5 i0 (.int .u8 0) 1 1 Tryz.underlying86 hi hz0 hz1 hz2 rfl (by decide) _ _ _ rfl (hown.alloc _) ⟨w1.heap.size, 0, none⟩ 1 1 [.int .u8 c] rfl rfl ?c1 ?c2 ?c3 ?c4 ?c5 ?_)
  case c1 =>
    intro j u hj
    match j, hj with
    | 0, hj => simp at hj; subst hj; simp [Addr.add]
  case c2 => intro u hu; simp at hu; subst hu; rfl
  case c3 => unfold maxLen; omega
  case c4 => omega
  case c5 => have := hb1.size; simp; omega
  intro v' w2 hown' hgrow _
  have hlt : b < w1.heap.size := by
    rcases Nat.lt_or_ge b w1.heap.size with h' | h'
    · exact h'
    · simp [Array.getElem?_eq_none h'] at hbk
  have hb2 : w2.heap[b]? = some (.cells #[.pointer (some ⟨b, 0, none⟩), v] 204 (0, 0)) := by
    rw [hgrow.block b (by simp; omega) (fun e => hne e.symm), Lib.alloc_old w1 _ b hlt]
    exact hbk
  have d0 : w2.cell? ⟨b, 0, none⟩ = some (.pointer (some ⟨b, 0, none⟩)) := by rw [Lib.cell_of_heap hb2]; rfl
  have d1 : w2.cell? ⟨b, 1, none⟩ = some v := by rw [Lib.cell_of_heap hb2]; rfl
  have f1 : w2.frozen? ⟨b, 1, none⟩ = false := Lib.frozen_of_heap hb2 1
  obtain ⟨g, cap, rfl⟩ : ∃ g cap, v' = .slice (some ⟨g, 0, none⟩) (bs.length + 1) cap := by
    rcases hown'.2 with ⟨_, h0⟩ | ⟨g, cap, cur, hv, _⟩
    · omega
    · exact ⟨g, cap, hv⟩
  go_wp2
  go_ret
  refine ⟨rfl, ?_, ?_⟩
  · exact Lib.BuilderAt.put (T := 204) (e := 5) hB hb2 (bs' := bs ++ [.int .u8 c]) (by simpa using hown') (by decide)
  · exact ((hb1.alloc (by have := hb1.size; omega) _).grown hgrow (by have := hb1.size; simp; omega) (fun k hk => (hown.lt k hk).1)).setCell (p := ⟨b, 1, none⟩) hB _
end Go.Proofs.YtdaedkolpfkdjaaGreat
end

section
namespace Go.Proofs.YtdaedkolpfkdjaaGreat
open Go.RowKit Go.Shelf

/-- a digit of base 16. -/
def hexC (n : Nat) : UInt8 := if n < 10 then UInt8.ofNat (48 + n) else UInt8.ofNat (87 + n)
def hexB (b : UInt8) : List UInt8 := [hexC (b.toNat / 16), hexC (b.toNat % 16)]
/-- the text of rows of bytes. -/
def rowT (l : List UInt8) : List UInt8 := l.flatMap hexB ++ [10]
def textB (W H : Nat) (px : List Int) : List UInt8 := (List.range H).flatMap fun y : Nat => rowT (Gr.rowB W H px (y : Int))
theorem Blk.belowB {X W : World} {B g : Nat} {t : TypeId} {cs : Array Value} (h : Blk X g t cs) (hb : Below B X W) (hg : g < B) : Blk W g t cs := (hb.block g hg).trans h
theorem bld_below {W W' : World} {T e B b : Nat} {bs : List Value} (h : Lib.IsBuilder T e B b bs W) (hb : Below W.heap.size W W') : Lib.IsBuilder T e B b bs W' := by
  have key : ∀ p, Lib.BuilderAt T e B b p bs W → Lib.BuilderAt T e B b p bs W' := fun p hp => by
    have hl := hp.lt
    obtain ⟨h1, v, h2, h3, h4⟩ := hp
    exact ⟨h1, v, (hb.block b hl).trans h2, ownsRow_below h3 hb, h4⟩
  rcases h with h | h
  · exact .inl (key _ h)
  · exact .inr (key _ h)
theorem bytes_snoc (l : List UInt8) (b : UInt8) : Lib.byteCells l ++ [.int .u8 b.toNat] = Lib.byteCells (l ++ [b]) := by simp [Lib.byteCells]
theorem dig_at (n : Nat) (h : n < 16) (h' : n < (⟨#[48, 49, 50, 51, 52, 53, 54, 55, 56, 57, 97, 98, 99, 100, 101, 102]⟩ : ByteArray).size) : (⟨#[48, 49, 50, 51, 52, 53, 54, 55, 56, 57, 97, 98, 99, 100, 101, 102]⟩ : ByteArray)[n]'h' = hexC n := by
  match n, h with
  | 0, _ => rfl
  | 1, _ => rfl
  | 2, _ => rfl
  | 3, _ => rfl
  | 4, _ => rfl
  | 5, _ => rfl
  | 6, _ => rfl
  | 7, _ => rfl
  | 8, _ => rfl
  | 9, _ => rfl
  | 10, _ => rfl
  | 11, _ => rfl
  | 12, _ => rfl
  | 13, _ => rfl
  | 14, _ => rfl
  | 15, _ => rfl
  | n + 16, h => omega
theorem str_at {row : List UInt8} {k : Nat} {q : UInt8} (hq : row[k]? = some q) (h : k < (⟨row.toArray⟩ : ByteArray).size) : (⟨row.toArray⟩ : ByteArray)[k]'h = q := by
  obtain ⟨h1, h2⟩ := List.getElem?_eq_some_iff.1 hq
  exact h2
theorem flatT_le {α β : Type} (f : α → List β) (B : Nat) : ∀ (l : List α), (∀ a ∈ l, (f a).length ≤ B) → (l.flatMap f).length ≤ l.length * B
  | [], _ => by simp
  | a :: l, h => by
    have h1 := flatT_le f B l (fun b hb => h b (List.mem_cons_of_mem _ hb))
    have h2 := h a (List.mem_cons_self ..)
    rw [List.flatMap_cons, List.length_append, List.length_cons, Nat.add_mul]
    omega
theorem rowB_le (W H : Nat) (px : List Int) (y : Int) : (Gr.rowB W H px y).length ≤ W := by
  unfold Gr.rowB
  split
  · simp [Gr.B8]
    omega
  · simp
theorem text_le (W H : Nat) (px : List Int) (y : Nat) (hW : W ≤ 128) : ((List.range y).flatMap fun y : Nat => rowT (Gr.rowB W H px (y : Int))).length ≤ y * 257 := by
  have := flatT_le (fun y : Nat => rowT (Gr.rowB W H px (y : Int))) 257 (List.range y) (fun a _ => by
    have h1 := rowB_le W H px (a : Int)
    have h2 := flatT_le hexB 2 (Gr.rowB W H px (a : Int)) (fun b _ => by simp [hexB])
    unfold rowT
    rw [List.length_append]
    simp only [List.length_singleton]
    omega)
  simpa using this
set_option maxRecDepth 100000 in
set_option maxHeartbeats 4000000 in
theorem text_any (W H : Nat) (px : List Int) (A : Option Addr) (n c : Nat) (w : World) (hn : n = W * H) (hW : 1 ≤ W ∧ W ≤ 128) (hH : H ≤ 128) (hc : n ≤ c) (hr : Rd w A n (Gr.U8 px)) (hp : Gr.Pix px) :
    Calls Tryz.prog 51 #[.agg #[.int .i64 W, .int .i64 H, .slice A n c]] w fun e w' => e = .returned (.string ⟨(textB W H px).toArray⟩) ∧ Below w.heap.size w w' := by
  have xb := bal (bre w) (.cells #[.int .i64 W, .int .i64 H, .slice A n c] 75)
  have xk := Blk.new w 75 #[.int .i64 W, .int .i64 H, .slice A n c]
  have HR := Lib.hid hr
  have HN := Lib.hid hn
  clear hr hn
  go_enter Tryz.func51, Tryz.ntmps51
  go_upto_region 1 with fail
  obtain ⟨X, hX⟩ : ∃ X, w.alloc (.cells #[.int .i64 W, .int .i64 H, .slice A n c] 75) = X := ⟨_, rfl⟩
  rw [hX] at xb xk ⊢
  have HB := Lib.hid xb
  have K1 := Lib.hid xk
  have k0 := xk.cellV (i := 0) (v := .int .i64 W) rfl
  have k1 := xk.cellV (i := 1) (v := .int .i64 H) rfl
  have k2 := xk.cellV (i := 2) (v := .slice A n c) rfl
  clear xb xk hX
  go_wp2_with fail
  refine (Gr.size_any W H A n c _).mono ?_
  rintro e w1 ⟨rfl, hb1⟩
  have yb := bal (bstep HB.out hb1) (.cells #[.pointer none, .slice none 0 0] 204)
  have yk := (K1.out.belowS hb1).alloc (.cells #[.pointer none, .slice none 0 0] 204)
  have yl := Nat.lt_of_lt_of_le K1.out.lt hb1.size
  have yi : Lib.IsBuilder 204 5 w1.heap.size w1.heap.size (Lib.byteCells []) (w1.alloc (.cells #[.pointer none, .slice none 0 0] 204)) := .inl ⟨Nat.le_refl _, .slice none 0 0, Blk.new w1 204 #[.pointer none, .slice none 0 0], World.ownsRow_nil _ _ _ _, by simp [Value.ownBlock]⟩
  clear hb1 k0 k1 k2
  go_upto_region 3 with fail
  obtain ⟨b, hb⟩ : ∃ b, w1.heap.size = b := ⟨_, rfl⟩
  obtain ⟨Y, hY⟩ : ∃ Y, w1.alloc (.cells #[.pointer none, .slice none 0 0] 204) = Y := ⟨_, rfl⟩
  rw [hY] at yb yk yi ⊢
  rw [hb] at yi yl ⊢
  have hbY : b ≤ Y.heap.size := by rw [← hY, ← hb]; simp
  replace HB := Lib.hid yb
  replace K1 := Lib.hid yk
  have HL := Lib.hid yl
  have HI := Lib.hid yi
  have HBY := Lib.hid hbY
  clear yb yk yl yi hb hY hbY
  go_wp2_with fail
  go_loopw [15, 6, 7, 8] (fun i _ _ _ wr => ∃ y : Nat, i = .int .i64 y ∧ y ≤ H ∧ Lib.IsBuilder 204 5 b b (Lib.byteCells ((List.range y).flatMap fun y : Nat => rowT (Gr.rowB W H px (y : Int)))) wr ∧ Blk wr w.heap.size 75 #[.int .i64 W, .int .i64 H, .slice A n c] ∧ b ≤ wr.heap.size ∧ Below w.heap.size w wr) (fun i _ _ _ _ => H - (intOf i).toNat)
  case atStart => exact ⟨0, rfl, by omega, HI.out, K1.out, HBY.out, HB.out⟩
  case round =>
    obtain ⟨y, rfl, hy, hi, hk, hbw, hbr⟩ := hrel
    replace HI := Lib.hid hi
    replace K1 := Lib.hid hk
    replace HBY := Lib.hid hbw
    replace HB := Lib.hid hbr
    clear hi hk hbw hbr
    by_cases hlt : y < H
    · have y0 : (0 : Int) ≤ (y : Int) := by omega
      have y1 : (y : Int) < (H : Int) := by omega
      have k0 := K1.out.cellV (i := 0) (v := .int .i64 W) rfl
      have k1 := K1.out.cellV (i := 1) (v := .int .i64 H) rfl
      have k2 := K1.out.cellV (i := 2) (v := .slice A n c) rfl
      go_wp2_with fail
      refine (Gr.row_any W H px y A n c _ HN.out hW hH hc (HR.out.below HB.out) hp).mono ?_
      rintro e w2 ⟨rfl, hb2⟩
      obtain ⟨row, hrow⟩ : ∃ r, Gr.rowB W H px y = r := ⟨_, rfl⟩
      have HRW := Lib.hid hrow
      have HRL := Lib.hid (show row.length ≤ W from hrow ▸ rowB_le W H px (y : Int))
      have HLE := Lib.hid (text_le W H px y hW.2)
      rw [hrow]
      have hi2 : Lib.IsBuilder 204 5 b b (Lib.byteCells ((List.range y).flatMap fun y : Nat => rowT (Gr.rowB W H px (y : Int)))) w2 := bld_below HI.out hb2
      replace HI := Lib.hid hi2
      replace K1 := Lib.hid (K1.out.belowS hb2)
      replace HBY := Lib.hid (Nat.le_trans HBY.out hb2.size)
      replace HB := Lib.hid (bstep HB.out hb2)
      clear hi2 hb2 hrow k0 k1 k2
      go_wp2_with fail
      go_loopw [23, 8] (fun i _ wr => ∃ k : Nat, i = .int .i64 k ∧ k ≤ row.length ∧ Lib.IsBuilder 204 5 b b (Lib.byteCells (((List.range y).flatMap fun y : Nat => rowT (Gr.rowB W H px (y : Int))) ++ (row.take k).flatMap hexB)) wr ∧ Blk wr w.heap.size 75 #[.int .i64 W, .int .i64 H, .slice A n c] ∧ b ≤ wr.heap.size ∧ Below w.heap.size w wr) (fun i _ _ => row.length - (intOf i).toNat)
      case atStart => exact ⟨0, rfl, by omega, by simpa using HI.out, K1.out, HBY.out, HB.out⟩
      case round =>
        obtain ⟨k, rfl, hk, hi, hk1, hbw, hbr⟩ := hrel
        replace HI := Lib.hid hi
        replace K1 := Lib.hid hk1
        replace HBY := Lib.hid hbw
        replace HB := Lib.hid hbr
        clear hi hk1 hbw hbr
        by_cases hlt2 : k < row.length
        · have hrb : row.length ≤ 128 := Nat.le_trans HRL.out hW.2
          have k0 : (0 : Int) ≤ (k : Int) := by omega
          have k1 : (k : Int) < (row.length : Int) := by omega
          obtain ⟨q, hq⟩ : ∃ q, row[k]? = some q := ⟨_, List.getElem?_eq_getElem hlt2⟩
          have HQ := Lib.hid hq
          go_upto_region 10 with fail
          go_wp2_with fail
          rotate_left
          · rename_i hx
            exfalso
            apply hx
            have := UInt8.toNat_lt ((⟨row.toArray⟩ : ByteArray)[k]'(by show k < row.toArray.size; simpa using hlt2))
            omega
          refine (wbyte_any b b _ _ wr HI.out (by rw [Lib.byteCells_length]; have h1 := HLE.out; have h2 := flatT_le hexB 2 (row.take k) (fun _ _ => by simp [hexB]); have h3 := HRL.out; rw [List.length_append]; rw [List.length_take] at h2; omega) HBY.out).mono ?_
          rintro e w3 ⟨rfl, hi3, hb3⟩
          go_upto_region 11 with fail
          go_wp2_with fail
          refine (wbyte_any b b _ _ w3 (.inr hi3) (by rw [List.length_append, Lib.byteCells_length]; have h1 := HLE.out; have h2 := flatT_le hexB 2 (row.take k) (fun _ _ => by simp [hexB]); have h3 := HRL.out; rw [List.length_append]; rw [List.length_take] at h2; simp only [List.length_singleton]; omega) (Nat.le_trans HBY.out hb3.size)).mono ?_
          rintro e w4 ⟨rfl, hi4, hb4⟩
          have hqb := UInt8.toNat_lt q
          have hi5 : Lib.IsBuilder 204 5 b b (Lib.byteCells (((List.range y).flatMap fun y : Nat => rowT (Gr.rowB W H px (y : Int))) ++ (row.take (k + 1)).flatMap hexB)) w4 := by
            have h9 := hi4
            simp only [str_at HQ.out, dig_at (q.toNat / 16) (by omega), dig_at (q.toNat % 16) (by omega)] at h9
            rw [bytes_snoc, bytes_snoc] at h9
            rw [take_snocI' HQ.out, List.flatMap_append]
            have e9 : (((List.range y).flatMap fun y : Nat => rowT (Gr.rowB W H px (y : Int))) ++ (row.take k).flatMap hexB ++ [hexC (q.toNat / 16)]) ++ [hexC (q.toNat % 16)] = ((List.range y).flatMap fun y : Nat => rowT (Gr.rowB W H px (y : Int))) ++ ((row.take k).flatMap hexB ++ [q].flatMap hexB) := by simp [hexB]
            rw [e9] at h9
            exact .inr h9
          have HI5 := Lib.hid hi5
          have hb5 := hb3.trans hb4
          have hwb : w.heap.size ≤ b := Nat.le_of_lt HL.out
          have K15 := Lib.hid (K1.out.belowB hb5 HL.out)
          have HB5 := Lib.hid (HB.out.trans (hb5.mono hwb))
          have HY5 := Lib.hid (Nat.le_trans HBY.out hb5.size)
          clear hi3 hb3 hi4 hb4 hi5 hb5
          go_wp2_with fail
          go_roundw
          case rel => exact ⟨k + 1, by go_num, by omega, HI5.out, K15.out, HY5.out, HB5.out⟩
          case measure => simp [intOf]; omega
        · obtain rfl : k = row.length := by omega
          have k1 : ¬ (row.length : Int) < (row.length : Int) := by omega
          have hi2 := HI.out
          rw [List.take_length] at hi2
          replace HI := Lib.hid hi2
          clear hi2
          go_wp2_with fail
          refine (wbyte_any b b _ _ wr HI.out (by rw [Lib.byteCells_length]; have h1 := HLE.out; have h2 := flatT_le hexB 2 row (fun _ _ => by simp [hexB]); have h3 := HRL.out; rw [List.length_append]; omega) HBY.out).mono ?_
          rintro e w3 ⟨rfl, hi3, hb3⟩
          have hi5 : Lib.IsBuilder 204 5 b b (Lib.byteCells ((List.range (y + 1)).flatMap fun y : Nat => rowT (Gr.rowB W H px (y : Int)))) w3 := by
            have h9 := hi3
            rw [show (Value.int .u8 10) = .int .u8 ((10 : UInt8).toNat : Int) from rfl, bytes_snoc] at h9
            rw [List.range_succ, List.flatMap_append]
            have e9 : ((List.range y).flatMap fun y : Nat => rowT (Gr.rowB W H px (y : Int))) ++ row.flatMap hexB ++ [10] = ((List.range y).flatMap fun y : Nat => rowT (Gr.rowB W H px (y : Int))) ++ ([y].flatMap fun y : Nat => rowT (Gr.rowB W H px (y : Int))) := by simp [rowT, HRW.out]
            rw [e9] at h9
            exact .inr h9
          have HI5 := Lib.hid hi5
          have hwb : w.heap.size ≤ b := Nat.le_of_lt HL.out
          have K15 := Lib.hid (K1.out.belowB hb3 HL.out)
          have HB5 := Lib.hid (HB.out.trans (hb3.mono hwb))
          have HY5 := Lib.hid (Nat.le_trans HBY.out hb3.size)
          clear hi3 hb3 hi5
          go_wp2_with fail
          go_roundw
          case rel => exact ⟨y + 1, by go_num, by omega, HI5.out, K15.out, HY5.out, HB5.out⟩
          case measure => simp [intOf]; omega
    · obtain rfl : y = H := by omega
      have y1 : ¬ (y : Int) < (y : Int) := by omega
      go_wp2_with fail
      refine (Tryz.Builder_String_any b b _ _ HI.out HBY.out).mono ?_
      rintro e w3 ⟨rfl, hb3⟩
      have hwb : w.heap.size ≤ b := Nat.le_of_lt HL.out
      go_wp2_with fail
      go_ret
      exact ⟨rfl, HB.out.trans (hb3.mono hwb)⟩
end Go.Proofs.YtdaedkolpfkdjaaGreat
end
