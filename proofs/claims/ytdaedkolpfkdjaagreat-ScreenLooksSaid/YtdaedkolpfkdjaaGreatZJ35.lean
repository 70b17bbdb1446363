/-
  The walk of screen.Look: the topmost window at a place, and its pixel.
  What screen.Look tells of what Make makes.
-/
import Derived.Test.YtdaedkolpfkdjaaGreatZJ34
import Derived.Test.YtdaedkolpfkdjaaGreatZJ31
import Derived.Test.YtdaedkolpfkdjaaGreatZJ23
import Derived.BigRegion
import Derived.Test.YtdaedkolpfkdjaaGreatZJ33
section
namespace Go.Proofs.YtdaedkolpfkdjaaGreat
open Go.RowKit Go.Maps Go.Shelf

/-- a window's kids, as the search goes through them. -/
def kidsL (l : List DW) (m : Int) : List (DW × Nat) := l.zipIdx.filter (fun q => decide (q.1.P = m))
theorem lastHit_kids (l : List DW) (m x y : Int) : lastHit (hitW m x y) (kidsL l m) = lastHit (hitW m x y) l.zipIdx := by
 unfold lastHit kidsL
 rw [← List.filter_reverse, find_filter]
 have e : (fun q : DW × Nat => decide (q.1.P = m) && hitW m x y q) = hitW m x y := funext fun q => by
  unfold hitW
  cases decide (q.1.P = m) <;> rfl
 rw [e]
theorem lastHit_snocT {hit : DW × Nat → Bool} {L : List (DW × Nat)} {j : Nat} {q : DW × Nat} (h : L[j]? = some q) : lastHit hit (L.take (j + 1)) = if hit q then (q.2 : Int) else lastHit hit (L.take j) := by
 rw [take_snocI' h, lastHit_snoc]
theorem kidsL_mem {l : List DW} {m : Int} {j : Nat} {q : DW × Nat} (h : (kidsL l m)[j]? = some q) : l[q.2]? = some q.1 ∧ q.1.P = m := by
 have h1 := List.mem_of_getElem? h
 unfold kidsL at h1
 rw [List.mem_filter, decide_eq_true_eq] at h1
 exact ⟨List.mem_zipIdx_iff_getElem?.1 h1.1, h1.2⟩
theorem idW_lt {a b : Int} (h : a < b) (ha : -1 ≤ a) : idW a < idW b := by
 unfold idW
 split <;> split <;> omega
theorem idW_le (a : Int) {n : Int} (h : a < n) (hn : n ≤ 1000) : idW a ≤ 1050000 := by
 unfold idW
 split <;> omega
/-- what Look tells. -/
def lookV (l : List DW) (RW RH : Int) (cs : Its) (F : Nat) (x y : Int) : Value := if rectP RW RH x y then .tuple #[.int .u8 (Gr.gat ((cs (idW (atD l F (-1) x y))).getD zIT).W ((cs (idW (atD l F (-1) x y))).getD zIT).H ((cs (idW (atD l F (-1) x y))).getD zIT).px (locD l F (-1) x y).1 (locD l F (-1) x y).2), .int .u32 (idW (atD l F (-1) x y))] else .tuple #[.int .u8 0, .int .u32 0]
set_option maxRecDepth 100000 in
set_option maxHeartbeats 8000000 in
theorem look_any (mk mu mp mc : Option Nat) (nk nb nc : Nat) (fk : Int → Option Value) (bs : Bxs) (cs : Its) (RW RH : Int) (l : List DW) (F : Nat) (x y : Int) (w : World) (ht : TreeIs w (.agg #[.map mk, .map mu]) (nodesW l) mk mu nk fk) (hp : PlaceIs w (.agg #[.map mp]) nb bs) (hs : SceneIs w bs RW RH l) (hc : CanvasIs w (.agg #[.map mc]) nc cs) (hu : UpOk l) (hok : ∀ d ∈ l, DWok d) (hR : (1 ≤ RW ∧ RW ≤ 128) ∧ 1 ≤ RH ∧ RH ≤ 128) (hl : l.length ≤ 60) (hF : l.length + 1 ≤ F) :
 Calls Tryz.prog 47 #[.agg #[.map mk, .map mu], .agg #[.map mp], .agg #[.map mc], .int .i64 x, .int .i64 y] w fun e w' => e = .returned (lookV l RW RH cs F x y) ∧ Below w.heap.size w w' := by
 have HT := Lib.hid ht
 have HP := Lib.hid hp
 have HS := Lib.hid hs
 have HC := Lib.hid hc
 have HU := Lib.hid hu
 have HOK := Lib.hid hok
 have HR := Lib.hid hR
 clear ht hp hs hc hu hok hR
 have xb := bal (bal (bal (bre w) (.cells #[.map mk, .map mu] 37)) (.cells #[.map mp] 40)) (.cells #[.map mc] 67)
 have xt := ((Blk.new w 37 #[.map mk, .map mu]).alloc (.cells #[.map mp] 40)).alloc (.cells #[.map mc] 67)
 have xp := (blk_new2 w (.cells #[.map mk, .map mu] 37) 40 #[.map mp]).alloc (.cells #[.map mc] 67)
 have xc := blk_new3 w (.cells #[.map mk, .map mu] 37) (.cells #[.map mp] 40) 67 #[.map mc]
 go_enter Tryz.func47, Tryz.ntmps47
 go_upto_region 2 with fail
 obtain ⟨X, hX⟩ : ∃ X, ((w.alloc (.cells #[.map mk, .map mu] 37)).alloc (.cells #[.map mp] 40)).alloc (.cells #[.map mc] 67) = X := ⟨_, rfl⟩
 rw [hX] at xb xt xp xc ⊢
 have HB := Lib.hid xb
 have KT := Lib.hid xt
 have KP := Lib.hid xp
 have KC := Lib.hid xc
 have c0 := xp.cellV (i := 0) (v := .map mp) rfl
 clear xb xt xp xc hX
 go_wp2_with fail
 refine (there_root (.agg #[.map mp]) nb bs RW RH l x y _ (HP.out.below HB.out) (HS.out.below HB.out) HOK.out HR.out).mono ?_
 rintro e w2 ⟨rfl, hb2⟩
 replace KT := Lib.hid (KT.out.belowS hb2)
 replace KP := Lib.hid (KP.out.belowS hb2)
 replace KC := Lib.hid (KC.out.belowS hb2)
 replace HB := Lib.hid (bstep HB.out hb2)
 clear hb2 c0
 cases hxy : rectP RW RH x y with
 | false =>
  have HV := Lib.hid (show lookV l RW RH cs F x y = .tuple #[.int .u8 0, .int .u32 0] by unfold lookV; rw [hxy]; rfl)
  clear hxy
  go_wp2_with fail
  exact bodyPost_ret (v := .tuple #[.int .u8 0, .int .u32 0]) (by simp [results, Tryz.results47, go_sem]) rfl ⟨by rw [HV.out], HB.out⟩
 | true =>
  have hbx := (rectP_iff x y).1 hxy
  have HBX := Lib.hid (show (0 ≤ x ∧ x ≤ 128) ∧ 0 ≤ y ∧ y ≤ 128 by have := HR.out; omega)
  obtain ⟨tp, htp⟩ : ∃ t, atD l F (-1) x y = t := ⟨_, rfl⟩
  obtain ⟨lc, hlc⟩ : ∃ t, locD l F (-1) x y = t := ⟨_, rfl⟩
  have HV := Lib.hid (show lookV l RW RH cs F x y = .tuple #[.int .u8 (Gr.gat ((cs (idW tp)).getD zIT).W ((cs (idW tp)).getD zIT).H ((cs (idW tp)).getD zIT).px lc.1 lc.2), .int .u32 (idW tp)] by unfold lookV; rw [hxy, htp, hlc]; rfl)
  have HTP := Lib.hid htp
  have HLC := Lib.hid hlc
  clear hxy hbx htp hlc
  go_wp2_with fail
  go_loopw [12, 3, 4, 14, 15, 16, 17, 18, 19] (fun s12 s3 s4 _ _ _ _ _ _ wr => ∃ (m : Int) (f : Nat) (Y Z : Int), s12 = .int .u32 (idW m) ∧ s3 = .int .i64 Y ∧ s4 = .int .i64 Z ∧ (-1 ≤ m ∧ m < (l.length : Int)) ∧ (l.length : Int) - m ≤ f ∧ (tp = atD l f m Y Z ∧ lc = locD l f m Y Z) ∧ ((0 ≤ Y ∧ Y ≤ 128) ∧ 0 ≤ Z ∧ Z ≤ 128) ∧ (Blk wr w.heap.size 37 #[.map mk, .map mu] ∧ Blk wr (w.heap.size + 1) 40 #[.map mp] ∧ Blk wr (w.heap.size + 1 + 1) 67 #[.map mc]) ∧ Below w.heap.size w wr) (fun s12 _ _ _ _ _ _ _ _ _ => (1100000 - intOf s12).toNat)
  case atStart => exact ⟨-1, F, x, y, rfl, rfl, rfl, by omega, by omega, ⟨HTP.out.symm, HLC.out.symm⟩, HBX.out, ⟨KT.out, KP.out, KC.out⟩, HB.out⟩
  case round =>
   obtain ⟨m, f, Y, Z, rfl, rfl, rfl, hm, hf, hat, hYZ, ⟨hkt, hkp, hkc⟩, hbr⟩ := hrel
   obtain ⟨f, rfl⟩ : ∃ g, f = g + 1 := ⟨f - 1, by omega⟩
   have HAT := Lib.hid hat
   have HYZ := Lib.hid hYZ
   have HM := Lib.hid hm
   replace KT := Lib.hid hkt
   replace KP := Lib.hid hkp
   replace KC := Lib.hid hkc
   replace HB := Lib.hid hbr
   have t0 := hkt.cellV (i := 0) (v := .map mk) rfl
   have t1 := hkt.cellV (i := 1) (v := .map mu) rfl
   have HIM := Lib.hid (idW_bd (n := m) (by omega))
   clear hat hYZ hkt hkp hkc hbr
   go_wp2_with fail
   refine (kids_any (.agg #[.map mk, .map mu]) (nodesW l) mk mu nk fk (idW m) _ HIM.out (HT.out.below HB.out)).mono ?_
   rintro e w5 ⟨u, rfl, hown, hb5⟩
   obtain ⟨Ak, ck, rfl, _⟩ := own_form hown
   have hrd := Rd.of_own hown
   rw [kidsW HU.out hm.1] at hrd ⊢
   obtain ⟨ks, hks⟩ : ∃ ks, kidsL l m = ks := ⟨_, rfl⟩
   have hks' : l.zipIdx.filter (fun q => decide (q.1.P = m)) = ks := hks
   rw [hks'] at hrd ⊢
   obtain ⟨K, hK⟩ : ∃ K, ks.length = K := ⟨_, rfl⟩
   rw [List.length_map, hK] at hrd ⊢
   have HRD := Lib.hid hrd
   have HKL := Lib.hid hK
   have HKS := Lib.hid hks
   have hKle : K ≤ 60 := by
    rw [← hK, ← hks]
    exact Nat.le_trans (List.length_filter_le _ _) (by rw [List.length_zipIdx]; exact hl)
   replace KT := Lib.hid (KT.out.belowS hb5)
   replace KP := Lib.hid (KP.out.belowS hb5)
   replace KC := Lib.hid (KC.out.belowS hb5)
   replace HB := Lib.hid (bstep HB.out hb5)
   have tk : IntKind.i64.wrap ((K : Int) - 1) = (K : Int) - 1 := IntWalk.i64_in _ (by omega)
   clear hown hrd hK hks hks' hb5 t0 t1
   go_wp2_with fail
   go_loopw [15, 3, 4, 16, 17, 18, 19] (fun s15 s3 s4 s16 _ _ _ wr => ∃ (rr : Nat) (kk : Int), s15 = .int .i64 (-1) ∧ s3 = .int .i64 Y ∧ s4 = .int .i64 Z ∧ s16 = .int .i64 kk ∧ kk = (rr : Int) - 1 ∧ rr ≤ K ∧ lastHit (hitW m Y Z) ks = lastHit (hitW m Y Z) (ks.take rr) ∧ (Blk wr w.heap.size 37 #[.map mk, .map mu] ∧ Blk wr (w.heap.size + 1) 40 #[.map mp] ∧ Blk wr (w.heap.size + 1 + 1) 67 #[.map mc]) ∧ Rd wr Ak K (U32 (ks.map fun q => idW q.2)) ∧ Below w.heap.size w wr) (fun _ _ _ s16 _ _ _ _ => (intOf s16 + 1).toNat)
   case atStart => exact ⟨K, _, rfl, rfl, rfl, rfl, rfl, Nat.le_refl _, by rw [List.take_of_length_le (by rw [HKL.out]; exact Nat.le_refl _)], ⟨KT.out, KP.out, KC.out⟩, HRD.out, HB.out⟩
   case round =>
    obtain ⟨rr, kk, rfl, rfl, rfl, rfl, hkk, hrr, hlh, ⟨hkt, hkp, hkc⟩, hrd, hbr⟩ := hrel
    replace KT := Lib.hid hkt
    replace KP := Lib.hid hkp
    replace KC := Lib.hid hkc
    replace HB := Lib.hid hbr
    replace HRD := Lib.hid hrd
    have HLH := Lib.hid hlh
    clear hkt hkp hkc hbr hlh tk
    by_cases h0 : rr = 0
    ·
     subst h0
     have hnone : lastHit (hitW m Y Z) l.zipIdx < 0 := by rw [← lastHit_kids, HKS.out, HLH.out]; show (-1 : Int) < 0; omega
     have htp := HAT.out.1
     have hlc := HAT.out.2
     rw [atD_no hnone] at htp
     rw [locD_no hnone] at hlc
     have HTL := Lib.hid (show tp = m ∧ lc = (Y, Z) from ⟨htp, hlc⟩)
     have c0 := KC.out.cellV (i := 0) (v := .map mc) rfl
     clear hnone htp hlc hrd
     have kn0 : ¬ (0 : Int) ≤ kk := by omega
     have kn1 : (kk ≥ 0) = False := by simp; omega
     have kn2 : decide (kk ≥ 0) = false := decide_eq_false (by omega)
     have kn3 : decide ((0 : Int) ≤ kk) = false := decide_eq_false (by omega)
     clear hkk
     as_aux_lemma =>
      go_wp2_with fail
      refine (cgrid_any (.agg #[.map mc]) nc cs (idW m) _ HIM.out (HC.out.below HB.out)).mono ?_
      rintro e w6 ⟨rfl, hb6⟩
      have hci := (HC.out.below (bstep HB.out hb6))
      obtain ⟨it, hit⟩ : ∃ it, (cs (idW m)).getD zIT = it := ⟨_, rfl⟩
      have hio : it.ok w6 := by
       obtain ⟨_, _, _, h9⟩ := hci
       cases hq : cs (idW m) with
       | none => rw [hq] at hit; rw [← hit]; exact zIT_ok w6
       | some i => rw [hq] at hit; have e9 : i = it := hit; rw [← e9]; exact h9 _ _ hq
      rw [hit]
      have HIT := Lib.hid hit
      obtain ⟨iW, iH, iA, inn, ic, iG, iw, ib, ip⟩ := it
      have HIO := Lib.hid hio
      have hgv : (⟨iW, iH, iA, inn, ic, iG, iw, ib, ip⟩ : IT).g = .agg #[.int .i64 iW, .int .i64 iH, .slice iA inn ic] := rfl
      rw [hgv]
      have ha := bal (bre w6) (.cells #[.int .i64 iW, .int .i64 iH, .slice iA inn ic] 75)
      have xk := Blk.new w6 75 #[.int .i64 iW, .int .i64 iH, .slice iA inn ic]
      have z := bstep (bstep HB.out hb6) ha
      have zr := HIO.out.rd.below ha
      clear hb6 ha hci hio hit hgv c0
      go_upto_region 16 with fail
      obtain ⟨g, hg⟩ : ∃ g, w6.heap.size = g := ⟨_, rfl⟩
      obtain ⟨X6, hX6⟩ : ∃ X, w6.alloc (.cells #[.int .i64 iW, .int .i64 iH, .slice iA inn ic] 75) = X := ⟨_, rfl⟩
      rw [hX6] at z zr xk ⊢
      rw [hg] at xk ⊢
      have g0 := xk.cellV (i := 0) (v := .int .i64 iW) rfl
      have g1 := xk.cellV (i := 1) (v := .int .i64 iH) rfl
      have g2 := xk.cellV (i := 2) (v := .slice iA inn ic) rfl
      replace HB := Lib.hid z
      have HZR := Lib.hid zr
      clear z zr xk hX6 hg
      go_wp2_with fail
      refine (Gr.at_any iW iH ip Y Z iA inn ic _ HIO.out.area HIO.out.wide HIO.out.high HZR.out).mono ?_
      rintro e w7 ⟨rfl, hb7⟩
      replace HB := Lib.hid (bstep HB.out hb7)
      clear hb7
      go_wp2_with fail
      exact bodyPost_ret (v := .tuple #[.int .u8 (Gr.gat iW iH ip Y Z), .int .u32 (idW m)]) (by simp [results, Tryz.results47, go_sem]) rfl ⟨by rw [HV.out, HTL.out.1, HTL.out.2, HIT.out], HB.out⟩
    ·
     obtain ⟨j, hj⟩ : ∃ j, j + 1 = rr := ⟨rr - 1, by omega⟩
     obtain rfl : kk = (j : Int) := by omega
     obtain ⟨q, hq⟩ : ∃ q, ks[j]? = some q := ⟨_, List.getElem?_eq_getElem (by rw [HKL.out]; omega)⟩
     obtain ⟨d, i⟩ := q
     have hqm := kidsL_mem (l := l) (m := m) (by rw [HKS.out]; exact hq)
     dsimp only at hqm
     have hil := (List.getElem?_eq_some_iff.1 hqm.1).1
     have hst := lastHit_snocT (hit := hitW m Y Z) hq
     rw [hj, ← HLH.out] at hst
     have HST := Lib.hid hst
     have HQM := Lib.hid hqm
     have HDO := Lib.hid (HOK.out d (List.mem_of_getElem? hqm.1))
     obtain ⟨bk, ok, rfl, hbk, hck⟩ := hrd.2 (by omega)
     have q0 := hck j (.int .u32 (idW i)) (by simp [U32, hq])
     have HQ0 := Lib.hid q0
     have HBK := Lib.hid hbk
     have hui := HU.out i d hqm.1
     have HMI := Lib.hid (show m < (i : Int) ∧ (i : Int) < (l.length : Int) by rw [hqm.2] at hui; omega)
     have HJ := Lib.hid hj
     have k0 : (0 : Int) ≤ (j : Int) := by omega
     have k1 : (j : Int) < (K : Int) := by omega
     have t1 : IntKind.i64.wrap ((j : Int) - 1) = (j : Int) - 1 := IntWalk.i64_in _ (by omega)
     have HHW := Lib.hid (show hitW m Y Z (d, i) = (d.M && d.has (Y - d.X) (Z - d.Y)) by unfold hitW; rw [decide_eq_true hqm.2, Bool.true_and])
     clear hq hqm hil hst hrd hck hbk q0 hui hj hkk
     cases hM : d.M with
     | false =>
      have HHN := Lib.hid (show hitW m Y Z (d, i) = false by rw [HHW.out, hM]; rfl)
      as_aux_lemma =>
       go_upto_region 10 with fail
       have HBW := Lib.hid (show Below wr.heap.size wr wr.drew from (bre wr).drew)
       have KW := Lib.hid (fun (W' : World) (h : Below wr.heap.size wr W') => show (fun w' => w'.cell? ⟨w.heap.size + 1, 0, none⟩ = some (.map mp) ∧ w'.cell? ⟨bk, ok + j, none⟩ = some (.int .u32 (idW i))) W' from ⟨(KP.out.belowS h).cellV (i := 0) rfl, ((h.cell (p := ⟨bk, ok + j, none⟩) HBK.out).trans HQ0.out)⟩)
       refine wp_region_noPanic ?_
       refine wp_region_held_drew (S := (fun w' => w'.cell? ⟨w.heap.size + 1, 0, none⟩ = some (.map mp) ∧ w'.cell? ⟨bk, ok + j, none⟩ = some (.int .u32 (idW i)))) (by kernel_rfl) ?_ (fun _ => ?_)
       ·
        (try dsimp only)
        exact ⟨(KP.out.belowS HBW.out).cellV (i := 0) rfl, ((HBW.out.cell (p := ⟨bk, ok + j, none⟩) HBK.out).trans HQ0.out)⟩
       refine Tr.take_at 0 44 (.agg #[.map mp]) rfl rfl (by kernel_rfl) (by kernel_rfl) (by kernel_rfl) (fun _ _ _ h => h) (Or.inl ⟨by rfl, ?_⟩) (by assumption) ?_
       ·
        intro W0 hSw
        (try dsimp only at hSw)
        go_simp
       simp only [List.set_cons_zero, List.set_cons_succ]
       refine Tr.take_at 1 45 (.slice (some ⟨bk, ok, none⟩) K ck) rfl rfl (by kernel_rfl) (by kernel_rfl) (by kernel_rfl) (fun _ _ _ h => h) (Or.inl ⟨by rfl, ?_⟩) (by assumption) ?_
       ·
        intro W0 hSw
        (try dsimp only at hSw)
        go_simp
       simp only [List.set_cons_zero, List.set_cons_succ]
       refine Tr.take_at 2 46 (.int .i64 j) rfl rfl (by kernel_rfl) (by kernel_rfl) (by kernel_rfl) (fun _ _ _ h => h) (Or.inl ⟨by rfl, ?_⟩) (by assumption) ?_
       ·
        intro W0 hSw
        (try dsimp only at hSw)
        go_simp
       simp only [List.set_cons_zero, List.set_cons_succ]
       refine Tr.take_at 3 47 (.pointer (some ⟨bk, ok + j, none⟩)) rfl rfl (by kernel_rfl) (by kernel_rfl) (by kernel_rfl) (fun _ _ _ h => h) (Or.inl ⟨by rfl, ?_⟩) (by assumption) ?_
       ·
        intro W0 hSw
        (try dsimp only at hSw)
        go_simp
       simp only [List.set_cons_zero, List.set_cons_succ]
       refine Tr.take_at 4 48 (.int .u32 (idW i)) rfl rfl (by kernel_rfl) (by kernel_rfl) (by kernel_rfl) (fun _ _ _ h => h) (Or.inl ⟨by rfl, ?_⟩) (by assumption) ?_
       ·
        intro W0 hSw
        (try dsimp only at hSw)
        go_simp
       simp only [List.set_cons_zero, List.set_cons_succ]
       refine Tr.take_at 5 49 (.int .i64 Y) rfl rfl (by kernel_rfl) (by kernel_rfl) (by kernel_rfl) (fun _ _ _ h => h) (Or.inl ⟨by rfl, ?_⟩) (by assumption) ?_
       ·
        intro W0 hSw
        (try dsimp only at hSw)
        go_simp
       simp only [List.set_cons_zero, List.set_cons_succ]
       refine Tr.take_at 6 50 (.int .i64 Z) rfl rfl (by kernel_rfl) (by kernel_rfl) (by kernel_rfl) (fun _ _ _ h => h) (Or.inl ⟨by rfl, ?_⟩) (by assumption) ?_
       ·
        intro W0 hSw
        (try dsimp only at hSw)
        go_simp
       simp only [List.set_cons_zero, List.set_cons_succ]
       refine wpAnyH_ready (rs := [7]) (by kernel_rfl) (by simp) ?_
       refine AllReadyH.cons rfl (fun K hK => ?_) AllReadyH.nil; go_simp
       have hq := there_win (.agg #[.map mp]) nb bs RW RH l i d Y Z wr.drew (HP.out.below (bstep HB.out HBW.out)) (HS.out.below (bstep HB.out HBW.out)) HOK.out HR.out HQM.out.1 (by omega) (by have := HYZ.out; omega)
       rw [hM, if_neg (by decide)] at hq
       refine hq.mono ?_
       rintro e wc0 ⟨rfl, hbA⟩
       clear hq
       replace HBW := Lib.hid (bstep HBW.out hbA); clear hbA; go_simp
       refine hK.out _ _ (KW.out _ HBW.out) (fun _ => ?_); clear hK K
       refine Tr.take_at 8 43 (.tuple #[.int .i64 0, .int .i64 0, .bool false]) rfl rfl (by kernel_rfl) (by kernel_rfl) (by kernel_rfl) (fun _ _ _ h => h) (Or.inl ⟨by rfl, ?_⟩) (by assumption) ?_
       ·
        intro W0 hSw
        (try dsimp only at hSw)
        go_simp
       simp only [List.set_cons_zero, List.set_cons_succ]
       refine Tr.take_at 9 52 (.int .i64 0) rfl rfl (by kernel_rfl) (by kernel_rfl) (by kernel_rfl) (fun _ _ _ h => h) (Or.inl ⟨by rfl, ?_⟩) (by assumption) ?_
       ·
        intro W0 hSw
        (try dsimp only at hSw)
        go_simp
       simp only [List.set_cons_zero, List.set_cons_succ]
       refine Tr.take_at 10 53 (.int .i64 0) rfl rfl (by kernel_rfl) (by kernel_rfl) (by kernel_rfl) (fun _ _ _ h => h) (Or.inl ⟨by rfl, ?_⟩) (by assumption) ?_
       ·
        intro W0 hSw
        (try dsimp only at hSw)
        go_simp
       simp only [List.set_cons_zero, List.set_cons_succ]
       refine Tr.take_at 11 54 (.bool false) rfl rfl (by kernel_rfl) (by kernel_rfl) (by kernel_rfl) (fun _ _ _ h => h) (Or.inl ⟨by rfl, ?_⟩) (by assumption) ?_
       ·
        intro W0 hSw
        (try dsimp only at hSw)
        go_simp
       simp only [List.set_cons_zero, List.set_cons_succ]
       refine Tr.take_at 12 17 (.int .i64 0) rfl rfl (by kernel_rfl) (by kernel_rfl) (by kernel_rfl) (fun _ _ _ h => h) (Or.inl ⟨by rfl, ?_⟩) (by assumption) ?_
       ·
        intro W0 hSw
        (try dsimp only at hSw)
        go_simp
       simp only [List.set_cons_zero, List.set_cons_succ]
       refine Tr.take_at 13 18 (.int .i64 0) rfl rfl (by kernel_rfl) (by kernel_rfl) (by kernel_rfl) (fun _ _ _ h => h) (Or.inl ⟨by rfl, ?_⟩) (by assumption) ?_
       ·
        intro W0 hSw
        (try dsimp only at hSw)
        go_simp
       simp only [List.set_cons_zero, List.set_cons_succ]
       refine Tr.take_at 14 19 (.bool false) rfl rfl (by kernel_rfl) (by kernel_rfl) (by kernel_rfl) (fun _ _ _ h => h) (Or.inl ⟨by rfl, ?_⟩) (by assumption) ?_
       ·
        intro W0 hSw
        (try dsimp only at hSw)
        go_simp
       simp only [List.set_cons_zero, List.set_cons_succ]
       refine wpAnyH_done (by kernel_rfl) ?_ _
       refine NoPanic.normal ?_
       go_wp2_with fail
       go_roundw
       case rel => exact ⟨j, (j : Int) - 1, rfl, rfl, rfl, rfl, rfl, by omega, by rw [HST.out, HHN.out]; rfl, ⟨KT.out.belowS HBW.out, KP.out.belowS HBW.out, KC.out.belowS HBW.out⟩, HRD.out.below HBW.out, bstep HB.out HBW.out⟩
       case measure => simp [intOf] <;> omega
     | true =>
      have HM1 := Lib.hid hM
      cases hh : d.has (Y - d.X) (Z - d.Y) with
      | false =>
       have HH := Lib.hid hh
       have HHN := Lib.hid (show hitW m Y Z (d, i) = false by rw [HHW.out, hM, hh]; rfl)
       clear hh hM
       as_aux_lemma =>
        go_upto_region 10 with fail
        have HBW := Lib.hid (show Below wr.heap.size wr wr.drew from (bre wr).drew)
        have KW := Lib.hid (fun (W' : World) (h : Below wr.heap.size wr W') => show (fun w' => w'.cell? ⟨w.heap.size + 1, 0, none⟩ = some (.map mp) ∧ w'.cell? ⟨bk, ok + j, none⟩ = some (.int .u32 (idW i))) W' from ⟨(KP.out.belowS h).cellV (i := 0) rfl, ((h.cell (p := ⟨bk, ok + j, none⟩) HBK.out).trans HQ0.out)⟩)
        refine wp_region_noPanic ?_
        refine wp_region_held_drew (S := (fun w' => w'.cell? ⟨w.heap.size + 1, 0, none⟩ = some (.map mp) ∧ w'.cell? ⟨bk, ok + j, none⟩ = some (.int .u32 (idW i)))) (by kernel_rfl) ?_ (fun _ => ?_)
        ·
         (try dsimp only)
         exact ⟨(KP.out.belowS HBW.out).cellV (i := 0) rfl, ((HBW.out.cell (p := ⟨bk, ok + j, none⟩) HBK.out).trans HQ0.out)⟩
        refine Tr.take_at 0 44 (.agg #[.map mp]) rfl rfl (by kernel_rfl) (by kernel_rfl) (by kernel_rfl) (fun _ _ _ h => h) (Or.inl ⟨by rfl, ?_⟩) (by assumption) ?_
        ·
         intro W0 hSw
         (try dsimp only at hSw)
         go_simp
        simp only [List.set_cons_zero, List.set_cons_succ]
        refine Tr.take_at 1 45 (.slice (some ⟨bk, ok, none⟩) K ck) rfl rfl (by kernel_rfl) (by kernel_rfl) (by kernel_rfl) (fun _ _ _ h => h) (Or.inl ⟨by rfl, ?_⟩) (by assumption) ?_
        ·
         intro W0 hSw
         (try dsimp only at hSw)
         go_simp
        simp only [List.set_cons_zero, List.set_cons_succ]
        refine Tr.take_at 2 46 (.int .i64 j) rfl rfl (by kernel_rfl) (by kernel_rfl) (by kernel_rfl) (fun _ _ _ h => h) (Or.inl ⟨by rfl, ?_⟩) (by assumption) ?_
        ·
         intro W0 hSw
         (try dsimp only at hSw)
         go_simp
        simp only [List.set_cons_zero, List.set_cons_succ]
        refine Tr.take_at 3 47 (.pointer (some ⟨bk, ok + j, none⟩)) rfl rfl (by kernel_rfl) (by kernel_rfl) (by kernel_rfl) (fun _ _ _ h => h) (Or.inl ⟨by rfl, ?_⟩) (by assumption) ?_
        ·
         intro W0 hSw
         (try dsimp only at hSw)
         go_simp
        simp only [List.set_cons_zero, List.set_cons_succ]
        refine Tr.take_at 4 48 (.int .u32 (idW i)) rfl rfl (by kernel_rfl) (by kernel_rfl) (by kernel_rfl) (fun _ _ _ h => h) (Or.inl ⟨by rfl, ?_⟩) (by assumption) ?_
        ·
         intro W0 hSw
         (try dsimp only at hSw)
         go_simp
        simp only [List.set_cons_zero, List.set_cons_succ]
        refine Tr.take_at 5 49 (.int .i64 Y) rfl rfl (by kernel_rfl) (by kernel_rfl) (by kernel_rfl) (fun _ _ _ h => h) (Or.inl ⟨by rfl, ?_⟩) (by assumption) ?_
        ·
         intro W0 hSw
         (try dsimp only at hSw)
         go_simp
        simp only [List.set_cons_zero, List.set_cons_succ]
        refine Tr.take_at 6 50 (.int .i64 Z) rfl rfl (by kernel_rfl) (by kernel_rfl) (by kernel_rfl) (fun _ _ _ h => h) (Or.inl ⟨by rfl, ?_⟩) (by assumption) ?_
        ·
         intro W0 hSw
         (try dsimp only at hSw)
         go_simp
        simp only [List.set_cons_zero, List.set_cons_succ]
        refine wpAnyH_ready (rs := [7]) (by kernel_rfl) (by simp) ?_
        refine AllReadyH.cons rfl (fun K hK => ?_) AllReadyH.nil; go_simp
        have hq := there_win (.agg #[.map mp]) nb bs RW RH l i d Y Z wr.drew (HP.out.below (bstep HB.out HBW.out)) (HS.out.below (bstep HB.out HBW.out)) HOK.out HR.out HQM.out.1 (by omega) (by have := HYZ.out; omega)
        rw [HM1.out, HH.out, if_pos rfl] at hq
        refine hq.mono ?_
        rintro e wc0 ⟨rfl, hbA⟩
        clear hq
        replace HBW := Lib.hid (bstep HBW.out hbA); clear hbA; go_simp
        refine hK.out _ _ (KW.out _ HBW.out) (fun _ => ?_); clear hK K
        refine Tr.take_at 8 43 (.tuple #[.int .i64 (Y - d.X), .int .i64 (Z - d.Y), .bool false]) rfl rfl (by kernel_rfl) (by kernel_rfl) (by kernel_rfl) (fun _ _ _ h => h) (Or.inl ⟨by rfl, ?_⟩) (by assumption) ?_
        ·
         intro W0 hSw
         (try dsimp only at hSw)
         go_simp
        simp only [List.set_cons_zero, List.set_cons_succ]
        refine Tr.take_at 9 52 (.int .i64 (Y - d.X)) rfl rfl (by kernel_rfl) (by kernel_rfl) (by kernel_rfl) (fun _ _ _ h => h) (Or.inl ⟨by rfl, ?_⟩) (by assumption) ?_
        ·
         intro W0 hSw
         (try dsimp only at hSw)
         go_simp
        simp only [List.set_cons_zero, List.set_cons_succ]
        refine Tr.take_at 10 53 (.int .i64 (Z - d.Y)) rfl rfl (by kernel_rfl) (by kernel_rfl) (by kernel_rfl) (fun _ _ _ h => h) (Or.inl ⟨by rfl, ?_⟩) (by assumption) ?_
        ·
         intro W0 hSw
         (try dsimp only at hSw)
         go_simp
        simp only [List.set_cons_zero, List.set_cons_succ]
        refine Tr.take_at 11 54 (.bool false) rfl rfl (by kernel_rfl) (by kernel_rfl) (by kernel_rfl) (fun _ _ _ h => h) (Or.inl ⟨by rfl, ?_⟩) (by assumption) ?_
        ·
         intro W0 hSw
         (try dsimp only at hSw)
         go_simp
        simp only [List.set_cons_zero, List.set_cons_succ]
        refine Tr.take_at 12 17 (.int .i64 (Y - d.X)) rfl rfl (by kernel_rfl) (by kernel_rfl) (by kernel_rfl) (fun _ _ _ h => h) (Or.inl ⟨by rfl, ?_⟩) (by assumption) ?_
        ·
         intro W0 hSw
         (try dsimp only at hSw)
         go_simp
        simp only [List.set_cons_zero, List.set_cons_succ]
        refine Tr.take_at 13 18 (.int .i64 (Z - d.Y)) rfl rfl (by kernel_rfl) (by kernel_rfl) (by kernel_rfl) (fun _ _ _ h => h) (Or.inl ⟨by rfl, ?_⟩) (by assumption) ?_
        ·
         intro W0 hSw
         (try dsimp only at hSw)
         go_simp
        simp only [List.set_cons_zero, List.set_cons_succ]
        refine Tr.take_at 14 19 (.bool false) rfl rfl (by kernel_rfl) (by kernel_rfl) (by kernel_rfl) (fun _ _ _ h => h) (Or.inl ⟨by rfl, ?_⟩) (by assumption) ?_
        ·
         intro W0 hSw
         (try dsimp only at hSw)
         go_simp
        simp only [List.set_cons_zero, List.set_cons_succ]
        refine wpAnyH_done (by kernel_rfl) ?_ _
        refine NoPanic.normal ?_
        go_wp2_with fail
        go_roundw
        case rel => exact ⟨j, (j : Int) - 1, rfl, rfl, rfl, rfl, rfl, by omega, by rw [HST.out, HHN.out]; rfl, ⟨KT.out.belowS HBW.out, KP.out.belowS HBW.out, KC.out.belowS HBW.out⟩, HRD.out.below HBW.out, bstep HB.out HBW.out⟩
        case measure => simp [intOf] <;> omega
      | true =>
       have HH := Lib.hid hh
       have hhy : hitW m Y Z (d, i) = true := by rw [HHW.out, hM, hh]; rfl
       have hle : lastHit (hitW m Y Z) l.zipIdx = (i : Int) := by rw [← lastHit_kids, HKS.out, HST.out, hhy]; rfl
       have HNX := Lib.hid (show tp = atD l f (i : Int) (Y - d.X) (Z - d.Y) ∧ lc = locD l f (i : Int) (Y - d.X) (Z - d.Y) from ⟨by rw [HAT.out.1, atD_yes hle HQM.out.1], by rw [HAT.out.2, locD_yes hle HQM.out.1]⟩)
       have HNB := Lib.hid (show (0 ≤ Y - d.X ∧ Y - d.X ≤ 128) ∧ 0 ≤ Z - d.Y ∧ Z - d.Y ≤ 128 by
        have h1 := has_box hh
        have h2 := HDO.out.w
        have h3 := HDO.out.h
        omega)
       clear hh hM hhy hle
       as_aux_lemma =>
        go_upto_region 10 with fail
        have HBW := Lib.hid (show Below wr.heap.size wr wr.drew from (bre wr).drew)
        have KW := Lib.hid (fun (W' : World) (h : Below wr.heap.size wr W') => show (fun w' => w'.cell? ⟨w.heap.size + 1, 0, none⟩ = some (.map mp) ∧ w'.cell? ⟨bk, ok + j, none⟩ = some (.int .u32 (idW i))) W' from ⟨(KP.out.belowS h).cellV (i := 0) rfl, ((h.cell (p := ⟨bk, ok + j, none⟩) HBK.out).trans HQ0.out)⟩)
        refine wp_region_noPanic ?_
        refine wp_region_held_drew (S := (fun w' => w'.cell? ⟨w.heap.size + 1, 0, none⟩ = some (.map mp) ∧ w'.cell? ⟨bk, ok + j, none⟩ = some (.int .u32 (idW i)))) (by kernel_rfl) ?_ (fun _ => ?_)
        ·
         (try dsimp only)
         exact ⟨(KP.out.belowS HBW.out).cellV (i := 0) rfl, ((HBW.out.cell (p := ⟨bk, ok + j, none⟩) HBK.out).trans HQ0.out)⟩
        refine Tr.take_at 0 44 (.agg #[.map mp]) rfl rfl (by kernel_rfl) (by kernel_rfl) (by kernel_rfl) (fun _ _ _ h => h) (Or.inl ⟨by rfl, ?_⟩) (by assumption) ?_
        ·
         intro W0 hSw
         (try dsimp only at hSw)
         go_simp
        simp only [List.set_cons_zero, List.set_cons_succ]
        refine Tr.take_at 1 45 (.slice (some ⟨bk, ok, none⟩) K ck) rfl rfl (by kernel_rfl) (by kernel_rfl) (by kernel_rfl) (fun _ _ _ h => h) (Or.inl ⟨by rfl, ?_⟩) (by assumption) ?_
        ·
         intro W0 hSw
         (try dsimp only at hSw)
         go_simp
        simp only [List.set_cons_zero, List.set_cons_succ]
        refine Tr.take_at 2 46 (.int .i64 j) rfl rfl (by kernel_rfl) (by kernel_rfl) (by kernel_rfl) (fun _ _ _ h => h) (Or.inl ⟨by rfl, ?_⟩) (by assumption) ?_
        ·
         intro W0 hSw
         (try dsimp only at hSw)
         go_simp
        simp only [List.set_cons_zero, List.set_cons_succ]
        refine Tr.take_at 3 47 (.pointer (some ⟨bk, ok + j, none⟩)) rfl rfl (by kernel_rfl) (by kernel_rfl) (by kernel_rfl) (fun _ _ _ h => h) (Or.inl ⟨by rfl, ?_⟩) (by assumption) ?_
        ·
         intro W0 hSw
         (try dsimp only at hSw)
         go_simp
        simp only [List.set_cons_zero, List.set_cons_succ]
        refine Tr.take_at 4 48 (.int .u32 (idW i)) rfl rfl (by kernel_rfl) (by kernel_rfl) (by kernel_rfl) (fun _ _ _ h => h) (Or.inl ⟨by rfl, ?_⟩) (by assumption) ?_
        ·
         intro W0 hSw
         (try dsimp only at hSw)
         go_simp
        simp only [List.set_cons_zero, List.set_cons_succ]
        refine Tr.take_at 5 49 (.int .i64 Y) rfl rfl (by kernel_rfl) (by kernel_rfl) (by kernel_rfl) (fun _ _ _ h => h) (Or.inl ⟨by rfl, ?_⟩) (by assumption) ?_
        ·
         intro W0 hSw
         (try dsimp only at hSw)
         go_simp
        simp only [List.set_cons_zero, List.set_cons_succ]
        refine Tr.take_at 6 50 (.int .i64 Z) rfl rfl (by kernel_rfl) (by kernel_rfl) (by kernel_rfl) (fun _ _ _ h => h) (Or.inl ⟨by rfl, ?_⟩) (by assumption) ?_
        ·
         intro W0 hSw
         (try dsimp only at hSw)
         go_simp
        simp only [List.set_cons_zero, List.set_cons_succ]
        refine wpAnyH_ready (rs := [7]) (by kernel_rfl) (by simp) ?_
        refine AllReadyH.cons rfl (fun K hK => ?_) AllReadyH.nil; go_simp
        have hq := there_win (.agg #[.map mp]) nb bs RW RH l i d Y Z wr.drew (HP.out.below (bstep HB.out HBW.out)) (HS.out.below (bstep HB.out HBW.out)) HOK.out HR.out HQM.out.1 (by omega) (by have := HYZ.out; omega)
        rw [HM1.out, HH.out, if_pos rfl] at hq
        refine hq.mono ?_
        rintro e wc0 ⟨rfl, hbA⟩
        clear hq
        replace HBW := Lib.hid (bstep HBW.out hbA); clear hbA; go_simp
        refine hK.out _ _ (KW.out _ HBW.out) (fun _ => ?_); clear hK K
        refine Tr.take_at 8 43 (.tuple #[.int .i64 (Y - d.X), .int .i64 (Z - d.Y), .bool true]) rfl rfl (by kernel_rfl) (by kernel_rfl) (by kernel_rfl) (fun _ _ _ h => h) (Or.inl ⟨by rfl, ?_⟩) (by assumption) ?_
        ·
         intro W0 hSw
         (try dsimp only at hSw)
         go_simp
        simp only [List.set_cons_zero, List.set_cons_succ]
        refine Tr.take_at 9 52 (.int .i64 (Y - d.X)) rfl rfl (by kernel_rfl) (by kernel_rfl) (by kernel_rfl) (fun _ _ _ h => h) (Or.inl ⟨by rfl, ?_⟩) (by assumption) ?_
        ·
         intro W0 hSw
         (try dsimp only at hSw)
         go_simp
        simp only [List.set_cons_zero, List.set_cons_succ]
        refine Tr.take_at 10 53 (.int .i64 (Z - d.Y)) rfl rfl (by kernel_rfl) (by kernel_rfl) (by kernel_rfl) (fun _ _ _ h => h) (Or.inl ⟨by rfl, ?_⟩) (by assumption) ?_
        ·
         intro W0 hSw
         (try dsimp only at hSw)
         go_simp
        simp only [List.set_cons_zero, List.set_cons_succ]
        refine Tr.take_at 11 54 (.bool true) rfl rfl (by kernel_rfl) (by kernel_rfl) (by kernel_rfl) (fun _ _ _ h => h) (Or.inl ⟨by rfl, ?_⟩) (by assumption) ?_
        ·
         intro W0 hSw
         (try dsimp only at hSw)
         go_simp
        simp only [List.set_cons_zero, List.set_cons_succ]
        refine Tr.take_at 12 17 (.int .i64 (Y - d.X)) rfl rfl (by kernel_rfl) (by kernel_rfl) (by kernel_rfl) (fun _ _ _ h => h) (Or.inl ⟨by rfl, ?_⟩) (by assumption) ?_
        ·
         intro W0 hSw
         (try dsimp only at hSw)
         go_simp
        simp only [List.set_cons_zero, List.set_cons_succ]
        refine Tr.take_at 13 18 (.int .i64 (Z - d.Y)) rfl rfl (by kernel_rfl) (by kernel_rfl) (by kernel_rfl) (fun _ _ _ h => h) (Or.inl ⟨by rfl, ?_⟩) (by assumption) ?_
        ·
         intro W0 hSw
         (try dsimp only at hSw)
         go_simp
        simp only [List.set_cons_zero, List.set_cons_succ]
        refine Tr.take_at 14 19 (.bool true) rfl rfl (by kernel_rfl) (by kernel_rfl) (by kernel_rfl) (fun _ _ _ h => h) (Or.inl ⟨by rfl, ?_⟩) (by assumption) ?_
        ·
         intro W0 hSw
         (try dsimp only at hSw)
         go_simp
        simp only [List.set_cons_zero, List.set_cons_succ]
        refine wpAnyH_done (by kernel_rfl) ?_ _
        refine NoPanic.normal ?_
        have q1 := (HBW.out.cell (p := ⟨bk, ok + j, none⟩) HBK.out).trans HQ0.out
        have hkn : ¬ (j : Int) < 0 := by omega
        go_wp2_with fail
        go_roundw
        case rel => exact ⟨(i : Int), f, Y - d.X, Z - d.Y, rfl, rfl, rfl, by have := HMI.out; have := HM.out; omega, by have := HMI.out; omega, HNX.out, HNB.out, ⟨KT.out.belowS HBW.out, KP.out.belowS HBW.out, KC.out.belowS HBW.out⟩, bstep HB.out HBW.out⟩
        case measure => have h1 := HMI.out; have h2 := HM.out; have h3 : idW m < idW (i : Int) := (idW_lt h1.1 h2.1); have h4 := idW_le (i : Int) h1.2 (by omega); simp [intOf]; omega
end Go.Proofs.YtdaedkolpfkdjaaGreat
end

section
namespace Go.Proofs.YtdaedkolpfkdjaaGreat
open Go.RowKit Go.Maps Go.Shelf

/-- the topmost window's number as the screen tells it. -/
def whoD (l : List R34) (RW RH : Nat) (x y : Int) : Int := if rectP RW RH x y then idW (topI l x y - 1) else 0
theorem lookV_eq {l : List R34} {RW RH : Nat} {cs : Its} (hu : UpR l) {r : R34} (hr : l[0]? = some r) (hW : r.W = RW ∧ r.H = RH) (hc : ItsOf l cs) (x y : Int) : lookV (dws l) RW RH cs (F34 l) x y = .tuple #[.int .u8 (pixD l RW RH x y), .int .u32 (whoD l RW RH x y)] := by
  unfold lookV pixD whoD
  cases hxy : rectP (RW : Int) (RH : Int) x y with
  | false => rfl
  | true =>
    have hl : 1 ≤ l.length := by
      have := (List.getElem?_eq_some_iff.1 hr).1
      omega
    have hb := topI_bd hu hl x y
    obtain ⟨d, hd, hq⟩ := topL_in hu hr hW hxy
    obtain ⟨it, h1, h2, h3, h4⟩ := hc _ d hd
    have ei : (((topI l x y).toNat : Int) - 1) = atD (dws l) (F34 l) (-1) x y := by
      unfold topI at hb ⊢
      omega
    rw [ei] at h1
    rw [if_pos rfl, if_pos rfl, if_pos rfl, h1]
    have e1 : topI l x y - 1 = atD (dws l) (F34 l) (-1) x y := by unfold topI; omega
    rw [e1]
    have e2 : pixAt l (topI l x y).toNat (topL l x y) = d.px.getD ((topL l x y).2.toNat * d.W + (topL l x y).1.toNat) 0 := by
      unfold pixAt
      rw [hd]
    rw [e2]
    have e3 : locD (dws l) (F34 l) (-1) x y = topL l x y := rfl
    rw [e3]
    show Value.tuple #[.int .u8 (Gr.gat it.W it.H it.px _ _), _] = _
    rw [h2, h3, h4]
    unfold Gr.gat
    rw [if_pos ((Gr.has_iff _ _ _ _).2 (by omega))]
section
variable {w : World} {v : Value} {ps : List PN34} {l : List R34} {mk mu mp mc : Option Nat} {AL : Option Addr} {cL RW RH : Nat}
theorem look34 (h : Made34 w v ps l mk mu mp mc AL cL RW RH) (hok : ∀ p ∈ ps, p.ok) (x y : Int) :
    Calls Tryz.prog 47 #[.agg #[.map mk, .map mu], .agg #[.map mp], .agg #[.map mc], .int .i64 x, .int .i64 y] w fun e w' => e = .returned (.tuple #[.int .u8 (pixD l RW RH x y), .int .u32 (whoD l RW RH x y)]) ∧ Below w.heap.size w w' := by
  obtain ⟨nk, fk, ht⟩ := h.tree
  obtain ⟨_, bs, hp, hs⟩ := h.place.resolve_left (fun hh => by have := h.few; rw [hh.1] at this; simp at this)
  obtain ⟨cs, hc1, hc2, _⟩ := h.canvas
  obtain ⟨r, h1, h2, h3, _, hb⟩ := h.rootIs
  have hF := below_lenW h.up.upOk
  rw [← lookV_eq h.up h1 ⟨h2, h3⟩ hc2 x y]
  exact look_any mk mu mp mc nk _ _ fk bs cs RW RH (dws l) (F34 l) x y w ht hp hs hc1 h.up.upOk (dws_ok (h.oks hok)) (by omega) (by rw [dws_len]; have := h.few; omega) (by unfold F34; omega)
end
end Go.Proofs.YtdaedkolpfkdjaaGreat
end
