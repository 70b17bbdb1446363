/-
  The walk of glazierlaw34.awake: the document's example.
-/
import Derived.Test.YtdaedkolpfkdjaaGreatZT29
import Derived.Test.YtdaedkolpfkdjaaGreatZT30
section
namespace Go.Proofs.YtdaedkolpfkdjaaGreat
open Go.RowKit Go.Maps Go.Shelf

def exR : R34 := ⟨-1, 0, 0, 4, 3, true, false, none, 0, 0, none, 0, 0, [], List.replicate 12 1⟩
def exD : R34 := ⟨0, 1, 1, 2, 2, true, false, none, 0, 0, none, 0, 0, [], List.replicate 4 9⟩
def exP : List Int := [1, 1, 1, 1, 1, 9, 9, 1, 1, 9, 9, 1]
theorem ex_up : UpR [exR, exD] := fun j d hd hj => by
 match j, hd with
 | 0, _ => omega
 | 1, hd =>
  obtain rfl : exD = d := by simpa using hd
  decide
 | j + 2, hd => simp at hd
theorem exD_ok : DWok exD.dw := ⟨by decide, by decide, by decide, by decide, fun _ => rfl, by decide, fun r hr => by cases hr⟩
theorem ex_ok : ∀ d ∈ dws [exR, exD], DWok d := fun d hd => by
 obtain rfl : d = exD.dw := by simpa [dws] using hd
 exact exD_ok
set_option maxRecDepth 100000 in
theorem ex_pix : ∀ x, x < 4 → ∀ y, y < 3 → Gr.gat 4 3 exP (x : Nat) (y : Nat) = pixD [exR, exD] 4 3 (x : Nat) (y : Nat) := by decide +kernel
set_option maxRecDepth 100000 in
theorem ex_text : (⟨(textB 4 3 exP).toArray⟩ : ByteArray) = ⟨#[48, 49, 48, 49, 48, 49, 48, 49, 10, 48, 49, 48, 57, 48, 57, 48, 49, 10, 48, 49, 48, 57, 48, 57, 48, 49, 10]⟩ := by decide +kernel
theorem ex_its {cs : Its} {A B : Option Addr} {c e : Nat} (h : cs = Its.put (Its.put (fun _ => none) 1 ⟨4, 3, A, 12, c, 1, true, true, List.replicate 12 1⟩) 1048577 ⟨2, 2, B, 4, e, 9, true, false, List.replicate 4 9⟩) : ItsOf [exR, exD] cs := fun j d hd => by
 subst h
 match j, hd with
 | 0, hd =>
  obtain rfl : exR = d := by simpa using hd
  exact ⟨_, rfl, rfl, rfl, rfl⟩
 | 1, hd =>
  obtain rfl : exD = d := by simpa using hd
  exact ⟨_, rfl, rfl, rfl, rfl⟩
 | j + 2, hd => simp at hd
theorem ex_scr {cs : Its} {px : List Int} (hs : ScrAt 4 3 4 3 (nodesW (dws [exR, exD])) (bxS 4 3 (dws [exR, exD])) cs (ordW (nodesW (dws [exR, exD])) (bxS 4 3 (dws [exR, exD])) 1) px) (hc : ItsOf [exR, exD] cs) : px = exP := by
 refine px_ext (W := 4) (H := 3) hs.len rfl (fun x y hx hy => ?_)
 exact (hs.all (nodesW_ok ex_up.upOk) x y hx hy).trans ((scr_doc (RW := 4) (RH := 3) ex_up (r := exR) rfl ⟨rfl, rfl⟩ hc x y).trans (ex_pix x hx y hy).symm)
theorem exP_pix : Gr.Pix exP := fun p hp => by
 simp only [exP, List.mem_cons, List.not_mem_nil, or_false] at hp
 omega
theorem noI1 (m : Option Nat) : NoI #[.map m] := fun j k x => by
 match j with
 | 0 => simp
 | j + 1 => simp
theorem blk_puts3 {w : World} {g : Nat} {t : TypeId} {a0 a1 a2 : Value} (b0 b1 b2 : Value) (h : Blk w g t #[a0, a1, a2]) : Blk (World.setCells w g 0 (#[b0, b1, b2] : Array Value).toList) g t #[b0, b1, b2] := by
 have := blk_all (t := t) [b0, b1, b2] 0 w [a0, a1, a2] h (by simp)
 simpa using this
set_option maxRecDepth 100000 in
theorem Tryz.sizeGr : (Tryz.prog.info? 75).map (·.size) = some 3 := by kernel_rfl
theorem ex_box (W0 : World) : BoxOf W0 exD.dw ⟨1, 1, 2, 2, true, 0, 0, false, none, 0, 0⟩ := ⟨⟨rfl, rfl, rfl, rfl, rfl, rfl⟩, [], reg_nil W0 0, fun _ _ => rfl⟩
set_option maxRecDepth 100000 in
set_option maxHeartbeats 8000000 in
theorem awake34_any (w : World) : Calls Tryz.prog 34 #[] w fun e w' => e = .returned (.bool true) ∧ Below w.heap.size w w' := by
 go_enter Tryz.func34, Tryz.ntmps34
 go_wp2_with fail
 refine (tnew_any _).mono ?_
 rintro e w1 ⟨rfl, hb1⟩
 have HB := Lib.hid hb1
 clear hb1
 go_wp2_with fail
 refine (tadd_own (.agg #[.map none, .map none]) [] none none 0 (fun _ => none) 1048577 1 _ (by decide) (by decide) (tree_new _) (by decide) (by decide) (by decide) (by decide)).mono ?_
 rintro e w2 ⟨⟨kb, ub, nk, fk, rfl, ht⟩, hb2⟩
 have HT := Lib.hid (show TreeIs w2 (.agg #[.map (some kb), .map (some ub)]) (nodesW (dws [exR, exD])) (some kb) (some ub) nk fk from ht.tree)
 replace HB := Lib.hid (bstep HB.out hb2)
 clear ht hb2
 have ha := bal (bre w2) (.cells #[.map (some kb), .map (some ub)] 37)
 have xk := Blk.new w2 37 #[.map (some kb), .map (some ub)]
 have z0 := bstep HB.out ha
 have z1 := HT.out.below ha
 clear ha
 go_upto_region 2 with fail
 obtain ⟨g1, hg1⟩ : ∃ g, w2.heap.size = g := ⟨_, rfl⟩
 obtain ⟨X1, hX1⟩ : ∃ X, w2.alloc (.cells #[.map (some kb), .map (some ub)] 37) = X := ⟨_, rfl⟩
 rw [hX1] at z0 z1 xk ⊢
 rw [hg1] at xk ⊢
 replace HB := Lib.hid z0
 have K1 := Lib.hid xk
 replace HT := Lib.hid z1
 clear z0 z1 xk hX1
 clear hg1
 go_wp2_with fail
 refine (pnew_any 4 3 _ (by decide) (by decide)).mono ?_
 rintro e w3 ⟨pv, rfl, hp, hb3⟩
 have hp0 := hp
 obtain ⟨mp, rfl, _⟩ := hp0
 have HP := Lib.hid hp
 replace HB := Lib.hid (bstep HB.out hb3)
 replace HT := Lib.hid (HT.out.below hb3)
 replace K1 := Lib.hid (K1.out.belowS hb3)
 have HN13 := Lib.hid (Nat.lt_of_lt_of_le K1.out.lt (Nat.le_refl _))
 clear hp hb3
 have ha := bal (bre w3) (.cells #[.map mp] 40)
 have xk := Blk.new w3 40 #[.map mp]
 have z0 := bstep HB.out ha
 have z1 := HT.out.below ha
 have z2 := K1.out.belowS ha
 have z3 := HP.out.below ha
 clear ha
 go_upto_region 3 with fail
 have hn13 := HN13.out
 have hb0 := HB.out.size
 obtain ⟨g3, hg3⟩ : ∃ g, w3.heap.size = g := ⟨_, rfl⟩
 obtain ⟨X3, hX3⟩ : ∃ X, w3.alloc (.cells #[.map mp] 40) = X := ⟨_, rfl⟩
 rw [hX3] at z0 z1 z2 z3 xk ⊢
 rw [hg3] at xk ⊢
 replace HB := Lib.hid z0
 have K3 := Lib.hid xk
 replace HT := Lib.hid z1
 replace K1 := Lib.hid z2
 replace HP := Lib.hid z3
 clear z0 z1 z2 z3 xk hX3
 rw [hg3] at hn13 hb0
 have HN1 := Lib.hid (show g1 ≠ g3 by omega)
 have HG3 := Lib.hid hb0
 clear hg3 hn13 hb0 HN13
 have c0 := K3.out.cellV (i := 0) (v := .map mp) rfl
 go_wp2_with (refine wpList_bld rfl #[.int .i64 1, .int .i64 1, .int .i64 2, .int .i64 2, .bool true, .int .i64 0, .int .i64 0, .bool false, .slice none 0 0] (by as_aux_lemma => kernel_rfl) ?_)
 have hset := set_34 (l := [exR]) (d := exD) (RW := 4) (RH := 3) (b := ⟨1, 1, 2, 2, true, 0, 0, false, none, 0, 0⟩) (SceneIs.nil (w := X3)) (by decide) (by decide) exD_ok (ex_box X3) ⟨rfl, rfl⟩ (fun _ => rfl)
 refine (pset_any (.agg #[.map mp]) 1 (fun i => if i = 1 then some (rootBX 4 3) else none) 1048577 ⟨1, 1, 2, 2, true, 0, 0, false, none, 0, 0⟩ _ (by decide) (by decide) HP.out (fun h => by omega)).mono ?_
 rintro e w4 ⟨pv', rfl, hp', hb4⟩
 rw [show setC (fun i => if i = 1 then some (rootBX 4 3) else none) 1 1048577 ⟨1, 1, 2, 2, true, 0, 0, false, none, 0, 0⟩ = 0 from hset.1]
 have e2 : setN (fun i => if i = 1 then some (rootBX 4 3) else none) 1 1048577 ⟨1, 1, 2, 2, true, 0, 0, false, none, 0, 0⟩ = 2 := hset.2.1
 have e3 : setB (fun i => if i = 1 then some (rootBX 4 3) else none) 1 1048577 ⟨1, 1, 2, 2, true, 0, 0, false, none, 0, 0⟩ = fun j => if j = idW ((dws [exR]).length : Nat) then some ⟨1, 1, 2, 2, true, 0, 0, false, none, 0, 0⟩ else (if j = 1 then some (rootBX 4 3) else none) := hset.2.2
 rw [e2, e3] at hp'
 have hp0 := hp'
 obtain ⟨mp', rfl, _⟩ := hp0
 have HMP := Lib.hid (show MP w4 [exR, exD] mp' 4 3 from mp_step (l := [exR]) (d := exD) (by decide) hp' SceneIs.nil (ex_box w4))
 replace HB := Lib.hid (bstep HB.out hb4)
 replace HT := Lib.hid (HT.out.below hb4)
 replace K1 := Lib.hid (K1.out.belowS hb4)
 replace K3 := Lib.hid (K3.out.belowS hb4)
 clear hp' e2 e3 hset hb4 HP c0
 have c0 := K3.out.cellV (i := 0) (v := .map mp) rfl
 have f0 := K3.out.frozen 0
 have l3 := K3.out.lt
 have noi : NoI #[.map mp] := noI1 mp
 have z0 := bset (p := ⟨g3, 0, none⟩) HB.out HG3.out (.map mp')
 have z1 := HT.out.setBlk K3.out (fun j x => noi j .u32 x) 0 (.map mp')
 have z2 := K1.out.far (p := ⟨g3, 0, none⟩) HN1.out (.map mp')
 have z3 := K3.out.set_ 0 (.map mp')
 have z4 := HMP.out.set K3.out noi 0 (.map mp')
 go_upto_region 4 with fail
 obtain ⟨X4, hX⟩ : ∃ X, w4.setCell ⟨g3, 0, none⟩ (.map mp') = X := ⟨_, rfl⟩
 rw [hX] at z0 z1 z2 z3 z4 ⊢
 replace HB := Lib.hid z0
 replace HT := Lib.hid z1
 replace K1 := Lib.hid z2
 replace K3 := Lib.hid (show Blk X4 g3 40 #[.map mp'] from z3)
 replace HMP := Lib.hid z4
 clear z0 z1 z2 z3 z4 hX c0 f0 l3 noi
 go_wp2_with fail
 refine (copen_ok (.agg #[.map none]) 0 (fun _ => none) 1 4 3 1 true _ (by decide) (canvas_nil _) (by decide) (by decide) (by decide) (by decide) rfl (by decide)).mono ?_
 rintro e w5 ⟨mc, A5, c5, rfl, hc, _, hb5⟩
 have HC := Lib.hid hc
 replace HB := Lib.hid (bstep HB.out hb5)
 replace HT := Lib.hid (HT.out.below hb5)
 replace K1 := Lib.hid (K1.out.belowS hb5)
 replace K3 := Lib.hid (K3.out.belowS hb5)
 replace HMP := Lib.hid (HMP.out.below hb5)
 clear hc hb5
 have ha := bal (bre w5) (.cells #[.map (some mc)] 67)
 have xk := Blk.new w5 67 #[.map (some mc)]
 have z0 := bstep HB.out ha
 have z1 := HT.out.below ha
 have z2 := K1.out.belowS ha
 have z3 := K3.out.belowS ha
 have z4 := HMP.out.below ha
 have z5 := HC.out.below ha
 clear ha
 have hn1 := K1.out.lt
 have hn3 := K3.out.lt
 have hb0 := HB.out.size
 go_upto_region 5 with fail
 obtain ⟨g6, hg6⟩ : ∃ g, w5.heap.size = g := ⟨_, rfl⟩
 obtain ⟨X6, hX6⟩ : ∃ X, w5.alloc (.cells #[.map (some mc)] 67) = X := ⟨_, rfl⟩
 rw [hX6] at z0 z1 z2 z3 z4 z5 xk ⊢
 rw [hg6] at xk ⊢
 replace HB := Lib.hid z0
 have K6 := Lib.hid xk
 replace HT := Lib.hid z1
 replace K1 := Lib.hid z2
 replace K3 := Lib.hid z3
 replace HMP := Lib.hid z4
 replace HC := Lib.hid z5
 clear z0 z1 z2 z3 z4 z5 xk hX6
 rw [hg6] at hn1 hn3 hb0
 have HN16 := Lib.hid (show g1 ≠ g6 by omega)
 have HN36 := Lib.hid (show g3 ≠ g6 by omega)
 have HG6 := Lib.hid hb0
 clear hg6 hn1 hn3 hb0
 have c0 := K6.out.cellV (i := 0) (v := .map (some mc)) rfl
 go_wp2_with fail
 refine (copen_ok (.agg #[.map (some mc)]) 1 _ 1048577 2 2 9 false _ (by decide) HC.out (by decide) (by decide) (by decide) (by decide) rfl (by decide)).mono ?_
 rintro e w6 ⟨mc', A6, c6, rfl, hc, _, hb6⟩
 replace HC := Lib.hid hc
 replace HB := Lib.hid (bstep HB.out hb6)
 replace HT := Lib.hid (HT.out.below hb6)
 replace K1 := Lib.hid (K1.out.belowS hb6)
 replace K3 := Lib.hid (K3.out.belowS hb6)
 replace K6 := Lib.hid (K6.out.belowS hb6)
 replace HMP := Lib.hid (HMP.out.below hb6)
 clear hc hb6 c0
 have c0 := K6.out.cellV (i := 0) (v := .map (some mc)) rfl
 have f0 := K6.out.frozen 0
 have l6 := K6.out.lt
 have noi : NoI #[.map (some mc)] := noI1 (some mc)
 have z0 := bset (p := ⟨g6, 0, none⟩) HB.out HG6.out (.map (some mc'))
 have z1 := HT.out.setBlk K6.out (fun j x => noi j .u32 x) 0 (.map (some mc'))
 have z2 := K1.out.far (p := ⟨g6, 0, none⟩) HN16.out (.map (some mc'))
 have z3 := K3.out.far (p := ⟨g6, 0, none⟩) HN36.out (.map (some mc'))
 have z4 := HMP.out.set K6.out noi 0 (.map (some mc'))
 have z5 := HC.out.setX K6.out noi 0 (.map (some mc'))
 have z6 := K6.out.set_ 0 (.map (some mc'))
 go_upto_region 6 with fail
 obtain ⟨X7, hX⟩ : ∃ X, w6.setCell ⟨g6, 0, none⟩ (.map (some mc')) = X := ⟨_, rfl⟩
 rw [hX] at z0 z1 z2 z3 z4 z5 z6 ⊢
 replace HB := Lib.hid z0
 replace HT := Lib.hid z1
 replace K1 := Lib.hid z2
 replace K3 := Lib.hid z3
 replace HMP := Lib.hid z4
 replace HC := Lib.hid z5
 replace K6 := Lib.hid (show Blk X7 g6 67 #[.map (some mc')] from z6)
 clear z0 z1 z2 z3 z4 z5 z6 hX c0 f0 l6 noi
 obtain ⟨_, bs, hpl, hsc⟩ := HMP.out.resolve_left (fun h => by cases h.1)
 have HPL := Lib.hid hpl
 have HSC := Lib.hid hsc
 clear hpl hsc
 go_cut [9, 10] from 37 to 43 (fun s9 s10 wx => ∃ (g : Nat) (A : Option Addr) (c : Nat), s9 = .pointer (some ⟨g, 0, none⟩) ∧ s10 = .int .i64 0 ∧ Blk wx g 75 #[.int .i64 4, .int .i64 3, .slice A 12 c] ∧ Rd wx A 12 (Gr.U8 exP) ∧ 12 ≤ c ∧ Below X7.heap.size X7 wx)
 case first =>
  as_aux_lemma =>
   have HBW := Lib.hid (show Below X7.heap.size X7 X7.drew from (bre X7).drew)
   have KW := Lib.hid (fun (W' : World) (h : Below X7.heap.size X7 W') => show (fun w' => w'.cell? ⟨g1, 0, none⟩ = some (.map (some kb)) ∧ w'.cell? ⟨g1, 1, none⟩ = some (.map (some ub)) ∧ w'.cell? ⟨g3, 0, none⟩ = some (.map mp') ∧ w'.cell? ⟨g6, 0, none⟩ = some (.map (some mc'))) W' from ⟨(K1.out.belowS h).cellV (i := 0) rfl, (K1.out.belowS h).cellV (i := 1) rfl, (K3.out.belowS h).cellV (i := 0) rfl, (K6.out.belowS h).cellV (i := 0) rfl⟩)
   refine wp_region_noPanic ?_
   refine wp_region_held_drew (S := (fun w' => w'.cell? ⟨g1, 0, none⟩ = some (.map (some kb)) ∧ w'.cell? ⟨g1, 1, none⟩ = some (.map (some ub)) ∧ w'.cell? ⟨g3, 0, none⟩ = some (.map mp') ∧ w'.cell? ⟨g6, 0, none⟩ = some (.map (some mc')))) (by kernel_rfl) ?_ (fun _ => ?_)
   ·
    (try dsimp only)
    exact ⟨(K1.out.belowS HBW.out).cellV (i := 0) rfl, (K1.out.belowS HBW.out).cellV (i := 1) rfl, (K3.out.belowS HBW.out).cellV (i := 0) rfl, (K6.out.belowS HBW.out).cellV (i := 0) rfl⟩
   refine Tr.take_at 0 37 (.agg #[.map (some kb), .map (some ub)]) rfl rfl (by kernel_rfl) (by kernel_rfl) (by kernel_rfl) (fun _ _ _ h => h) (Or.inl ⟨by rfl, ?_⟩) (by assumption) ?_
   ·
    intro W0 hSw
    (try dsimp only at hSw)
    go_simp
   simp only [List.set_cons_zero, List.set_cons_succ]
   refine Tr.take_at 1 38 (.agg #[.map mp']) rfl rfl (by kernel_rfl) (by kernel_rfl) (by kernel_rfl) (fun _ _ _ h => h) (Or.inl ⟨by rfl, ?_⟩) (by assumption) ?_
   ·
    intro W0 hSw
    (try dsimp only at hSw)
    go_simp
   simp only [List.set_cons_zero, List.set_cons_succ]
   refine Tr.take_at 3 40 (.agg #[.map (some mc')]) rfl rfl (by kernel_rfl) (by kernel_rfl) (by kernel_rfl) (fun _ _ _ h => h) (Or.inl ⟨by rfl, ?_⟩) (by assumption) ?_
   ·
    intro W0 hSw
    (try dsimp only at hSw)
    go_simp
   simp only [List.set_cons_zero, List.set_cons_succ]
   refine wpAnyH_ready (rs := [2, 8]) (by kernel_rfl) (by simp) ?_
   refine AllReadyH.cons rfl (fun K hK => ?_) (AllReadyH.cons rfl (fun K hK => ?_) AllReadyH.nil)
   ·
    go_simp
    refine (seenG_of (RW := 4) (RH := 3) (l := dws [exR, exD]) (ns := nodesW (dws [exR, exD])) (bs := bs) (fk := fk) (nk := nk) (n := 2) _ (HT.out.below HBW.out) (HPL.out.below HBW.out) (HSC.out.below HBW.out) (nodesW_ok ex_up.upOk) (fun _ h => h) ex_ok (by rw [nodesW_len]; decide) (by decide)).mono ?_
    rintro e wc3 ⟨v, og, rfl, hse, hbA⟩
    obtain ⟨Av, nv, cv, mv, rfl⟩ := hse.form
    have HSE := Lib.hid hse
    clear hse
    replace HBW := Lib.hid (bstep HBW.out hbA); clear hbA; go_simp
    refine hK.out _ _ (KW.out _ HBW.out) (fun _ => ?_); clear hK K
    refine wpAnyH_ready (rs := [4, 8]) (by kernel_rfl) (by simp) ?_
    refine AllReadyH.cons rfl (fun K hK => ?_) (AllReadyH.cons rfl (fun K hK => ?_) AllReadyH.nil)
    ·
     go_simp
     refine (show_any (.agg #[.slice Av nv cv, .map mv]) (.agg #[.map (some mc')]) 4 3 _ _ og 2 _ 4 3 _ (HSE.out.below (bre _)) (nodesW_ok ex_up.upOk) (HC.out.below HBW.out) (by decide) (by decide)).mono ?_
     rintro e wc5 ⟨Ag, cg, px, rfl, hrg, hcg, hsa, hbA⟩
     have hpx := ex_scr hsa (ex_its rfl)
     subst hpx
     have HRG := Lib.hid hrg
     have HCG := Lib.hid hcg
     clear hrg hcg hsa
     replace HBW := Lib.hid (bstep HBW.out hbA)
     replace HSE := Lib.hid (HSE.out.below hbA); clear hbA; go_simp
     refine hK.out _ _ (KW.out _ HBW.out) (fun _ => ?_); clear hK K
     refine Tr.take_at 5 36 (.tuple #[.agg #[.int .i64 4, .int .i64 3, .slice Ag 12 cg], .int .i64 0]) rfl rfl (by kernel_rfl) (by kernel_rfl) (by kernel_rfl) (fun _ _ _ h => h) (Or.inl ⟨by rfl, ?_⟩) (by assumption) ?_
     ·
      intro W0 hSw
      (try dsimp only at hSw)
      go_simp
     simp only [List.set_cons_zero, List.set_cons_succ]
     refine Tr.take_at 6 42 (.agg #[.int .i64 4, .int .i64 3, .slice Ag 12 cg]) rfl rfl (by kernel_rfl) (by kernel_rfl) (by kernel_rfl) (fun _ _ _ h => h) (Or.inl ⟨by rfl, ?_⟩) (by assumption) ?_
     ·
      intro W0 hSw
      (try dsimp only at hSw)
      go_simp
     simp only [List.set_cons_zero, List.set_cons_succ]
     refine Tr.take_at 7 43 (.int .i64 0) rfl rfl (by kernel_rfl) (by kernel_rfl) (by kernel_rfl) (fun _ _ _ h => h) (Or.inl ⟨by rfl, ?_⟩) (by assumption) ?_
     ·
      intro W0 hSw
      (try dsimp only at hSw)
      go_simp
     simp only [List.set_cons_zero, List.set_cons_succ]
     refine wpAnyH_ready (rs := [8]) (by kernel_rfl) (by simp) ?_
     refine AllReadyH.cons rfl (fun K hK => ?_) AllReadyH.nil; go_simp
     have KA8 := Lib.hid (show Blk (wc5.alloc (.cells #[.int .i64 0, .int .i64 0, .slice none 0 0] 75)) (wc5.heap.size) 75 #[.int .i64 0, .int .i64 0, .slice none 0 0] from Blk.new wc5 75 #[.int .i64 0, .int .i64 0, .slice none 0 0])
     have HL8 := Lib.hid (show X7.heap.size ≤ wc5.heap.size from HBW.out.size)
     have hbA : Below wc5.heap.size wc5 ((wc5.alloc (.cells #[.int .i64 0, .int .i64 0, .slice none 0 0] 75))) := bal (bre wc5) (.cells #[.int .i64 0, .int .i64 0, .slice none 0 0] 75)
     replace HBW := Lib.hid (bstep HBW.out hbA)
     replace HRG := Lib.hid (HRG.out.below hbA); clear hbA
     refine hK.out _ _ (KW.out _ HBW.out) (fun _ => ?_); clear hK K
     refine wpAnyH_ready (rs := [9]) (by kernel_rfl) (by simp) ?_
     refine AllReadyH.cons rfl (fun K hK => ?_) AllReadyH.nil
     refine Tr.wanted_plain rfl ?_
     refine store_mid0 rfl 75 _ _ rfl (wc5.heap.size) 0 #[.int .i64 4, .int .i64 3, .slice Ag 12 cg] (by rfl) (by rfl) (by have h := there_blk KA8.out; exact h) Tryz.sizeGr (by simp [Value.oneCell']) ?_
     have xK := blk_puts3 (.int .i64 4) (.int .i64 3) (.slice Ag 12 cg) KA8.out
     have xB := bsets HBW.out HL8.out (#[.int .i64 4, .int .i64 3, .slice Ag 12 cg] : Array Value).toList 0
     have xHRG := (show Rd (World.setCells (wc5.alloc (.cells #[.int .i64 0, .int .i64 0, .slice none 0 0] 75)) (wc5.heap.size) 0 (#[.int .i64 4, .int .i64 3, .slice Ag 12 cg] : Array Value).toList) Ag 12 (Gr.U8 exP) from rd_nou8s (rd_nou8s (rd_nou8s HRG.out KA8.out (grid_no8s _ _ _ _ _) 0 (.int .i64 4)) (KA8.out.set_ 0 (.int .i64 4)) (grid_no8s _ _ _ _ _) 1 (.int .i64 3)) ((KA8.out.set_ 0 (.int .i64 4)).set_ 1 (.int .i64 3)) (grid_no8s _ _ _ _ _) 2 (.slice Ag 12 cg))
     obtain ⟨wS9, hwS⟩ : ∃ wS, World.setCells (wc5.alloc (.cells #[.int .i64 0, .int .i64 0, .slice none 0 0] 75)) (wc5.heap.size) 0 (#[.int .i64 4, .int .i64 3, .slice Ag 12 cg] : Array Value).toList = wS := ⟨_, rfl⟩
     rw [hwS] at xK xB xHRG ⊢
     replace HBW := Lib.hid xB
     replace KA8 := Lib.hid xK
     replace HRG := Lib.hid xHRG
     clear hwS xK xB xHRG
     refine hK.out _ _ (KW.out _ HBW.out) (fun _ => ?_); clear hK K
     refine Tr.take_at 10 10 (.int .i64 0) rfl rfl (by kernel_rfl) (by kernel_rfl) (by kernel_rfl) (fun _ _ _ h => h) (Or.inl ⟨by rfl, ?_⟩) (by assumption) ?_
     ·
      intro W0 hSw
      (try dsimp only at hSw)
      go_simp
     simp only [List.set_cons_zero, List.set_cons_succ]
     refine wpAnyH_done (by kernel_rfl) ?_ _
     refine NoPanic.normal ?_
     go_wp2_with fail
     go_meet
     exact ⟨_, Ag, cg, rfl, rfl, KA8.out, HRG.out, HCG.out, HBW.out⟩
    ·
     go_simp
     have KA8 := Lib.hid (show Blk (wc3.alloc (.cells #[.int .i64 0, .int .i64 0, .slice none 0 0] 75)) (wc3.heap.size) 75 #[.int .i64 0, .int .i64 0, .slice none 0 0] from Blk.new wc3 75 #[.int .i64 0, .int .i64 0, .slice none 0 0])
     have HL8 := Lib.hid (show X7.heap.size ≤ wc3.heap.size from HBW.out.size)
     have hbA : Below wc3.heap.size wc3 ((wc3.alloc (.cells #[.int .i64 0, .int .i64 0, .slice none 0 0] 75))) := bal (bre wc3) (.cells #[.int .i64 0, .int .i64 0, .slice none 0 0] 75)
     replace HBW := Lib.hid (bstep HBW.out hbA)
     replace HSE := Lib.hid (HSE.out.below hbA); clear hbA
     refine hK.out _ _ (KW.out _ HBW.out) (fun _ => ?_); clear hK K
     refine wpAnyH_ready (rs := [4]) (by kernel_rfl) (by simp) ?_
     refine AllReadyH.cons rfl (fun K hK => ?_) AllReadyH.nil; go_simp
     refine (show_any (.agg #[.slice Av nv cv, .map mv]) (.agg #[.map (some mc')]) 4 3 _ _ og 2 _ 4 3 _ (HSE.out.below (bre _)) (nodesW_ok ex_up.upOk) (HC.out.below HBW.out) (by decide) (by decide)).mono ?_
     rintro e wc5 ⟨Ag, cg, px, rfl, hrg, hcg, hsa, hbA⟩
     have hpx := ex_scr hsa (ex_its rfl)
     subst hpx
     have HRG := Lib.hid hrg
     have HCG := Lib.hid hcg
     clear hrg hcg hsa
     replace HBW := Lib.hid (bstep HBW.out hbA)
     replace KA8 := Lib.hid (KA8.out.belowS hbA)
     replace HSE := Lib.hid (HSE.out.below hbA); clear hbA; go_simp
     refine hK.out _ _ (KW.out _ HBW.out) (fun _ => ?_); clear hK K
     refine Tr.take_at 5 36 (.tuple #[.agg #[.int .i64 4, .int .i64 3, .slice Ag 12 cg], .int .i64 0]) rfl rfl (by kernel_rfl) (by kernel_rfl) (by kernel_rfl) (fun _ _ _ h => h) (Or.inl ⟨by rfl, ?_⟩) (by assumption) ?_
     ·
      intro W0 hSw
      (try dsimp only at hSw)
      go_simp
     simp only [List.set_cons_zero, List.set_cons_succ]
     refine Tr.take_at 6 42 (.agg #[.int .i64 4, .int .i64 3, .slice Ag 12 cg]) rfl rfl (by kernel_rfl) (by kernel_rfl) (by kernel_rfl) (fun _ _ _ h => h) (Or.inl ⟨by rfl, ?_⟩) (by assumption) ?_
     ·
      intro W0 hSw
      (try dsimp only at hSw)
      go_simp
     simp only [List.set_cons_zero, List.set_cons_succ]
     refine Tr.take_at 7 43 (.int .i64 0) rfl rfl (by kernel_rfl) (by kernel_rfl) (by kernel_rfl) (fun _ _ _ h => h) (Or.inl ⟨by rfl, ?_⟩) (by assumption) ?_
     ·
      intro W0 hSw
      (try dsimp only at hSw)
      go_simp
     simp only [List.set_cons_zero, List.set_cons_succ]
     refine wpAnyH_ready (rs := [9]) (by kernel_rfl) (by simp) ?_
     refine AllReadyH.cons rfl (fun K hK => ?_) AllReadyH.nil
     refine Tr.wanted_plain rfl ?_
     refine store_mid0 rfl 75 _ _ rfl (wc3.heap.size) 0 #[.int .i64 4, .int .i64 3, .slice Ag 12 cg] (by rfl) (by rfl) (by have h := there_blk KA8.out; exact h) Tryz.sizeGr (by simp [Value.oneCell']) ?_
     have xK := blk_puts3 (.int .i64 4) (.int .i64 3) (.slice Ag 12 cg) KA8.out
     have xB := bsets HBW.out HL8.out (#[.int .i64 4, .int .i64 3, .slice Ag 12 cg] : Array Value).toList 0
     have xHRG := (show Rd (World.setCells (wc5) (wc3.heap.size) 0 (#[.int .i64 4, .int .i64 3, .slice Ag 12 cg] : Array Value).toList) Ag 12 (Gr.U8 exP) from rd_nou8s (rd_nou8s (rd_nou8s HRG.out KA8.out (grid_no8s _ _ _ _ _) 0 (.int .i64 4)) (KA8.out.set_ 0 (.int .i64 4)) (grid_no8s _ _ _ _ _) 1 (.int .i64 3)) ((KA8.out.set_ 0 (.int .i64 4)).set_ 1 (.int .i64 3)) (grid_no8s _ _ _ _ _) 2 (.slice Ag 12 cg))
     obtain ⟨wS9, hwS⟩ : ∃ wS, World.setCells wc5 (wc3.heap.size) 0 (#[.int .i64 4, .int .i64 3, .slice Ag 12 cg] : Array Value).toList = wS := ⟨_, rfl⟩
     rw [hwS] at xK xB xHRG ⊢
     replace HBW := Lib.hid xB
     replace KA8 := Lib.hid xK
     replace HRG := Lib.hid xHRG
     clear hwS xK xB xHRG
     refine hK.out _ _ (KW.out _ HBW.out) (fun _ => ?_); clear hK K
     refine Tr.take_at 10 10 (.int .i64 0) rfl rfl (by kernel_rfl) (by kernel_rfl) (by kernel_rfl) (fun _ _ _ h => h) (Or.inl ⟨by rfl, ?_⟩) (by assumption) ?_
     ·
      intro W0 hSw
      (try dsimp only at hSw)
      go_simp
     simp only [List.set_cons_zero, List.set_cons_succ]
     refine wpAnyH_done (by kernel_rfl) ?_ _
     refine NoPanic.normal ?_
     go_wp2_with fail
     go_meet
     exact ⟨_, Ag, cg, rfl, rfl, KA8.out, HRG.out, HCG.out, HBW.out⟩
   ·
    go_simp
    have KA8 := Lib.hid (show Blk (X7.alloc (.cells #[.int .i64 0, .int .i64 0, .slice none 0 0] 75)).drew (X7.heap.size) 75 #[.int .i64 0, .int .i64 0, .slice none 0 0] from Blk.new X7.drew 75 #[.int .i64 0, .int .i64 0, .slice none 0 0])
    have HL8 := Lib.hid (show X7.heap.size ≤ X7.heap.size from HBW.out.size)
    have hbA : Below X7.drew.heap.size X7.drew ((X7.alloc (.cells #[.int .i64 0, .int .i64 0, .slice none 0 0] 75)).drew) := bal (bre X7.drew) (.cells #[.int .i64 0, .int .i64 0, .slice none 0 0] 75)
    replace HBW := Lib.hid (bstep HBW.out hbA); clear hbA
    refine hK.out _ _ (KW.out _ HBW.out) (fun _ => ?_); clear hK K
    refine wpAnyH_ready (rs := [2]) (by kernel_rfl) (by simp) ?_
    refine AllReadyH.cons rfl (fun K hK => ?_) AllReadyH.nil; go_simp
    refine (seenG_of (RW := 4) (RH := 3) (l := dws [exR, exD]) (ns := nodesW (dws [exR, exD])) (bs := bs) (fk := fk) (nk := nk) (n := 2) _ (HT.out.below HBW.out) (HPL.out.below HBW.out) (HSC.out.below HBW.out) (nodesW_ok ex_up.upOk) (fun _ h => h) ex_ok (by rw [nodesW_len]; decide) (by decide)).mono ?_
    rintro e wc3 ⟨v, og, rfl, hse, hbA⟩
    obtain ⟨Av, nv, cv, mv, rfl⟩ := hse.form
    have HSE := Lib.hid hse
    clear hse
    replace HBW := Lib.hid (bstep HBW.out hbA)
    replace KA8 := Lib.hid (KA8.out.belowS hbA); clear hbA; go_simp
    refine hK.out _ _ (KW.out _ HBW.out) (fun _ => ?_); clear hK K
    refine wpAnyH_ready (rs := [4]) (by kernel_rfl) (by simp) ?_
    refine AllReadyH.cons rfl (fun K hK => ?_) AllReadyH.nil; go_simp
    refine (show_any (.agg #[.slice Av nv cv, .map mv]) (.agg #[.map (some mc')]) 4 3 _ _ og 2 _ 4 3 _ (HSE.out.below (bre _)) (nodesW_ok ex_up.upOk) (HC.out.below HBW.out) (by decide) (by decide)).mono ?_
    rintro e wc5 ⟨Ag, cg, px, rfl, hrg, hcg, hsa, hbA⟩
    have hpx := ex_scr hsa (ex_its rfl)
    subst hpx
    have HRG := Lib.hid hrg
    have HCG := Lib.hid hcg
    clear hrg hcg hsa
    replace HBW := Lib.hid (bstep HBW.out hbA)
    replace KA8 := Lib.hid (KA8.out.belowS hbA)
    replace HSE := Lib.hid (HSE.out.below hbA); clear hbA; go_simp
    refine hK.out _ _ (KW.out _ HBW.out) (fun _ => ?_); clear hK K
    refine Tr.take_at 5 36 (.tuple #[.agg #[.int .i64 4, .int .i64 3, .slice Ag 12 cg], .int .i64 0]) rfl rfl (by kernel_rfl) (by kernel_rfl) (by kernel_rfl) (fun _ _ _ h => h) (Or.inl ⟨by rfl, ?_⟩) (by assumption) ?_
    ·
     intro W0 hSw
     (try dsimp only at hSw)
     go_simp
    simp only [List.set_cons_zero, List.set_cons_succ]
    refine Tr.take_at 6 42 (.agg #[.int .i64 4, .int .i64 3, .slice Ag 12 cg]) rfl rfl (by kernel_rfl) (by kernel_rfl) (by kernel_rfl) (fun _ _ _ h => h) (Or.inl ⟨by rfl, ?_⟩) (by assumption) ?_
    ·
     intro W0 hSw
     (try dsimp only at hSw)
     go_simp
    simp only [List.set_cons_zero, List.set_cons_succ]
    refine Tr.take_at 7 43 (.int .i64 0) rfl rfl (by kernel_rfl) (by kernel_rfl) (by kernel_rfl) (fun _ _ _ h => h) (Or.inl ⟨by rfl, ?_⟩) (by assumption) ?_
    ·
     intro W0 hSw
     (try dsimp only at hSw)
     go_simp
    simp only [List.set_cons_zero, List.set_cons_succ]
    refine wpAnyH_ready (rs := [9]) (by kernel_rfl) (by simp) ?_
    refine AllReadyH.cons rfl (fun K hK => ?_) AllReadyH.nil
    refine Tr.wanted_plain rfl ?_
    refine store_mid0 rfl 75 _ _ rfl (X7.heap.size) 0 #[.int .i64 4, .int .i64 3, .slice Ag 12 cg] (by rfl) (by rfl) (by have h := there_blk KA8.out; exact h) Tryz.sizeGr (by simp [Value.oneCell']) ?_
    have xK := blk_puts3 (.int .i64 4) (.int .i64 3) (.slice Ag 12 cg) KA8.out
    have xB := bsets HBW.out HL8.out (#[.int .i64 4, .int .i64 3, .slice Ag 12 cg] : Array Value).toList 0
    have xHRG := (show Rd (World.setCells (wc5) (X7.heap.size) 0 (#[.int .i64 4, .int .i64 3, .slice Ag 12 cg] : Array Value).toList) Ag 12 (Gr.U8 exP) from rd_nou8s (rd_nou8s (rd_nou8s HRG.out KA8.out (grid_no8s _ _ _ _ _) 0 (.int .i64 4)) (KA8.out.set_ 0 (.int .i64 4)) (grid_no8s _ _ _ _ _) 1 (.int .i64 3)) ((KA8.out.set_ 0 (.int .i64 4)).set_ 1 (.int .i64 3)) (grid_no8s _ _ _ _ _) 2 (.slice Ag 12 cg))
    obtain ⟨wS9, hwS⟩ : ∃ wS, World.setCells wc5 (X7.heap.size) 0 (#[.int .i64 4, .int .i64 3, .slice Ag 12 cg] : Array Value).toList = wS := ⟨_, rfl⟩
    rw [hwS] at xK xB xHRG ⊢
    replace HBW := Lib.hid xB
    replace KA8 := Lib.hid xK
    replace HRG := Lib.hid xHRG
    clear hwS xK xB xHRG
    refine hK.out _ _ (KW.out _ HBW.out) (fun _ => ?_); clear hK K
    refine Tr.take_at 10 10 (.int .i64 0) rfl rfl (by kernel_rfl) (by kernel_rfl) (by kernel_rfl) (fun _ _ _ h => h) (Or.inl ⟨by rfl, ?_⟩) (by assumption) ?_
    ·
     intro W0 hSw
     (try dsimp only at hSw)
     go_simp
    simp only [List.set_cons_zero, List.set_cons_succ]
    refine wpAnyH_done (by kernel_rfl) ?_ _
    refine NoPanic.normal ?_
    go_wp2_with fail
    go_meet
    exact ⟨_, Ag, cg, rfl, rfl, KA8.out, HRG.out, HCG.out, HBW.out⟩
 obtain ⟨g9, Ag, cg, rfl, rfl, a1, a2, a3, a4⟩ := hcut
 have y0 := a1.cellV (i := 0) (v := .int .i64 4) rfl
 have y1 := a1.cellV (i := 1) (v := .int .i64 3) rfl
 have y2 := a1.cellV (i := 2) (v := .slice Ag 12 cg) rfl
 have HRG := Lib.hid a2
 have HCG := Lib.hid a3
 replace HB := Lib.hid (bstep HB.out a4)
 clear a1 a2 a3 a4
 go_wp2_with fail
 refine (text_any 4 3 exP Ag 12 cg _ rfl (by decide) (by decide) HCG.out HRG.out exP_pix).mono ?_
 rintro e w8 ⟨rfl, hb8⟩
 rw [ex_text]
 go_wp2_with fail
 go_ret
 exact ⟨rfl, bstep HB.out hb8⟩
end Go.Proofs.YtdaedkolpfkdjaaGreat
end
