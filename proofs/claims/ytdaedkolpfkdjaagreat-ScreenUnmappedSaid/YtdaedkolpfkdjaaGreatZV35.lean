/-
  The walk of glazierlaw34.awake: the document's example.
  A slice of no elements, to which slices are appended in whatever order: an operation at a time, whatever world it meets.
-/
import Derived.Test.YtdaedkolpfkdjaaGreatZV33
import Derived.Test.YtdaedkolpfkdjaaGreatZV34
import Derived.Test.YtdaedkolpfkdjaaGreatZV28
import Derived.Test.YtdaedkolpfkdjaaGreatZV29
import Derived.Maps.AppendAt
section
namespace Go.Proofs.YtdaedkolpfkdjaaGreat
open Go.RowKit Go.Maps Go.Shelf

def exR : R34 := ⟨-1, 0, 0, 4, 3, true, false, none, 0, 0, none, 0, 0, [], List.replicate 12 1⟩
def exD : R34 := ⟨0, 1, 1, 2, 2, true, false, none, 0, 0, none, 0, 0, [], List.replicate 4 9⟩
def exP : List Int := [1, 1, 1, 1, 1, 9, 9, 1, 1, 9, 9, 1]
theorem ex_up : UpR [exR, exD] := fun j d hd hj => by
 match j, hd with
 | 0, _ => omega
 | 1, hd =>
  obtain rfl : exD = d := by simpa using hd
  decide
 | j + 2, hd => simp at hd
theorem exD_ok : DWok exD.dw := ⟨by decide, by decide, by decide, by decide, fun _ => rfl, by decide, fun r hr => by cases hr⟩
theorem ex_ok : ∀ d ∈ dws [exR, exD], DWok d := fun d hd => by
 obtain rfl : d = exD.dw := by simpa [dws] using hd
 exact exD_ok
set_option maxRecDepth 100000 in
theorem ex_pix : ∀ x, x < 4 → ∀ y, y < 3 → Gr.gat 4 3 exP (x : Nat) (y : Nat) = pixD [exR, exD] 4 3 (x : Nat) (y : Nat) := by decide +kernel
set_option maxRecDepth 100000 in
theorem ex_text : (⟨(textB 4 3 exP).toArray⟩ : ByteArray) = ⟨#[48, 49, 48, 49, 48, 49, 48, 49, 10, 48, 49, 48, 57, 48, 57, 48, 49, 10, 48, 49, 48, 57, 48, 57, 48, 49, 10]⟩ := by decide +kernel
theorem ex_its {cs : Its} {A B : Option Addr} {c e : Nat} (h : cs = Its.put (Its.put (fun _ => none) 1 ⟨4, 3, A, 12, c, 1, true, true, List.replicate 12 1⟩) 1048577 ⟨2, 2, B, 4, e, 9, true, false, List.replicate 4 9⟩) : ItsOf [exR, exD] cs := fun j d hd => by
 subst h
 match j, hd with
 | 0, hd =>
  obtain rfl : exR = d := by simpa using hd
  exact ⟨_, rfl, rfl, rfl, rfl⟩
 | 1, hd =>
  obtain rfl : exD = d := by simpa using hd
  exact ⟨_, rfl, rfl, rfl, rfl⟩
 | j + 2, hd => simp at hd
theorem ex_scr {cs : Its} {px : List Int} (hs : ScrAt 4 3 4 3 (nodesW (dws [exR, exD])) (bxS 4 3 (dws [exR, exD])) cs (ordW (nodesW (dws [exR, exD])) (bxS 4 3 (dws [exR, exD])) 1) px) (hc : ItsOf [exR, exD] cs) : px = exP := by
 refine px_ext (W := 4) (H := 3) hs.len rfl (fun x y hx hy => ?_)
 exact (hs.all (nodesW_ok ex_up.upOk) x y hx hy).trans ((scr_doc (RW := 4) (RH := 3) ex_up (r := exR) rfl ⟨rfl, rfl⟩ hc x y).trans (ex_pix x hx y hy).symm)
theorem exP_pix : Gr.Pix exP := fun p hp => by
 simp only [exP, List.mem_cons, List.not_mem_nil, or_false] at hp
 omega
theorem noI1 (m : Option Nat) : NoI #[.map m] := fun j k x => by
 match j with
 | 0 => simp
 | j + 1 => simp
theorem blk_puts3 {w : World} {g : Nat} {t : TypeId} {a0 a1 a2 : Value} (b0 b1 b2 : Value) (h : Blk w g t #[a0, a1, a2]) : Blk (World.setCells w g 0 (#[b0, b1, b2] : Array Value).toList) g t #[b0, b1, b2] := by
 have := blk_all (t := t) [b0, b1, b2] 0 w [a0, a1, a2] h (by simp)
 simpa using this
set_option maxRecDepth 100000 in
theorem Tryz.sizeGr : (Tryz.prog.info? 75).map (·.size) = some 3 := by kernel_rfl
theorem ex_box (W0 : World) : BoxOf W0 exD.dw ⟨1, 1, 2, 2, true, 0, 0, false, none, 0, 0⟩ := ⟨⟨rfl, rfl, rfl, rfl, rfl, rfl⟩, [], reg_nil W0 0, fun _ _ => rfl⟩
set_option maxRecDepth 100000 in
set_option maxHeartbeats 8000000 in
theorem awake34_any (w : World) : Calls Tryz.prog 34 #[] w fun e w' => e = .returned (.bool true) ∧ Below w.heap.size w w' := by
 go_enter Tryz.func34, Tryz.ntmps34
 go_wp2_with fail
 refine (tnew_any _).mono ?_
 rintro e w1 ⟨rfl, hb1⟩
 have HB := Lib.hid hb1
 clear hb1
 go_wp2_with fail
 refine (tadd_own (.agg #[.map none, .map none]) [] none none 0 (fun _ => none) 1048577 1 _ (by decide) (by decide) (tree_new _) (by decide) (by decide) (by decide) (by decide)).mono ?_
 rintro e w2 ⟨⟨kb, ub, nk, fk, rfl, ht⟩, hb2⟩
 have HT := Lib.hid (show TreeIs w2 (.agg #[.map (some kb), .map (some ub)]) (nodesW (dws [exR, exD])) (some kb) (some ub) nk fk from ht.tree)
 replace HB := Lib.hid (bstep HB.out hb2)
 clear ht hb2
 have ha := bal (bre w2) (.cells #[.map (some kb), .map (some ub)] 37)
 have xk := Blk.new w2 37 #[.map (some kb), .map (some ub)]
 have z0 := bstep HB.out ha
 have z1 := HT.out.below ha
 clear ha
 go_upto_region 2 with fail
 obtain ⟨g1, hg1⟩ : ∃ g, w2.heap.size = g := ⟨_, rfl⟩
 obtain ⟨X1, hX1⟩ : ∃ X, w2.alloc (.cells #[.map (some kb), .map (some ub)] 37) = X := ⟨_, rfl⟩
 rw [hX1] at z0 z1 xk ⊢
 rw [hg1] at xk ⊢
 replace HB := Lib.hid z0
 have K1 := Lib.hid xk
 replace HT := Lib.hid z1
 clear z0 z1 xk hX1
 clear hg1
 go_wp2_with fail
 refine (pnew_any 4 3 _ (by decide) (by decide)).mono ?_
 rintro e w3 ⟨pv, rfl, hp, hb3⟩
 have hp0 := hp
 obtain ⟨mp, rfl, _⟩ := hp0
 have HP := Lib.hid hp
 replace HB := Lib.hid (bstep HB.out hb3)
 replace HT := Lib.hid (HT.out.below hb3)
 replace K1 := Lib.hid (K1.out.belowS hb3)
 have HN13 := Lib.hid (Nat.lt_of_lt_of_le K1.out.lt (Nat.le_refl _))
 clear hp hb3
 have ha := bal (bre w3) (.cells #[.map mp] 40)
 have xk := Blk.new w3 40 #[.map mp]
 have z0 := bstep HB.out ha
 have z1 := HT.out.below ha
 have z2 := K1.out.belowS ha
 have z3 := HP.out.below ha
 clear ha
 go_upto_region 3 with fail
 have hn13 := HN13.out
 have hb0 := HB.out.size
 obtain ⟨g3, hg3⟩ : ∃ g, w3.heap.size = g := ⟨_, rfl⟩
 obtain ⟨X3, hX3⟩ : ∃ X, w3.alloc (.cells #[.map mp] 40) = X := ⟨_, rfl⟩
 rw [hX3] at z0 z1 z2 z3 xk ⊢
 rw [hg3] at xk ⊢
 replace HB := Lib.hid z0
 have K3 := Lib.hid xk
 replace HT := Lib.hid z1
 replace K1 := Lib.hid z2
 replace HP := Lib.hid z3
 clear z0 z1 z2 z3 xk hX3
 rw [hg3] at hn13 hb0
 have HN1 := Lib.hid (show g1 ≠ g3 by omega)
 have HG3 := Lib.hid hb0
 clear hg3 hn13 hb0 HN13
 have c0 := K3.out.cellV (i := 0) (v := .map mp) rfl
 go_wp2_with (refine wpList_bld rfl #[.int .i64 1, .int .i64 1, .int .i64 2, .int .i64 2, .bool true, .int .i64 0, .int .i64 0, .bool false, .slice none 0 0] (by as_aux_lemma => kernel_rfl) ?_)
 have hset := set_34 (l := [exR]) (d := exD) (RW := 4) (RH := 3) (b := ⟨1, 1, 2, 2, true, 0, 0, false, none, 0, 0⟩) (SceneIs.nil (w := X3)) (by decide) (by decide) exD_ok (ex_box X3) ⟨rfl, rfl⟩ (fun _ => rfl)
 refine (pset_any (.agg #[.map mp]) 1 (fun i => if i = 1 then some (rootBX 4 3) else none) 1048577 ⟨1, 1, 2, 2, true, 0, 0, false, none, 0, 0⟩ _ (by decide) (by decide) HP.out (fun h => by omega)).mono ?_
 rintro e w4 ⟨pv', rfl, hp', hb4⟩
 rw [show setC (fun i => if i = 1 then some (rootBX 4 3) else none) 1 1048577 ⟨1, 1, 2, 2, true, 0, 0, false, none, 0, 0⟩ = 0 from hset.1]
 have e2 : setN (fun i => if i = 1 then some (rootBX 4 3) else none) 1 1048577 ⟨1, 1, 2, 2, true, 0, 0, false, none, 0, 0⟩ = 2 := hset.2.1
 have e3 : setB (fun i => if i = 1 then some (rootBX 4 3) else none) 1 1048577 ⟨1, 1, 2, 2, true, 0, 0, false, none, 0, 0⟩ = fun j => if j = idW ((dws [exR]).length : Nat) then some ⟨1, 1, 2, 2, true, 0, 0, false, none, 0, 0⟩ else (if j = 1 then some (rootBX 4 3) else none) := hset.2.2
 rw [e2, e3] at hp'
 have hp0 := hp'
 obtain ⟨mp', rfl, _⟩ := hp0
 have HMP := Lib.hid (show MP w4 [exR, exD] mp' 4 3 from mp_step (l := [exR]) (d := exD) (by decide) hp' SceneIs.nil (ex_box w4))
 replace HB := Lib.hid (bstep HB.out hb4)
 replace HT := Lib.hid (HT.out.below hb4)
 replace K1 := Lib.hid (K1.out.belowS hb4)
 replace K3 := Lib.hid (K3.out.belowS hb4)
 clear hp' e2 e3 hset hb4 HP c0
 have c0 := K3.out.cellV (i := 0) (v := .map mp) rfl
 have f0 := K3.out.frozen 0
 have l3 := K3.out.lt
 have noi : NoI #[.map mp] := noI1 mp
 have z0 := bset (p := ⟨g3, 0, none⟩) HB.out HG3.out (.map mp')
 have z1 := HT.out.setBlk K3.out (fun j x => noi j .u32 x) 0 (.map mp')
 have z2 := K1.out.far (p := ⟨g3, 0, none⟩) HN1.out (.map mp')
 have z3 := K3.out.set_ 0 (.map mp')
 have z4 := HMP.out.set K3.out noi 0 (.map mp')
 go_upto_region 4 with fail
 obtain ⟨X4, hX⟩ : ∃ X, w4.setCell ⟨g3, 0, none⟩ (.map mp') = X := ⟨_, rfl⟩
 rw [hX] at z0 z1 z2 z3 z4 ⊢
 replace HB := Lib.hid z0
 replace HT := Lib.hid z1
 replace K1 := Lib.hid z2
 replace K3 := Lib.hid (show Blk X4 g3 40 #[.map mp'] from z3)
 replace HMP := Lib.hid z4
 clear z0 z1 z2 z3 z4 hX c0 f0 l3 noi
 go_wp2_with fail
 refine (copen_ok (.agg #[.map none]) 0 (fun _ => none) 1 4 3 1 true _ (by decide) (canvas_nil _) (by decide) (by decide) (by decide) (by decide) rfl (by decide)).mono ?_
 rintro e w5 ⟨mc, A5, c5, rfl, hc, _, hb5⟩
 have HC := Lib.hid hc
 replace HB := Lib.hid (bstep HB.out hb5)
 replace HT := Lib.hid (HT.out.below hb5)
 replace K1 := Lib.hid (K1.out.belowS hb5)
 replace K3 := Lib.hid (K3.out.belowS hb5)
 replace HMP := Lib.hid (HMP.out.below hb5)
 clear hc hb5
 have ha := bal (bre w5) (.cells #[.map (some mc)] 67)
 have xk := Blk.new w5 67 #[.map (some mc)]
 have z0 := bstep HB.out ha
 have z1 := HT.out.below ha
 have z2 := K1.out.belowS ha
 have z3 := K3.out.belowS ha
 have z4 := HMP.out.below ha
 have z5 := HC.out.below ha
 clear ha
 have hn1 := K1.out.lt
 have hn3 := K3.out.lt
 have hb0 := HB.out.size
 go_upto_region 5 with fail
 obtain ⟨g6, hg6⟩ : ∃ g, w5.heap.size = g := ⟨_, rfl⟩
 obtain ⟨X6, hX6⟩ : ∃ X, w5.alloc (.cells #[.map (some mc)] 67) = X := ⟨_, rfl⟩
 rw [hX6] at z0 z1 z2 z3 z4 z5 xk ⊢
 rw [hg6] at xk ⊢
 replace HB := Lib.hid z0
 have K6 := Lib.hid xk
 replace HT := Lib.hid z1
 replace K1 := Lib.hid z2
 replace K3 := Lib.hid z3
 replace HMP := Lib.hid z4
 replace HC := Lib.hid z5
 clear z0 z1 z2 z3 z4 z5 xk hX6
 rw [hg6] at hn1 hn3 hb0
 have HN16 := Lib.hid (show g1 ≠ g6 by omega)
 have HN36 := Lib.hid (show g3 ≠ g6 by omega)
 have HG6 := Lib.hid hb0
 clear hg6 hn1 hn3 hb0
 have c0 := K6.out.cellV (i := 0) (v := .map (some mc)) rfl
 go_wp2_with fail
 refine (copen_ok (.agg #[.map (some mc)]) 1 _ 1048577 2 2 9 false _ (by decide) HC.out (by decide) (by decide) (by decide) (by decide) rfl (by decide)).mono ?_
 rintro e w6 ⟨mc', A6, c6, rfl, hc, _, hb6⟩
 replace HC := Lib.hid hc
 replace HB := Lib.hid (bstep HB.out hb6)
 replace HT := Lib.hid (HT.out.below hb6)
 replace K1 := Lib.hid (K1.out.belowS hb6)
 replace K3 := Lib.hid (K3.out.belowS hb6)
 replace K6 := Lib.hid (K6.out.belowS hb6)
 replace HMP := Lib.hid (HMP.out.below hb6)
 clear hc hb6 c0
 have c0 := K6.out.cellV (i := 0) (v := .map (some mc)) rfl
 have f0 := K6.out.frozen 0
 have l6 := K6.out.lt
 have noi : NoI #[.map (some mc)] := noI1 (some mc)
 have z0 := bset (p := ⟨g6, 0, none⟩) HB.out HG6.out (.map (some mc'))
 have z1 := HT.out.setBlk K6.out (fun j x => noi j .u32 x) 0 (.map (some mc'))
 have z2 := K1.out.far (p := ⟨g6, 0, none⟩) HN16.out (.map (some mc'))
 have z3 := K3.out.far (p := ⟨g6, 0, none⟩) HN36.out (.map (some mc'))
 have z4 := HMP.out.set K6.out noi 0 (.map (some mc'))
 have z5 := HC.out.setX K6.out noi 0 (.map (some mc'))
 have z6 := K6.out.set_ 0 (.map (some mc'))
 go_upto_region 6 with fail
 obtain ⟨X7, hX⟩ : ∃ X, w6.setCell ⟨g6, 0, none⟩ (.map (some mc')) = X := ⟨_, rfl⟩
 rw [hX] at z0 z1 z2 z3 z4 z5 z6 ⊢
 replace HB := Lib.hid z0
 replace HT := Lib.hid z1
 replace K1 := Lib.hid z2
 replace K3 := Lib.hid z3
 replace HMP := Lib.hid z4
 replace HC := Lib.hid z5
 replace K6 := Lib.hid (show Blk X7 g6 67 #[.map (some mc')] from z6)
 clear z0 z1 z2 z3 z4 z5 z6 hX c0 f0 l6 noi
 obtain ⟨_, bs, hpl, hsc⟩ := HMP.out.resolve_left (fun h => by cases h.1)
 have HPL := Lib.hid hpl
 have HSC := Lib.hid hsc
 clear hpl hsc
 go_cut [9, 10] from 37 to 43 (fun s9 s10 wx => ∃ (g : Nat) (A : Option Addr) (c : Nat), s9 = .pointer (some ⟨g, 0, none⟩) ∧ s10 = .int .i64 0 ∧ Blk wx g 75 #[.int .i64 4, .int .i64 3, .slice A 12 c] ∧ Rd wx A 12 (Gr.U8 exP) ∧ 12 ≤ c ∧ Below X7.heap.size X7 wx)
 case first =>
  as_aux_lemma =>
   have HBW := Lib.hid (show Below X7.heap.size X7 X7.drew from (bre X7).drew)
   have KW := Lib.hid (fun (W' : World) (h : Below X7.heap.size X7 W') => show (fun w' => w'.cell? ⟨g1, 0, none⟩ = some (.map (some kb)) ∧ w'.cell? ⟨g1, 1, none⟩ = some (.map (some ub)) ∧ w'.cell? ⟨g3, 0, none⟩ = some (.map mp') ∧ w'.cell? ⟨g6, 0, none⟩ = some (.map (some mc'))) W' from ⟨(K1.out.belowS h).cellV (i := 0) rfl, (K1.out.belowS h).cellV (i := 1) rfl, (K3.out.belowS h).cellV (i := 0) rfl, (K6.out.belowS h).cellV (i := 0) rfl⟩)
   refine wp_region_noPanic ?_
   refine wp_region_held_drew (S := (fun w' => w'.cell? ⟨g1, 0, none⟩ = some (.map (some kb)) ∧ w'.cell? ⟨g1, 1, none⟩ = some (.map (some ub)) ∧ w'.cell? ⟨g3, 0, none⟩ = some (.map mp') ∧ w'.cell? ⟨g6, 0, none⟩ = some (.map (some mc')))) (by kernel_rfl) ?_ (fun _ => ?_)
   ·
    (try dsimp only)
    exact ⟨(K1.out.belowS HBW.out).cellV (i := 0) rfl, (K1.out.belowS HBW.out).cellV (i := 1) rfl, (K3.out.belowS HBW.out).cellV (i := 0) rfl, (K6.out.belowS HBW.out).cellV (i := 0) rfl⟩
   refine Tr.take_at 0 37 (.agg #[.map (some kb), .map (some ub)]) rfl rfl (by kernel_rfl) (by kernel_rfl) (by kernel_rfl) (fun _ _ _ h => h) (Or.inl ⟨by rfl, ?_⟩) (by assumption) ?_
   ·
    intro W0 hSw
    (try dsimp only at hSw)
    go_simp
   simp only [List.set_cons_zero, List.set_cons_succ]
   refine Tr.take_at 1 38 (.agg #[.map mp']) rfl rfl (by kernel_rfl) (by kernel_rfl) (by kernel_rfl) (fun _ _ _ h => h) (Or.inl ⟨by rfl, ?_⟩) (by assumption) ?_
   ·
    intro W0 hSw
    (try dsimp only at hSw)
    go_simp
   simp only [List.set_cons_zero, List.set_cons_succ]
   refine Tr.take_at 3 40 (.agg #[.map (some mc')]) rfl rfl (by kernel_rfl) (by kernel_rfl) (by kernel_rfl) (fun _ _ _ h => h) (Or.inl ⟨by rfl, ?_⟩) (by assumption) ?_
   ·
    intro W0 hSw
    (try dsimp only at hSw)
    go_simp
   simp only [List.set_cons_zero, List.set_cons_succ]
   refine wpAnyH_ready (rs := [2, 8]) (by kernel_rfl) (by simp) ?_
   refine AllReadyH.cons rfl (fun K hK => ?_) (AllReadyH.cons rfl (fun K hK => ?_) AllReadyH.nil)
   ·
    go_simp
    refine (seenG_of (RW := 4) (RH := 3) (l := dws [exR, exD]) (ns := nodesW (dws [exR, exD])) (bs := bs) (fk := fk) (nk := nk) (n := 2) _ (HT.out.below HBW.out) (HPL.out.below HBW.out) (HSC.out.below HBW.out) (nodesW_ok ex_up.upOk) (fun _ h => h) ex_ok (by rw [nodesW_len]; decide) (by decide)).mono ?_
    rintro e wc3 ⟨v, og, rfl, hse, hbA⟩
    obtain ⟨Av, nv, cv, mv, rfl⟩ := hse.form
    have HSE := Lib.hid hse
    clear hse
    replace HBW := Lib.hid (bstep HBW.out hbA); clear hbA; go_simp
    refine hK.out _ _ (KW.out _ HBW.out) (fun _ => ?_); clear hK K
    refine wpAnyH_ready (rs := [4, 8]) (by kernel_rfl) (by simp) ?_
    refine AllReadyH.cons rfl (fun K hK => ?_) (AllReadyH.cons rfl (fun K hK => ?_) AllReadyH.nil)
    ·
     go_simp
     refine (show_any (.agg #[.slice Av nv cv, .map mv]) (.agg #[.map (some mc')]) 4 3 _ _ og 2 _ 4 3 _ (HSE.out.below (bre _)) (nodesW_ok ex_up.upOk) (HC.out.below HBW.out) (by decide) (by decide)).mono ?_
     rintro e wc5 ⟨Ag, cg, px, rfl, hrg, hcg, hsa, hbA⟩
     have hpx := ex_scr hsa (ex_its rfl)
     subst hpx
     have HRG := Lib.hid hrg
     have HCG := Lib.hid hcg
     clear hrg hcg hsa
     replace HBW := Lib.hid (bstep HBW.out hbA)
     replace HSE := Lib.hid (HSE.out.below hbA); clear hbA; go_simp
     refine hK.out _ _ (KW.out _ HBW.out) (fun _ => ?_); clear hK K
     refine Tr.take_at 5 36 (.tuple #[.agg #[.int .i64 4, .int .i64 3, .slice Ag 12 cg], .int .i64 0]) rfl rfl (by kernel_rfl) (by kernel_rfl) (by kernel_rfl) (fun _ _ _ h => h) (Or.inl ⟨by rfl, ?_⟩) (by assumption) ?_
     ·
      intro W0 hSw
      (try dsimp only at hSw)
      go_simp
     simp only [List.set_cons_zero, List.set_cons_succ]
     refine Tr.take_at 6 42 (.agg #[.int .i64 4, .int .i64 3, .slice Ag 12 cg]) rfl rfl (by kernel_rfl) (by kernel_rfl) (by kernel_rfl) (fun _ _ _ h => h) (Or.inl ⟨by rfl, ?_⟩) (by assumption) ?_
     ·
      intro W0 hSw
      (try dsimp only at hSw)
      go_simp
     simp only [List.set_cons_zero, List.set_cons_succ]
     refine Tr.take_at 7 43 (.int .i64 0) rfl rfl (by kernel_rfl) (by kernel_rfl) (by kernel_rfl) (fun _ _ _ h => h) (Or.inl ⟨by rfl, ?_⟩) (by assumption) ?_
     ·
      intro W0 hSw
      (try dsimp only at hSw)
      go_simp
     simp only [List.set_cons_zero, List.set_cons_succ]
     refine wpAnyH_ready (rs := [8]) (by kernel_rfl) (by simp) ?_
     refine AllReadyH.cons rfl (fun K hK => ?_) AllReadyH.nil; go_simp
     have KA8 := Lib.hid (show Blk (wc5.alloc (.cells #[.int .i64 0, .int .i64 0, .slice none 0 0] 75)) (wc5.heap.size) 75 #[.int .i64 0, .int .i64 0, .slice none 0 0] from Blk.new wc5 75 #[.int .i64 0, .int .i64 0, .slice none 0 0])
     have HL8 := Lib.hid (show X7.heap.size ≤ wc5.heap.size from HBW.out.size)
     have hbA : Below wc5.heap.size wc5 ((wc5.alloc (.cells #[.int .i64 0, .int .i64 0, .slice none 0 0] 75))) := bal (bre wc5) (.cells #[.int .i64 0, .int .i64 0, .slice none 0 0] 75)
     replace HBW := Lib.hid (bstep HBW.out hbA)
     replace HRG := Lib.hid (HRG.out.below hbA); clear hbA
     refine hK.out _ _ (KW.out _ HBW.out) (fun _ => ?_); clear hK K
     refine wpAnyH_ready (rs := [9]) (by kernel_rfl) (by simp) ?_
     refine AllReadyH.cons rfl (fun K hK => ?_) AllReadyH.nil
     refine Tr.wanted_plain rfl ?_
     refine store_mid0 rfl 75 _ _ rfl (wc5.heap.size) 0 #[.int .i64 4, .int .i64 3, .slice Ag 12 cg] (by rfl) (by rfl) (by have h := there_blk KA8.out; exact h) Tryz.sizeGr (by simp [Value.oneCell']) ?_
     have xK := blk_puts3 (.int .i64 4) (.int .i64 3) (.slice Ag 12 cg) KA8.out
     have xB := bsets HBW.out HL8.out (#[.int .i64 4, .int .i64 3, .slice Ag 12 cg] : Array Value).toList 0
     have xHRG := (show Rd (World.setCells (wc5.alloc (.cells #[.int .i64 0, .int .i64 0, .slice none 0 0] 75)) (wc5.heap.size) 0 (#[.int .i64 4, .int .i64 3, .slice Ag 12 cg] : Array Value).toList) Ag 12 (Gr.U8 exP) from rd_nou8s (rd_nou8s (rd_nou8s HRG.out KA8.out (grid_no8s _ _ _ _ _) 0 (.int .i64 4)) (KA8.out.set_ 0 (.int .i64 4)) (grid_no8s _ _ _ _ _) 1 (.int .i64 3)) ((KA8.out.set_ 0 (.int .i64 4)).set_ 1 (.int .i64 3)) (grid_no8s _ _ _ _ _) 2 (.slice Ag 12 cg))
     obtain ⟨wS9, hwS⟩ : ∃ wS, World.setCells (wc5.alloc (.cells #[.int .i64 0, .int .i64 0, .slice none 0 0] 75)) (wc5.heap.size) 0 (#[.int .i64 4, .int .i64 3, .slice Ag 12 cg] : Array Value).toList = wS := ⟨_, rfl⟩
     rw [hwS] at xK xB xHRG ⊢
     replace HBW := Lib.hid xB
     replace KA8 := Lib.hid xK
     replace HRG := Lib.hid xHRG
     clear hwS xK xB xHRG
     refine hK.out _ _ (KW.out _ HBW.out) (fun _ => ?_); clear hK K
     refine Tr.take_at 10 10 (.int .i64 0) rfl rfl (by kernel_rfl) (by kernel_rfl) (by kernel_rfl) (fun _ _ _ h => h) (Or.inl ⟨by rfl, ?_⟩) (by assumption) ?_
     ·
      intro W0 hSw
      (try dsimp only at hSw)
      go_simp
     simp only [List.set_cons_zero, List.set_cons_succ]
     refine wpAnyH_done (by kernel_rfl) ?_ _
     refine NoPanic.normal ?_
     go_wp2_with fail
     go_meet
     exact ⟨_, Ag, cg, rfl, rfl, KA8.out, HRG.out, HCG.out, HBW.out⟩
    ·
     go_simp
     have KA8 := Lib.hid (show Blk (wc3.alloc (.cells #[.int .i64 0, .int .i64 0, .slice none 0 0] 75)) (wc3.heap.size) 75 #[.int .i64 0, .int .i64 0, .slice none 0 0] from Blk.new wc3 75 #[.int .i64 0, .int .i64 0, .slice none 0 0])
     have HL8 := Lib.hid (show X7.heap.size ≤ wc3.heap.size from HBW.out.size)
     have hbA : Below wc3.heap.size wc3 ((wc3.alloc (.cells #[.int .i64 0, .int .i64 0, .slice none 0 0] 75))) := bal (bre wc3) (.cells #[.int .i64 0, .int .i64 0, .slice none 0 0] 75)
     replace HBW := Lib.hid (bstep HBW.out hbA)
     replace HSE := Lib.hid (HSE.out.below hbA); clear hbA
     refine hK.out _ _ (KW.out _ HBW.out) (fun _ => ?_); clear hK K
     refine wpAnyH_ready (rs := [4]) (by kernel_rfl) (by simp) ?_
     refine AllReadyH.cons rfl (fun K hK => ?_) AllReadyH.nil; go_simp
     refine (show_any (.agg #[.slice Av nv cv, .map mv]) (.agg #[.map (some mc')]) 4 3 _ _ og 2 _ 4 3 _ (HSE.out.below (bre _)) (nodesW_ok ex_up.upOk) (HC.out.below HBW.out) (by decide) (by decide)).mono ?_
     rintro e wc5 ⟨Ag, cg, px, rfl, hrg, hcg, hsa, hbA⟩
     have hpx := ex_scr hsa (ex_its rfl)
     subst hpx
     have HRG := Lib.hid hrg
     have HCG := Lib.hid hcg
     clear hrg hcg hsa
     replace HBW := Lib.hid (bstep HBW.out hbA)
     replace KA8 := Lib.hid (KA8.out.belowS hbA)
     replace HSE := Lib.hid (HSE.out.below hbA); clear hbA; go_simp
     refine hK.out _ _ (KW.out _ HBW.out) (fun _ => ?_); clear hK K
     refine Tr.take_at 5 36 (.tuple #[.agg #[.int .i64 4, .int .i64 3, .slice Ag 12 cg], .int .i64 0]) rfl rfl (by kernel_rfl) (by kernel_rfl) (by kernel_rfl) (fun _ _ _ h => h) (Or.inl ⟨by rfl, ?_⟩) (by assumption) ?_
     ·
      intro W0 hSw
      (try dsimp only at hSw)
      go_simp
     simp only [List.set_cons_zero, List.set_cons_succ]
     refine Tr.take_at 6 42 (.agg #[.int .i64 4, .int .i64 3, .slice Ag 12 cg]) rfl rfl (by kernel_rfl) (by kernel_rfl) (by kernel_rfl) (fun _ _ _ h => h) (Or.inl ⟨by rfl, ?_⟩) (by assumption) ?_
     ·
      intro W0 hSw
      (try dsimp only at hSw)
      go_simp
     simp only [List.set_cons_zero, List.set_cons_succ]
     refine Tr.take_at 7 43 (.int .i64 0) rfl rfl (by kernel_rfl) (by kernel_rfl) (by kernel_rfl) (fun _ _ _ h => h) (Or.inl ⟨by rfl, ?_⟩) (by assumption) ?_
     ·
      intro W0 hSw
      (try dsimp only at hSw)
      go_simp
     simp only [List.set_cons_zero, List.set_cons_succ]
     refine wpAnyH_ready (rs := [9]) (by kernel_rfl) (by simp) ?_
     refine AllReadyH.cons rfl (fun K hK => ?_) AllReadyH.nil
     refine Tr.wanted_plain rfl ?_
     refine store_mid0 rfl 75 _ _ rfl (wc3.heap.size) 0 #[.int .i64 4, .int .i64 3, .slice Ag 12 cg] (by rfl) (by rfl) (by have h := there_blk KA8.out; exact h) Tryz.sizeGr (by simp [Value.oneCell']) ?_
     have xK := blk_puts3 (.int .i64 4) (.int .i64 3) (.slice Ag 12 cg) KA8.out
     have xB := bsets HBW.out HL8.out (#[.int .i64 4, .int .i64 3, .slice Ag 12 cg] : Array Value).toList 0
     have xHRG := (show Rd (World.setCells (wc5) (wc3.heap.size) 0 (#[.int .i64 4, .int .i64 3, .slice Ag 12 cg] : Array Value).toList) Ag 12 (Gr.U8 exP) from rd_nou8s (rd_nou8s (rd_nou8s HRG.out KA8.out (grid_no8s _ _ _ _ _) 0 (.int .i64 4)) (KA8.out.set_ 0 (.int .i64 4)) (grid_no8s _ _ _ _ _) 1 (.int .i64 3)) ((KA8.out.set_ 0 (.int .i64 4)).set_ 1 (.int .i64 3)) (grid_no8s _ _ _ _ _) 2 (.slice Ag 12 cg))
     obtain ⟨wS9, hwS⟩ : ∃ wS, World.setCells wc5 (wc3.heap.size) 0 (#[.int .i64 4, .int .i64 3, .slice Ag 12 cg] : Array Value).toList = wS := ⟨_, rfl⟩
     rw [hwS] at xK xB xHRG ⊢
     replace HBW := Lib.hid xB
     replace KA8 := Lib.hid xK
     replace HRG := Lib.hid xHRG
     clear hwS xK xB xHRG
     refine hK.out _ _ (KW.out _ HBW.out) (fun _ => ?_); clear hK K
     refine Tr.take_at 10 10 (.int .i64 0) rfl rfl (by kernel_rfl) (by kernel_rfl) (by kernel_rfl) (fun _ _ _ h => h) (Or.inl ⟨by rfl, ?_⟩) (by assumption) ?_
     ·
      intro W0 hSw
      (try dsimp only at hSw)
      go_simp
     simp only [List.set_cons_zero, List.set_cons_succ]
     refine wpAnyH_done (by kernel_rfl) ?_ _
     refine NoPanic.normal ?_
     go_wp2_with fail
     go_meet
     exact ⟨_, Ag, cg, rfl, rfl, KA8.out, HRG.out, HCG.out, HBW.out⟩
   ·
    go_simp
    have KA8 := Lib.hid (show Blk (X7.alloc (.cells #[.int .i64 0, .int .i64 0, .slice none 0 0] 75)).drew (X7.heap.size) 75 #[.int .i64 0, .int .i64 0, .slice none 0 0] from Blk.new X7.drew 75 #[.int .i64 0, .int .i64 0, .slice none 0 0])
    have HL8 := Lib.hid (show X7.heap.size ≤ X7.heap.size from HBW.out.size)
    have hbA : Below X7.drew.heap.size X7.drew ((X7.alloc (.cells #[.int .i64 0, .int .i64 0, .slice none 0 0] 75)).drew) := bal (bre X7.drew) (.cells #[.int .i64 0, .int .i64 0, .slice none 0 0] 75)
    replace HBW := Lib.hid (bstep HBW.out hbA); clear hbA
    refine hK.out _ _ (KW.out _ HBW.out) (fun _ => ?_); clear hK K
    refine wpAnyH_ready (rs := [2]) (by kernel_rfl) (by simp) ?_
    refine AllReadyH.cons rfl (fun K hK => ?_) AllReadyH.nil; go_simp
    refine (seenG_of (RW := 4) (RH := 3) (l := dws [exR, exD]) (ns := nodesW (dws [exR, exD])) (bs := bs) (fk := fk) (nk := nk) (n := 2) _ (HT.out.below HBW.out) (HPL.out.below HBW.out) (HSC.out.below HBW.out) (nodesW_ok ex_up.upOk) (fun _ h => h) ex_ok (by rw [nodesW_len]; decide) (by decide)).mono ?_
    rintro e wc3 ⟨v, og, rfl, hse, hbA⟩
    obtain ⟨Av, nv, cv, mv, rfl⟩ := hse.form
    have HSE := Lib.hid hse
    clear hse
    replace HBW := Lib.hid (bstep HBW.out hbA)
    replace KA8 := Lib.hid (KA8.out.belowS hbA); clear hbA; go_simp
    refine hK.out _ _ (KW.out _ HBW.out) (fun _ => ?_); clear hK K
    refine wpAnyH_ready (rs := [4]) (by kernel_rfl) (by simp) ?_
    refine AllReadyH.cons rfl (fun K hK => ?_) AllReadyH.nil; go_simp
    refine (show_any (.agg #[.slice Av nv cv, .map mv]) (.agg #[.map (some mc')]) 4 3 _ _ og 2 _ 4 3 _ (HSE.out.below (bre _)) (nodesW_ok ex_up.upOk) (HC.out.below HBW.out) (by decide) (by decide)).mono ?_
    rintro e wc5 ⟨Ag, cg, px, rfl, hrg, hcg, hsa, hbA⟩
    have hpx := ex_scr hsa (ex_its rfl)
    subst hpx
    have HRG := Lib.hid hrg
    have HCG := Lib.hid hcg
    clear hrg hcg hsa
    replace HBW := Lib.hid (bstep HBW.out hbA)
    replace KA8 := Lib.hid (KA8.out.belowS hbA)
    replace HSE := Lib.hid (HSE.out.below hbA); clear hbA; go_simp
    refine hK.out _ _ (KW.out _ HBW.out) (fun _ => ?_); clear hK K
    refine Tr.take_at 5 36 (.tuple #[.agg #[.int .i64 4, .int .i64 3, .slice Ag 12 cg], .int .i64 0]) rfl rfl (by kernel_rfl) (by kernel_rfl) (by kernel_rfl) (fun _ _ _ h => h) (Or.inl ⟨by rfl, ?_⟩) (by assumption) ?_
    ·
     intro W0 hSw
     (try dsimp only at hSw)
     go_simp
    simp only [List.set_cons_zero, List.set_cons_succ]
    refine Tr.take_at 6 42 (.agg #[.int .i64 4, .int .i64 3, .slice Ag 12 cg]) rfl rfl (by kernel_rfl) (by kernel_rfl) (by kernel_rfl) (fun _ _ _ h => h) (Or.inl ⟨by rfl, ?_⟩) (by assumption) ?_
    ·
     intro W0 hSw
     (try dsimp only at hSw)
     go_simp
    simp only [List.set_cons_zero, List.set_cons_succ]
    refine Tr.take_at 7 43 (.int .i64 0) rfl rfl (by kernel_rfl) (by kernel_rfl) (by kernel_rfl) (fun _ _ _ h => h) (Or.inl ⟨by rfl, ?_⟩) (by assumption) ?_
    ·
     intro W0 hSw
     (try dsimp only at hSw)
     go_simp
    simp only [List.set_cons_zero, List.set_cons_succ]
    refine wpAnyH_ready (rs := [9]) (by kernel_rfl) (by simp) ?_
    refine AllReadyH.cons rfl (fun K hK => ?_) AllReadyH.nil
    refine Tr.wanted_plain rfl ?_
    refine store_mid0 rfl 75 _ _ rfl (X7.heap.size) 0 #[.int .i64 4, .int .i64 3, .slice Ag 12 cg] (by rfl) (by rfl) (by have h := there_blk KA8.out; exact h) Tryz.sizeGr (by simp [Value.oneCell']) ?_
    have xK := blk_puts3 (.int .i64 4) (.int .i64 3) (.slice Ag 12 cg) KA8.out
    have xB := bsets HBW.out HL8.out (#[.int .i64 4, .int .i64 3, .slice Ag 12 cg] : Array Value).toList 0
    have xHRG := (show Rd (World.setCells (wc5) (X7.heap.size) 0 (#[.int .i64 4, .int .i64 3, .slice Ag 12 cg] : Array Value).toList) Ag 12 (Gr.U8 exP) from rd_nou8s (rd_nou8s (rd_nou8s HRG.out KA8.out (grid_no8s _ _ _ _ _) 0 (.int .i64 4)) (KA8.out.set_ 0 (.int .i64 4)) (grid_no8s _ _ _ _ _) 1 (.int .i64 3)) ((KA8.out.set_ 0 (.int .i64 4)).set_ 1 (.int .i64 3)) (grid_no8s _ _ _ _ _) 2 (.slice Ag 12 cg))
    obtain ⟨wS9, hwS⟩ : ∃ wS, World.setCells wc5 (X7.heap.size) 0 (#[.int .i64 4, .int .i64 3, .slice Ag 12 cg] : Array Value).toList = wS := ⟨_, rfl⟩
    rw [hwS] at xK xB xHRG ⊢
    replace HBW := Lib.hid xB
    replace KA8 := Lib.hid xK
    replace HRG := Lib.hid xHRG
    clear hwS xK xB xHRG
    refine hK.out _ _ (KW.out _ HBW.out) (fun _ => ?_); clear hK K
    refine Tr.take_at 10 10 (.int .i64 0) rfl rfl (by kernel_rfl) (by kernel_rfl) (by kernel_rfl) (fun _ _ _ h => h) (Or.inl ⟨by rfl, ?_⟩) (by assumption) ?_
    ·
     intro W0 hSw
     (try dsimp only at hSw)
     go_simp
    simp only [List.set_cons_zero, List.set_cons_succ]
    refine wpAnyH_done (by kernel_rfl) ?_ _
    refine NoPanic.normal ?_
    go_wp2_with fail
    go_meet
    exact ⟨_, Ag, cg, rfl, rfl, KA8.out, HRG.out, HCG.out, HBW.out⟩
 obtain ⟨g9, Ag, cg, rfl, rfl, a1, a2, a3, a4⟩ := hcut
 have y0 := a1.cellV (i := 0) (v := .int .i64 4) rfl
 have y1 := a1.cellV (i := 1) (v := .int .i64 3) rfl
 have y2 := a1.cellV (i := 2) (v := .slice Ag 12 cg) rfl
 have HRG := Lib.hid a2
 have HCG := Lib.hid a3
 replace HB := Lib.hid (bstep HB.out a4)
 clear a1 a2 a3 a4
 go_wp2_with fail
 refine (text_any 4 3 exP Ag 12 cg _ rfl (by decide) (by decide) HCG.out HRG.out exP_pix).mono ?_
 rintro e w8 ⟨rfl, hb8⟩
 rw [ex_text]
 go_wp2_with fail
 go_ret
 exact ⟨rfl, bstep HB.out hb8⟩
end Go.Proofs.YtdaedkolpfkdjaaGreat
end

section
namespace Go.Proofs.YtdaedkolpfkdjaaGreat
open Go.RowKit Go.Maps Go.Shelf

section
variable {P : Program} {o : Oper} {a : Act} {w : World} {K : Act → World → Prop} {Q : Exit → Act → World → Prop}
theorem put_eq (ts : List Value) (d : Nat) (v : Value) : (⟨ts.toArray, []⟩ : Act).put (some d) v = ⟨(ts.set d v).toArray, []⟩ := by simp [Act.put]
theorem own_empty (w : World) (e : TypeId) : ∀ s sz, s ≤ w.heap.size → (w.alloc (.cells #[] e)).ownsRow s e sz (.slice (some ⟨w.heap.size, 0, none⟩) 0 0) 0 [] := fun s sz hs =>
  ⟨by simp, .inr ⟨w.heap.size, 0, #[], rfl, hs, Blk.new w e #[], Nat.le_refl _, by decide, by simp, by simp⟩⟩
/-- a slice of no elements. -/
theorem wpU_empty {ts : List Value} (d : Nat) (hd : o.dst = some d) (t e : TypeId) (ho : o.op = .buildSlice t 0 #[]) (ie : TypeInfo) (hu : P.underlying t = some (.slice e)) (hie : P.info? e = some ie)
    (h : ∀ (g : Nat) (w' : World), (∀ s sz, s ≤ w.heap.size → w'.ownsRow s e sz (.slice (some ⟨g, 0, none⟩) 0 0) 0 []) → g = w.heap.size → Below w.heap.size w w' → K ⟨(ts.set d (.slice (some ⟨g, 0, none⟩) 0 0)).toArray, []⟩ w') : o.wp P ⟨ts.toArray, []⟩ w K Q := by
  have hr : (Instr.buildSlice t 0 #[]).run P w = .ok (.slice (some ⟨w.heap.size, 0, none⟩) 0 0) (w.alloc (.cells #[] e)) := by
    simp [Instr.buildSlice, run_underlying hu, sizeOf, typeInfo, hie, newRow, Instr.fill]
    rw [show Array.range 0 = #[] from Array.eq_empty_of_size_eq_zero (by simp), Array.map_empty]
  unfold Oper.wp execOp
  simp only [ho, Sem.run_bind, Array.map_empty, hr, Result.andThen_ok]
  show K ((⟨ts.toArray, []⟩ : Act).put o.dst _) _
  rw [hd, put_eq]
  exact h _ _ (own_empty w e) rfl (bal (bre w) _)
/-- a slice of one record. -/
theorem wpU_one {ts : List Value} (d : Nat) (hd : o.dst = some d) (t e : TypeId) (x : Operand) (ho : o.op = .buildSlice t 1 #[(0, x)]) (s : Nat) (z : Value) (ie : TypeInfo) (hu : P.underlying t = some (.slice e)) (hie : P.info? e = some ie) (hz : ie.zero = some z) (hs : ie.size = s) (hzs : z.cells.size = s) (h0 : 0 < s) (hsm : s ≤ 1000)
    (v : Value) (hx : (⟨ts.toArray, []⟩ : Act).eval x = v) (cs : Array Value) (hc : v.cells = cs) (hv : cs.size = s)
    (h : ∀ (g : Nat) (w' : World), Blk w' g e cs → g = w.heap.size → Below w.heap.size w w' → K ⟨(ts.set d (.slice (some ⟨g, 0, none⟩) 1 1)).toArray, []⟩ w') : o.wp P ⟨ts.toArray, []⟩ w K Q := by
  subst hs hc hx
  have hpos : ¬ 1 * ie.size = 0 := Nat.mul_ne_zero (by omega) (by omega)
  refine wp_buildSlice t e 1 _ ho ((⟨ts.toArray, []⟩ : Act).eval x).cells ie z hu hie hz (by omega) hpos ?_ (by rw [hd, put_eq]; exact h _ _ (Blk.new w e _) rfl (bal (bre w) _))
  have := Great.fill_whole h0 [(⟨ts.toArray, []⟩ : Act).eval x] ((Array.range (1 * ie.size)).map (z.cells[· % z.cells.size]!)) (by intro u hu; simp only [List.mem_singleton] at hu; rw [hu]; exact hv) (by simp)
  simpa using this
/-- append, at a row of the call's own. -/
theorem wpU_append {ts : List Value} (d : Nat) (hd : o.dst = some d) (s x : Operand) (t : TypeId) (ho : o.op = .call { callee := .builtin .append, args := #[s, x], argTypes := #[t, t] })
    (base : Nat) (e : TypeId) (i : TypeInfo) (z : Value) (size bytes : Nat) (ht : P.underlying t = some (.slice e)) (hi : P.info? e = some i) (hz : i.zero = some z)
    (hsize : i.size = size) (hby : i.bytes = bytes) (hzs : z.cells.size = size) (hsz : 0 < size)
    (v : Value) (n : Nat) (xs : List Value) (hs : (⟨ts.toArray, []⟩ : Act).eval s = v) (hown : w.ownsRow base e size v n xs)
    (ad : Addr) (m c : Nat) (news : List Value) (hx : (⟨ts.toArray, []⟩ : Act).eval x = .slice (some ad) m c) (hl : news.length = m * size) (hnews : ∀ j u, news[j]? = some u → w.cell? (ad.add j) = some u) (h1 : ∀ u ∈ news, u.oneCell' = true)
    (h63 : n + m ≤ maxLen) (hbytes : (n + m) * bytes ≤ 140737488355328) (hbase : base ≤ w.heap.size)
    (h : ∀ (A : Option Addr) (cap : Nat) (w' : World), w'.ownsRow base e size (.slice A (n + m) cap) (n + m) (xs ++ news) → w.grownBy w' v.ownBlock → ((Value.slice A (n + m) cap).ownBlock = v.ownBlock ∨ (Value.slice A (n + m) cap).ownBlock = some w.heap.size) → K ⟨(ts.set d (.slice A (n + m) cap)).toArray, []⟩ w') :
    o.wp P ⟨ts.toArray, []⟩ w K Q := by
  obtain ⟨v', w', hr, h2, h3, h4, h5⟩ := run_append_own_at (P := P) w base t o.type e i z size bytes ht hi hz hsize hby hzs hsz v n xs hown ad m c news hl hnews h1 h63 hbytes hbase
  obtain ⟨A, cap, rfl, _⟩ := own_form h2
  unfold Oper.wp execOp
  simp only [ho, resolve, invoke, builtin, Sem.run_bind, Sem.run_pure, Result.andThen_ok, List.map_toArray, List.map_cons, List.map_nil, hs, hx, hr]
  show K ((⟨ts.toArray, []⟩ : Act).put o.dst _) _
  rw [hd, put_eq]
  exact h _ _ _ h2 h3 h5
/-- a variable of its own. -/
theorem wpU_alloc {ts : List Value} (d : Nat) (hd : o.dst = some d) (t : TypeId) (ho : o.op = .alloc t) (i : TypeInfo) (z : Value) (hi : P.info? t = some i) (hz : i.zero = some z) (cs : Array Value) (hc : z.cells = cs)
    (h : ∀ (g : Nat) (w' : World), Blk w' g t cs → g = w.heap.size → Below w.heap.size w w' → K ⟨(ts.set d (.pointer (some ⟨g, 0, none⟩))).toArray, []⟩ w') : o.wp P ⟨ts.toArray, []⟩ w K Q := by
  subst hc
  unfold Oper.wp execOp
  simp [ho, Sem.run_bind, Instr.alloc, zeroValue, typeInfo, hi, hz, newVar, newRow, Result.andThen_ok]
  show K ((⟨ts.toArray, []⟩ : Act).put o.dst _) _
  rw [hd, put_eq]
  exact h _ _ (Blk.new w t _) rfl (bal (bre w) _)
/-- a variable of its own is written, whole. -/
theorem wpU_store (hd : o.dst = none) (t : TypeId) (x y : Operand) (ho : o.op = .store t x y) {g : Nat} {cs : Array Value} (hb : Blk w g t cs) (vs : Array Value) (hl : vs.size = cs.size) (hx : a.eval x = .pointer (some ⟨g, 0, none⟩)) (hy : a.eval y = .agg vs)
    (hi : (P.info? t).map (·.size) = some vs.size) (h1 : vs.all (·.oneCell') = true)
    (h : ∀ w', w' = w.setCells g 0 vs.toList → Blk w' g t vs → (∀ V : World, V.heap.size ≤ g → Below V.heap.size V w → Below V.heap.size V w') → (∀ (b : Nat) (t' : TypeId) (cs' : Array Value), b ≠ g → Blk w b t' cs' → Blk w' b t' cs') → (∀ (A : Option Addr) (n : Nat) (us : List Value), (∀ q, A = some q → q.block ≠ g) → Rd w A n us → Rd w' A n us) → K a w') : o.wp P a w K Q := by
  refine store_mid0 hd t x y ho g 0 vs hx hy (by have h9 := there_blk hb; rw [hl]; exact h9) hi h1 ?_
  refine h _ rfl (blk_putsAll vs hl hb) (fun V hg hB => bsets hB hg _ _) (fun b t' cs' hne hb' => hb'.farCells hne _ _) (fun A n us hA hr => ?_)
  have go : ∀ (l : List Value) (i : Nat) (W : World), Rd W A n us → Rd (W.setCells g i l) A n us := fun l => by
    induction l with
    | nil => intro i W h; exact h
    | cons u l ih => intro i W h; exact ih (i + 1) _ (h.far' (p := ⟨g, i, none⟩) (fun _ q hq => hA q hq) u)
  exact go _ _ _ hr
theorem own_ne_of {base e size n : Nat} {v : Value} {xs : List Value} (h : w.ownsRow base e size v n xs) {g : Nat} (hg : g = w.heap.size) : v.ownBlock ≠ some g := fun e => by
  have := own_lt h _ e
  omega
theorem new_ne {g s b n c : Nat} (hlt : b < s) (hg : g = s) : (Value.slice (some ⟨g, 0, none⟩) n c).ownBlock ≠ some b := fun e => by
  simp only [Value.ownBlock, Option.some.injEq] at e
  omega
theorem ne_at {v v' : Value} {g s : Nat} (hat : v'.ownBlock = v.ownBlock ∨ v'.ownBlock = some s) (hne : v.ownBlock ≠ some g) (hlt : g < s) : v'.ownBlock ≠ some g := fun e => by
  rcases hat with h | h
  · exact hne (h ▸ e)
  · rw [h] at e
    injection e with e
    omega
theorem news_blk {g : Nat} {t : TypeId} {cs : List Value} (h : Blk w g t cs.toArray) : ∀ j u, cs[j]? = some u → w.cell? ((⟨g, 0, none⟩ : Addr).add j) = some u := by
  intro j u hj
  have h := h.cellV (i := j) (v := u) (by simpa using hj)
  unfold Addr.add
  split
  · rename_i e; rw [e] at h; exact h
  · rw [Nat.zero_add]; exact h
end
theorem p_one (p : PN34) : ∀ u ∈ p.cells, u.oneCell' = true := fun u hu => by
  simp only [PN34.cells, List.mem_cons, List.not_mem_nil, or_false] at hu
  rcases hu with rfl | rfl | rfl | rfl | rfl | rfl | rfl | rfl | rfl <;> rfl
theorem ps_one (ps : List PN34) : ∀ u ∈ ps.flatMap PN34.cells, u.oneCell' = true := fun u hu => by
  obtain ⟨p, _, h⟩ := List.mem_flatMap.1 hu
  exact p_one p u h
/-- a window that isn't mapped. -/
def PN34.off (p : PN34) (u : Int) : PN34 := { p with U := u, M := false }
theorem PN34.off_ok {p : PN34} (h : p.ok) {u : Int} (hu : 0 ≤ u ∧ u ≤ 255) : (p.off u).ok := ⟨hu, h.x, h.y, h.w, h.h, h.i, h.n⟩
theorem rdp_more {w : World} {base e n c : Nat} {A : Option Addr} {ps : List PN34} {q : PN34} (h : w.ownsRow base e 9 (.slice A (n + 1) c) (n + 1) (ps.flatMap PN34.cells ++ q.cells)) (hl : ps.length = n) (hs : ∀ p ∈ ps, RdR w p.A p.n p.sh) (hq : RdR w q.A q.n q.sh) : RdP34 w A (n + 1) (ps ++ [q]) :=
  ⟨RdF.of_own (e := e) PN34.cells_len (by rw [List.flatMap_append]; simpa using h) (by simp [hl]), fun p hp => by
    rcases List.mem_append.1 hp with h1 | h1
    · exact hs p h1
    · rw [List.mem_singleton] at h1
      subst h1
      exact hq⟩
/-- what Make gives, if it says yes. -/
def MadeIf (b : Bool) (W : World) (m1 m2 m3 m4 : Option Nat) (A0 : Option Addr) (n0 c0 : Nat) (ps : List PN34) : Prop := b = true → ∃ l mk mu mp mc A c RW RH, Made34 W (.agg #[.map m1, .map m2, .map m3, .map m4, .slice A0 n0 c0]) ps l mk mu mp mc A c RW RH
theorem MadeIf.below {b : Bool} {W W' : World} {m1 m2 m3 m4 : Option Nat} {A0 : Option Addr} {n0 c0 : Nat} {ps : List PN34} (h : MadeIf b W m1 m2 m3 m4 A0 n0 c0 ps) (hb : Below W.heap.size W W') : MadeIf b W' m1 m2 m3 m4 A0 n0 c0 ps := fun e => by
  obtain ⟨l, mk, mu, mp, mc, A, c, RW, RH, h⟩ := h e
  exact ⟨l, mk, mu, mp, mc, A, c, RW, RH, h.below hb⟩
theorem rdf_noint {w : World} {A : Option Addr} {n : Nat} {l : List R34} (h : RdF R34.cells 9 w A n l) {g : Nat} {t : TypeId} {cs : Array Value} (hB : Blk w g t cs) (hn : NoI cs) (i : Nat) (u : Value) : RdF R34.cells 9 (w.setCell ⟨g, i, none⟩ u) A n l :=
  ⟨h.1, fun h0 => by
    obtain ⟨b, off, e, hl, hc⟩ := h.2 h0
    have hne : g ≠ b := fun e9 => by
      subst e9
      obtain ⟨x, hx⟩ : ∃ x, l[0]? = some x := ⟨_, List.getElem?_eq_getElem (by rw [h.1]; exact h0)⟩
      have := hc 0 x hx 0 (.int .i64 x.U) rfl
      rw [hB.cell] at this
      exact hn _ _ _ this
    exact ⟨b, off, e, by simpa [World.setCell] using hl, fun k x hk j v hv => (World.cell?_setCell_other w ⟨g, i, none⟩ ⟨b, off + k * 9 + j, none⟩ u (fun e' => hne (by injection e'))).trans (hc k x hk j v hv)⟩⟩
theorem rdr_noint {w : World} {A : Option Addr} {n : Nat} {rs : List RC} (h : RdR w A n rs) {g : Nat} {t : TypeId} {cs : Array Value} (hB : Blk w g t cs) (hn : NoI cs) (i : Nat) (u : Value) : RdR (w.setCell ⟨g, i, none⟩ u) A n rs :=
  ⟨h.1, fun h0 => by
    obtain ⟨b, off, e, hl, hc⟩ := h.2 h0
    have hne : g ≠ b := fun e9 => by
      subst e9
      obtain ⟨x, hx⟩ : ∃ x, rs[0]? = some x := ⟨_, List.getElem?_eq_getElem (by rw [h.1]; exact h0)⟩
      have := (hc 0 x hx).1
      rw [hB.cell] at this
      exact hn _ _ _ this
    have far : ∀ (j : Nat) (v : Value), w.cell? ⟨b, j, none⟩ = some v → (w.setCell ⟨g, i, none⟩ u).cell? ⟨b, j, none⟩ = some v := fun j v hv => (World.cell?_setCell_other w ⟨g, i, none⟩ ⟨b, j, none⟩ u (fun e' => hne (by injection e'))).trans hv
    exact ⟨b, off, e, by simpa [World.setCell] using hl, fun k x hk => by
      obtain ⟨h1, h2, h3, h4⟩ := hc k x hk
      exact ⟨far _ _ h1, far _ _ h2, far _ _ h3, far _ _ h4⟩⟩⟩
theorem Made34.set {w : World} {v : Value} {ps : List PN34} {l : List R34} {mk mu mp mc : Option Nat} {A : Option Addr} {c RW RH : Nat} (h : Made34 w v ps l mk mu mp mc A c RW RH) {g : Nat} {t : TypeId} {cs : Array Value} (hB : Blk w g t cs) (hn : NoI cs) (i : Nat) (u : Value) : Made34 (w.setCell ⟨g, i, none⟩ u) v ps l mk mu mp mc A c RW RH :=
  ⟨h.shape, h.tree.set hB hn i u, h.place.set hB hn i u, h.canvas.set hB hn i u, rdf_noint h.recs hB hn i u, fun d hd => rdr_noint (h.shapes d hd) hB hn i u, h.pix.set hB hn i u, h.len, h.few, h.like, h.root⟩
theorem noiv5 (a b c d : Option Nat) (A : Option Addr) (n m : Nat) : ∀ v ∈ [Value.map a, .map b, .map c, .map d, .slice A n m], ∀ k z, v ≠ .int k z := fun v hv k z => by
  simp only [List.mem_cons, List.not_mem_nil, or_false] at hv
  rcases hv with rfl | rfl | rfl | rfl | rfl <;> simp
/-- a store of what is made into a block of its own. -/
theorem MadeIf.store {b : Bool} {W : World} {m1 m2 m3 m4 : Option Nat} {A0 : Option Addr} {n0 c0 : Nat} {ps : List PN34} (h : MadeIf b W m1 m2 m3 m4 A0 n0 c0 ps) {g : Nat} {a1 a2 a3 a4 : Option Nat} {A : Option Addr} {n c : Nat} (hB : Blk W g 70 #[.map a1, .map a2, .map a3, .map a4, .slice A n c]) (b1 b2 b3 b4 : Option Nat) (B : Option Addr) (k d : Nat) : MadeIf b (W.setCells g 0 [.map b1, .map b2, .map b3, .map b4, .slice B k d]) m1 m2 m3 m4 A0 n0 c0 ps := fun e => by
  obtain ⟨l, mk, mu, mp, mc, A', c', RW, RH, h⟩ := h e
  exact ⟨l, mk, mu, mp, mc, A', c', RW, RH, sets_ind (P := fun V => Made34 V _ ps l mk mu mp mc A' c' RW RH) (fun _ _ i u hB hn h => h.set hB hn i u) _ 0 W _ hB (noI5 _ _ _ _ _ _ _) (noiv5 _ _ _ _ _ _ _) h⟩
/-- a window more, that isn't mapped: the same grid. -/
theorem scr_more {Wa Wb : World} {va vb : Value} {ps : List PN34} {q : PN34} {la lb : List R34} {ka ua pa ca kb ub pb cb : Option Nat} {Aa Ab : Option Addr} {na nb RW RH RW2 RH2 : Nat} (ha : Made34 Wa va ps la ka ua pa ca Aa na RW RH) (hb : Made34 Wb vb (ps ++ [q]) lb kb ub pb cb Ab nb RW2 RH2) (hM : q.M = false)
    {W H : Nat} {px qx : List Int} (hp : px.length = W * H ∧ ∀ x y : Nat, x < W → y < H → Gr.gat W H px x y = pixD la RW RH x y) (hq : qx.length = W * H ∧ ∀ x y : Nat, x < W → y < H → Gr.gat W H qx x y = pixD lb RW2 RH2 x y) : qx = px := by
  have hfa := ha.few
  have hla := ha.len
  obtain ⟨ra, h1, h2, h3⟩ := ha.root
  obtain ⟨rb, g1, g2, g3⟩ := hb.root
  obtain ⟨p, hp0⟩ : ∃ p, ps[0]? = some p := ⟨_, List.getElem?_eq_getElem (by omega)⟩
  have k1 := ha.like 0 p ra hp0 h1
  have k2 := hb.like 0 p rb (by rw [List.getElem?_append_left (by omega)]; exact hp0) g1
  have e1 : RW2 = RW := by have := k1.W; have := k2.W; omega
  have e2 : RH2 = RH := by have := k1.H; have := k2.H; omega
  subst e1 e2
  refine px_ext (W := W) (H := H) hq.1 hp.1 (fun x y hx hy => ?_)
  rw [hp.2 x y hx hy, hq.2 x y hx hy]
  exact pixD_unmapped (by omega) hM hla hb.len ha.like hb.like _ _ _ _
theorem rd_store_grid {w : World} {A : Option Addr} {n : Nat} {px : List Int} (h : Rd w A n (Gr.U8 px)) {g : Nat} {a b : Int} {B : Option Addr} {m c : Nat} (hB : Blk w g 75 #[.int .i64 a, .int .i64 b, .slice B m c]) (x y : Int) (C : Option Addr) (k d : Nat) : Rd (w.setCells g 0 [.int .i64 x, .int .i64 y, .slice C k d]) A n (Gr.U8 px) :=
  rd_nou8 (rd_nou8 (rd_nou8 h hB (grid_no8 _ _ _ _ _) 0 (.int .i64 x)) (hB.set_ 0 (.int .i64 x)) (grid_no8 _ _ _ _ _) 1 (.int .i64 y)) ((hB.set_ 0 (.int .i64 x)).set_ 1 (.int .i64 y)) (grid_no8 _ _ _ _ _) 2 (.slice C k d)
set_option maxRecDepth 100000 in
theorem Tryz.infoP34 : (Tryz.prog.info? 85).map (fun i => (i.zero, i.size, i.bytes)) = some (some (.agg #[.int .u8 0, .int .i8 0, .int .i8 0, .int .u8 0, .int .u8 0, .bool false, .bool false, .slice none 0 0, .int .u8 0]), 9, 40) := by kernel_rfl
set_option maxRecDepth 100000 in
theorem Tryz.zeroM34 : (Tryz.prog.info? 70).map (fun i => (i.zero, i.size)) = some (some (.agg #[.map none, .map none, .map none, .map none, .slice none 0 0]), 5) := by kernel_rfl
set_option maxRecDepth 100000 in
theorem Tryz.zeroG34 : (Tryz.prog.info? 75).map (fun i => (i.zero, i.size)) = some (some (.agg #[.int .i64 0, .int .i64 0, .slice none 0 0]), 3) := by kernel_rfl
set_option maxRecDepth 100000 in
theorem Tryz.sizeM34 : (Tryz.prog.info? 70).map (·.size) = some 5 := by kernel_rfl
set_option maxRecDepth 100000 in
theorem Tryz.sizeG34 : (Tryz.prog.info? 75).map (·.size) = some 3 := by kernel_rfl
theorem zero_parts {P : Program} {t : TypeId} {z : Value} {s : Nat} (h : (P.info? t).map (fun i => (i.zero, i.size)) = some (some z, s)) : ∃ i, P.info? t = some i ∧ i.zero = some z := by
  obtain ⟨i, hi, e⟩ := Option.map_eq_some_iff.1 h
  exact ⟨i, hi, by injection e⟩
end Go.Proofs.YtdaedkolpfkdjaaGreat
end
