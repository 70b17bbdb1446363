/-
  The walk of the law PlaceSets.
-/
import Derived.Test.YtbfefkhejknmoaaGreatDoorPlaceSetsC2
namespace Go.Proofs.YtbfefkhejknmoaaGreatDoor
open Go.RowKit Go.Maps Go.Shelf

theorem listAt_of {w : World} {x : WN} {UL : List Int} {L l : List DB} (h : GivenW w x UL L) (hf : fewB L = true) (hl : l = L.foldl setL (newD x.W x.H)) : ListAt w l := fun d hd => by
  unfold fewB at hf
  rw [Bool.and_eq_true, decide_eq_true_eq] at hf
  obtain ⟨h1, h2⟩ := hf
  rw [List.take_of_length_le h2] at h1
  rw [hl] at hd
  rcases mem_foldL L _ hd with hd | hd
  · unfold newD at hd
    split at hd
    · obtain rfl : d = rootD x.W x.H := by simpa using hd
      exact ⟨⟨(by show (0 : Int) ≤ 1; decide), (by show (1 : Int) ≤ 4294967295; decide)⟩, ⟨rfl, fun h => absurd h (by show ¬ 0 < 0; decide)⟩, (by show (0 : Nat) ≤ 100000; decide), fun r hr => by cases hr⟩
    · cases hd
  · have hn : d.b.n ≤ 12 := by simpa using List.all_eq_true.1 h1 d hd
    obtain ⟨a, b, c⟩ := h.each d hd
    exact ⟨a, b, by omega, c⟩
theorem idsL_bd {w : World} {x : WN} {UL : List Int} {L : List DB} (h : GivenW w x UL L) : ∀ i ∈ idsL L, 0 ≤ i ∧ i ≤ 4294967295 := fun i hi => by
  unfold idsL at hi
  rcases List.mem_cons.1 hi with rfl | hi
  · decide
  · rcases List.mem_cons.1 hi with rfl | hi
    · decide
    · obtain ⟨d, hd, rfl⟩ := List.mem_map.1 hi
      exact (h.each d hd).1
theorem Rd.flat {w : World} {A : Option Addr} {n : Nat} {vs : List Value} (h : Rd w A n vs) : ∀ ad, A = some ad → ∀ j u, vs[j]? = some u → w.cell? (ad.add j) = some u := fun ad e j u hj => by
  have hlen := (List.getElem?_eq_some_iff.1 hj).1
  obtain ⟨b, off, e2, hb, hc⟩ := h.2 (by have := h.1; omega)
  rw [e] at e2
  cases e2
  have h1 := hc j u hj
  unfold Addr.add
  split
  · rename_i e0; subst e0; exact h1
  · exact h1
theorem take_snocI {l : List Int} {k : Nat} {x : Int} (h : l[k]? = some x) : l.take (k + 1) = l.take k ++ [x] := by rw [List.take_add_one, h]; rfl

set_option maxRecDepth 100000 in
set_option maxHeartbeats 8000000 in
theorem psets_any (x : WN) (I : Option Addr) (ni ci : Nat) (IL UL : List Int) (L : List DB) (w : World) (hg : GivenW w x UL L) (hI : Rd w I ni (U32 IL)) (hni : ni ≤ maxLen) (hIq : ∀ z ∈ IL, 0 ≤ z ∧ z ≤ 4294967295) (hH : Halves w) :
    Calls Tryz.prog 7 #[x.v, .slice I ni ci] w fun e w' => e = .returned (.bool true) ∧ Below w.heap.size w w' := by
  obtain ⟨i0, hi0, hz0, hz1, hz2⟩ := info_parts Tryz.infoU
  have hw0 := hH.1
  obtain ⟨W, H, U, nu, cu, A, nl, cl⟩ := x
  have hxv : (⟨W, H, U, nu, cu, A, nl, cl⟩ : WN).v = .agg #[.int .i64 W, .int .i64 H, .slice U nu cu, .slice A nl cl] := rfl
  rw [hxv]
  have HXV := Lib.hid hxv
  have HB := Lib.hid (bal (bre w) (.cells #[.int .i64 W, .int .i64 H, .slice U nu cu, .slice A nl cl] 25))
  have HG := Lib.hid (hg.below HB.out)
  have HI := Lib.hid (hI.below HB.out)
  have HH := Lib.hid (hH.below HB.out hw0)
  have K2 := Lib.hid (Blk.new w 25 #[.int .i64 W, .int .i64 H, .slice U nu cu, .slice A nl cl])
  have HIQ := Lib.hid hIq
  have HNI := Lib.hid hni
  have HIL := Lib.hid (show IL.length = ni by have := hI.1; simpa [U32] using this)
  clear hg hH hxv hI hIq hni
  go_enter Tryz.func7, Tryz.ntmps7
  go_wp2_with fail
  with_reducible refine (awake_any _ HH.out).mono ?_
  rintro e w1 ⟨rfl, hb1⟩
  replace HH := Lib.hid (HH.out.below hb1 HH.out.1)
  replace HG := Lib.hid (HG.out.below hb1)
  replace HI := Lib.hid (HI.out.below hb1)
  replace K2 := Lib.hid (K2.out.belowS hb1)
  replace HB := Lib.hid (bstep HB.out hb1)
  clear hb1
  have p0 := K2.out.cellV (i := 0) (v := .int .i64 W) rfl
  have p1 := K2.out.cellV (i := 1) (v := .int .i64 H) rfl
  have p2 := K2.out.cellV (i := 2) (v := .slice U nu cu) rfl
  have p3 := K2.out.cellV (i := 3) (v := .slice A nl cl) rfl
  go_wp2_with fail
  rw [← HXV.out]
  refine (few_any _ L _ HG.out.list HG.out.nl).mono ?_
  rintro e w2 ⟨rfl, hb2⟩
  clear p0 p1 p2 p3
  replace HH := Lib.hid (HH.out.below hb2 HH.out.1)
  replace HG := Lib.hid (HG.out.below hb2)
  replace HI := Lib.hid (HI.out.below hb2)
  replace K2 := Lib.hid (K2.out.belowS hb2)
  replace HB := Lib.hid (bstep HB.out hb2)
  clear hb2
  cases hf : fewB L
  · go_wp2_with fail
    go_ret
    exact ⟨rfl, HB.out⟩
  by_cases h60 : 60 < ni
  · have e60 : (60 : Int) < (ni : Int) := by omega
    go_wp2_with fail
    go_ret
    exact ⟨rfl, HB.out⟩
  have e60 : ¬ (60 : Int) < (ni : Int) := by omega
  have HF := Lib.hid hf
  have H60 := Lib.hid (show ni ≤ 60 by omega)
  clear hf h60
  have p0 := K2.out.cellV (i := 0) (v := .int .i64 W) rfl
  have p1 := K2.out.cellV (i := 1) (v := .int .i64 H) rfl
  have p2 := K2.out.cellV (i := 2) (v := .slice U nu cu) rfl
  have p3 := K2.out.cellV (i := 3) (v := .slice A nl cl) rfl
  go_wp2_with fail
  rw [← HXV.out]
  refine (built_few _ UL L _ HG.out HF.out).mono ?_
  rintro e w3 ⟨mk, mu, mp, An, nn, cn, Al, cq, ns, n, bs, l, nk, fk, rfl, hat, hl, hn71, hb3⟩
  have HAT := Lib.hid hat
  have HLQ := Lib.hid hl
  clear p0 p1 p2 p3 hat hl e60
  replace HH := Lib.hid (HH.out.below hb3 HH.out.1)
  replace HG := Lib.hid (HG.out.below hb3)
  replace HI := Lib.hid (HI.out.below hb3)
  replace K2 := Lib.hid (K2.out.belowS hb3)
  replace HB := Lib.hid (bstep HB.out hb3)
  clear hb3
  have HLA := Lib.hid (listAt_of HG.out HF.out HLQ.out)
  have HIB := Lib.hid (idsL_bd HG.out)
  have HGL := Lib.hid (show RdD w3 A nl L from HG.out.list)
  have hnl : nl ≤ 70 := by
    have h1 := HF.out
    unfold fewB at h1
    rw [Bool.and_eq_true, decide_eq_true_eq] at h1
    rw [← HGL.out.1]
    exact h1.2
  have HLN := Lib.hid HGL.out.1
  have HIDN := Lib.hid (show (idsL L).length ≤ 72 by have := HLN.out; simp [idsL]; omega)
  have HLL := Lib.hid HAT.out.list.1
  clear HG HF HLQ HXV
  go_upto_region 6 with fail
  have hba : Below w3.heap.size w3 ((w3.alloc (.cells #[.map mk, .map mu] 35)).alloc (.cells #[.map mp] 38)) := bal (bal (bre w3) _) _
  have xHB := bstep HB.out hba
  have xHAT := HAT.out.below hba
  have xK2 := K2.out.belowS hba
  have xHI := HI.out.below hba
  have xHGL := HGL.out.below hba
  have xHLA := HLA.out.below hba
  have xK6 := blk_new2 w3 (.cells #[.map mk, .map mu] 35) 38 #[.map mp]
  obtain ⟨X3, hX3⟩ : ∃ X3, (w3.alloc (.cells #[.map mk, .map mu] 35)).alloc (.cells #[.map mp] 38) = X3 := ⟨_, rfl⟩
  rw [hX3] at xHB xHAT xK2 xHI xHGL xHLA xK6 ⊢
  replace HB := Lib.hid xHB
  replace HAT := Lib.hid xHAT
  replace K2 := Lib.hid xK2
  replace HI := Lib.hid xHI
  replace HGL := Lib.hid xHGL
  replace HLA := Lib.hid xHLA
  have K6 := Lib.hid xK6
  clear hba hX3 xHB xHAT xK2 xHI xHGL xHLA xK6 HH
  have HBW := Lib.hid (show Below X3.heap.size X3 X3.drew from (bre X3).drew)
  refine wp_region_noPanic ?_
  refine wp_region_held_drew (S := (fun w' => w'.cell? ⟨w3.heap.size + 1, 0, none⟩ = some (.map mp) ∧ w'.cell? ⟨w.heap.size, 0, none⟩ = some (.int .i64 W) ∧ w'.cell? ⟨w.heap.size, 1, none⟩ = some (.int .i64 H) ∧ w'.cell? ⟨w.heap.size, 2, none⟩ = some (.slice U nu cu) ∧ w'.cell? ⟨w.heap.size, 3, none⟩ = some (.slice A nl cl))) (by kernel_rfl) ?_ (fun hHeld => ?_)
  · (try dsimp only)
    exact ⟨(K6.out.belowS HBW.out).cellV (i := 0) rfl, (K2.out.belowS HBW.out).cellV (i := 0) rfl, (K2.out.belowS HBW.out).cellV (i := 1) rfl, (K2.out.belowS HBW.out).cellV (i := 2) rfl, (K2.out.belowS HBW.out).cellV (i := 3) rfl⟩
  refine Tr.take_at 0 30 (.bool true) rfl rfl (by kernel_rfl) (by kernel_rfl) (by kernel_rfl) (fun _ _ _ h => h) (Or.inl ⟨by rfl, ?_⟩) (by assumption) ?_
  · intro W0 hSw
    (try dsimp only at hSw)
    go_simp
  simp only [List.set_cons_zero, List.set_cons_succ]
  refine Tr.take_at 1 31 (.bool false) rfl rfl (by kernel_rfl) (by kernel_rfl) (by kernel_rfl) (fun _ _ _ h => h) (Or.inl ⟨by rfl, ?_⟩) (by assumption) ?_
  · intro W0 hSw
    (try dsimp only at hSw)
    go_simp
  simp only [List.set_cons_zero, List.set_cons_succ]
  refine Tr.take_at 2 32 (.bool false) rfl rfl (by kernel_rfl) (by kernel_rfl) (by kernel_rfl) (fun _ _ _ h => h) (Or.inl ⟨by rfl, ?_⟩) (by assumption) ?_
  · intro W0 hSw
    (try dsimp only at hSw)
    go_simp
  simp only [List.set_cons_zero, List.set_cons_succ]
  refine Tr.take_at 3 33 (.agg #[.map mp]) rfl rfl (by kernel_rfl) (by kernel_rfl) (by kernel_rfl) (fun _ _ _ h => h) (Or.inl ⟨by rfl, ?_⟩) (by assumption) ?_
  · intro W0 hSw
    (try dsimp only at hSw)
    go_simp
  simp only [List.set_cons_zero, List.set_cons_succ]
  refine Tr.take_at 4 34 (.slice Al n cq) rfl rfl (by kernel_rfl) (by kernel_rfl) (by kernel_rfl) (fun _ _ _ h => h) (Or.inl ⟨by rfl, ?_⟩) (by assumption) ?_
  · intro W0 hSw
    (try dsimp only at hSw)
    go_simp
  simp only [List.set_cons_zero, List.set_cons_succ]
  refine Tr.take_at 5 35 (.agg #[.int .i64 W, .int .i64 H, .slice U nu cu, .slice A nl cl]) rfl rfl (by kernel_rfl) (by kernel_rfl) (by kernel_rfl) (fun _ _ _ h => h) (Or.inl ⟨by rfl, ?_⟩) (by assumption) ?_
  · intro W0 hSw
    (try dsimp only at hSw)
    go_simp
  simp only [List.set_cons_zero, List.set_cons_succ]
  refine wpAnyH_ready (rs := [6]) (by kernel_rfl) (by simp) ?_
  refine AllReadyH.cons rfl (fun K hK => ?_) AllReadyH.nil
  go_simp
  refine (ids_any ⟨W, H, U, nu, cu, A, nl, cl⟩ L _ (HGL.out.below HBW.out) (by show nl ≤ 1000; omega)).mono ?_
  rintro e wA ⟨Aia, cia, rfl, hoi, hbA⟩
  have HOa := Lib.hid hoi
  have HBVa := Lib.hid HBW.out
  have HBXa := Lib.hid hbA
  replace HBW := Lib.hid (bstep HBW.out hbA)
  clear hbA hoi
  go_simp
  refine hK.out _ _ ?_ (fun hHeld => ?_)
  · (try dsimp only)
    exact ⟨(K6.out.belowS HBW.out).cellV (i := 0) rfl, (K2.out.belowS HBW.out).cellV (i := 0) rfl, (K2.out.belowS HBW.out).cellV (i := 1) rfl, (K2.out.belowS HBW.out).cellV (i := 2) rfl, (K2.out.belowS HBW.out).cellV (i := 3) rfl⟩
  clear hK K
  refine wpAnyH_ready (rs := [7]) (by kernel_rfl) (by simp) ?_
  refine AllReadyH.cons rfl (fun K hK => ?_) AllReadyH.nil
  go_simp
  refine (is_any (.agg #[.map mp]) n bs Al n cq l Aia (idsL L).length cia (idsL L) _ (HAT.out.place.below HBW.out) (HAT.out.list.below HBW.out) (by omega) (HAT.out.rel.toI.mono (fun _ _ h => SmD.below h HBW.out)) (HLA.out.below HBW.out) (Rd.of_own HOa.out) (by have := HIDN.out; omega) HIB.out).mono ?_
  rintro e wB ⟨rfl, hbA⟩
  replace HBW := Lib.hid (bstep HBW.out hbA)
  clear hbA
  go_simp
  refine hK.out _ _ ?_ (fun hHeld => ?_)
  · (try dsimp only)
    exact ⟨(K6.out.belowS HBW.out).cellV (i := 0) rfl, (K2.out.belowS HBW.out).cellV (i := 0) rfl, (K2.out.belowS HBW.out).cellV (i := 1) rfl, (K2.out.belowS HBW.out).cellV (i := 2) rfl, (K2.out.belowS HBW.out).cellV (i := 3) rfl⟩
  clear hK K
  refine Tr.take_at 8 38 (.bool false) rfl rfl (by kernel_rfl) (by kernel_rfl) (by kernel_rfl) (fun _ _ _ h => h) (Or.inl ⟨by rfl, ?_⟩) (by assumption) ?_
  · intro W0 hSw
    (try dsimp only at hSw)
    go_simp
  simp only [List.set_cons_zero, List.set_cons_succ]
  refine Tr.take_at 9 39 (.bool false) rfl rfl (by kernel_rfl) (by kernel_rfl) (by kernel_rfl) (fun _ _ _ h => h) (Or.inl ⟨by rfl, ?_⟩) (by assumption) ?_
  · intro W0 hSw
    (try dsimp only at hSw)
    go_simp
  simp only [List.set_cons_zero, List.set_cons_succ]
  refine wpAnyH_done (by kernel_rfl) ?_ _
  refine NoPanic.normal ?_
  as_aux_lemma =>
    have hba := HBW.out
    replace HB := Lib.hid (bstep HB.out hba)
    replace HAT := Lib.hid (HAT.out.below hba)
    replace K2 := Lib.hid (K2.out.belowS hba)
    replace K6 := Lib.hid (K6.out.belowS hba)
    replace HI := Lib.hid (HI.out.below hba)
    replace HGL := Lib.hid (HGL.out.below hba)
    replace HLA := Lib.hid (HLA.out.below hba)
    clear hba HBW HOa HBVa HBXa
    go_wp2_with fail
    go_loopw [10, 11] (fun v i wr => ∃ (k : Nat) (Am : Option Addr) (cm : Nat), i = .int .i64 k ∧ k ≤ ni ∧ v = .slice Am (dropsD l (IL.take k)).length cm ∧ RdD wr Am (dropsD l (IL.take k)).length (dropsD l (IL.take k)) ∧ Below wB.heap.size wB wr) (fun _ i _ => ni - (intOf i).toNat)
    case atStart => exact ⟨0, Al, cq, rfl, by omega, by rw [← HLL.out]; rfl, by have := HAT.out.list; rw [← HLL.out] at this; exact this, bre wB⟩
    case round =>
      obtain ⟨k, Am, cm, rfl, hk, rfl, hlm, hB⟩ := hrel
      have HLM := Lib.hid hlm
      have hdl := dropsD_len (IL.take k) l
      rw [HLL.out] at hdl
      replace HAT := Lib.hid (HAT.out.below hB)
      replace K2 := Lib.hid (K2.out.belowS hB)
      replace K6 := Lib.hid (K6.out.belowS hB)
      replace HI := Lib.hid (HI.out.below hB)
      replace HGL := Lib.hid (HGL.out.below hB)
      replace HLA := Lib.hid (HLA.out.below hB)
      have HBR := Lib.hid hB
      clear hB hlm
      by_cases hlt : k < ni
      · as_aux_lemma =>
          obtain ⟨x, hx⟩ : ∃ x, IL[k]? = some x := ⟨_, List.getElem?_eq_getElem (by rw [HIL.out]; exact hlt)⟩
          obtain ⟨b, off, rfl, hb, hcl⟩ := HI.out.2 (by omega)
          have c0 := hcl k _ (U32_at hx)
          have k1 : (k : Int) < (ni : Int) := by omega
          have k0 : (0 : Int) ≤ (k : Int) := by omega
          have HTK := Lib.hid (take_snocI hx)
          clear hcl hx
          go_wp2_with fail
          refine (ddrop_any Am _ cm _ x _ (by omega) HLM.out).mono ?_
          rintro e w5 ⟨A5, c5, rfl, hr5, hb5⟩
          have HR5 := Lib.hid hr5
          have HB5 := Lib.hid (bstep HBR.out hb5)
          clear hr5 hb5 c0
          go_wp2_with fail
          go_roundw
          case rel => exact ⟨k + 1, A5, c5, by go_num, by omega, by rw [HTK.out, dropsD_snoc], by rw [HTK.out, dropsD_snoc]; exact HR5.out, HB5.out⟩
          case measure => simp [intOf]; omega
      · focus
          obtain rfl : k = ni := by omega
          have k1 : ¬ (k : Int) < (k : Int) := by omega
          have ht : IL.take k = IL := List.take_of_length_le (by rw [HIL.out]; exact Nat.le_refl _)
          have h1 := HLM.out
          rw [ht] at h1 hdl ⊢
          have HLM := Lib.hid h1
          replace HB := Lib.hid (bstep HB.out HBR.out)
          have HLD := Lib.hid (show ListAt wr (dropsD l IL) from fun d hd => HLA.out d ((mem_dropsD IL l d).1 hd).1)
          have HRD := Lib.hid (HAT.out.rel.toI.drops IL)
          have HUL := Lib.hid (show (U32 IL).length = k * 1 by simp [U32, HIL.out])
          have HUS := Lib.hid (show 0 < k → I.isSome = true from fun h0 => by obtain ⟨b, off, e, _⟩ := HI.out.2 h0; rw [e]; rfl)
          clear h1 ht HBR
          obtain ⟨lm, hlm⟩ : ∃ lm, dropsD l IL = lm := ⟨_, rfl⟩
          have h1 := HLM.out
          have h2 := HLD.out
          have h3 := HRD.out
          rw [hlm] at h1 h2 h3 hdl ⊢
          replace HLM := Lib.hid h1
          replace HLD := Lib.hid h2
          replace HRD := Lib.hid h3
          clear h1 h2 h3 hlm
          go_upto_region 13 with fail
          have HBW := Lib.hid (show Below wr.heap.size wr wr.drew from (bre wr).drew)
        refine wp_region_noPanic ?_
        refine wp_region_held_drew (S := (fun w' => w'.cell? ⟨w3.heap.size + 1, 0, none⟩ = some (.map mp) ∧ w'.cell? ⟨w.heap.size, 0, none⟩ = some (.int .i64 W) ∧ w'.cell? ⟨w.heap.size, 1, none⟩ = some (.int .i64 H) ∧ w'.cell? ⟨w.heap.size, 2, none⟩ = some (.slice U nu cu) ∧ w'.cell? ⟨w.heap.size, 3, none⟩ = some (.slice A nl cl))) (by kernel_rfl) ?_ (fun hHeld => ?_)
        · (try dsimp only)
          exact ⟨(K6.out.belowS HBW.out).cellV (i := 0) rfl, (K2.out.belowS HBW.out).cellV (i := 0) rfl, (K2.out.belowS HBW.out).cellV (i := 1) rfl, (K2.out.belowS HBW.out).cellV (i := 2) rfl, (K2.out.belowS HBW.out).cellV (i := 3) rfl⟩
        refine Tr.take_at 0 53 (.agg #[.map mp]) rfl rfl (by kernel_rfl) (by kernel_rfl) (by kernel_rfl) (fun _ _ _ h => h) (Or.inl ⟨by rfl, ?_⟩) (by assumption) ?_
        · intro W0 hSw
          (try dsimp only at hSw)
          go_simp
        simp only [List.set_cons_zero, List.set_cons_succ]
        refine Tr.take_at 1 54 (.slice I k ci) rfl rfl (by kernel_rfl) (by kernel_rfl) (by kernel_rfl) (fun _ _ _ h => h) (Or.inl ⟨by rfl, ?_⟩) (by assumption) ?_
        · intro W0 hSw
          (try dsimp only at hSw)
          go_simp
        simp only [List.set_cons_zero, List.set_cons_succ]
        refine Tr.take_at 3 56 (.slice Am lm.length cm) rfl rfl (by kernel_rfl) (by kernel_rfl) (by kernel_rfl) (fun _ _ _ h => h) (Or.inl ⟨by rfl, ?_⟩) (by assumption) ?_
        · intro W0 hSw
          (try dsimp only at hSw)
          go_simp
        simp only [List.set_cons_zero, List.set_cons_succ]
        refine Tr.take_at 4 57 (.agg #[.int .i64 W, .int .i64 H, .slice U nu cu, .slice A nl cl]) rfl rfl (by kernel_rfl) (by kernel_rfl) (by kernel_rfl) (fun _ _ _ h => h) (Or.inl ⟨by rfl, ?_⟩) (by assumption) ?_
        · intro W0 hSw
          (try dsimp only at hSw)
          go_simp
        simp only [List.set_cons_zero, List.set_cons_succ]
        refine Tr.take_at 6 59 (.slice I k ci) rfl rfl (by kernel_rfl) (by kernel_rfl) (by kernel_rfl) (fun _ _ _ h => h) (Or.inl ⟨by rfl, ?_⟩) (by assumption) ?_
        · intro W0 hSw
          (try dsimp only at hSw)
          go_simp
        simp only [List.set_cons_zero, List.set_cons_succ]
        refine wpAnyH_ready (rs := [2]) (by kernel_rfl) (by simp) ?_
        refine AllReadyH.cons rfl (fun K hK => ?_) AllReadyH.nil
        go_simp
        refine (pdrop_any (.agg #[.map mp]) n bs I k ci IL _ (HAT.out.place.below HBW.out) (HI.out.below HBW.out) HIQ.out HNI.out).mono ?_
        rintro e wA ⟨pv2, np2, rfl, hp2, hnp2, hbA⟩
        have HP2 := Lib.hid hp2
        replace HBW := Lib.hid (bstep HBW.out hbA)
        clear hbA hp2 hnp2
        go_simp
        refine hK.out _ _ ?_ (fun hHeld => ?_)
        · (try dsimp only)
          exact ⟨(K6.out.belowS HBW.out).cellV (i := 0) rfl, (K2.out.belowS HBW.out).cellV (i := 0) rfl, (K2.out.belowS HBW.out).cellV (i := 1) rfl, (K2.out.belowS HBW.out).cellV (i := 2) rfl, (K2.out.belowS HBW.out).cellV (i := 3) rfl⟩
        clear hK K
        refine wpAnyH_ready (rs := [5]) (by kernel_rfl) (by simp) ?_
        refine AllReadyH.cons rfl (fun K hK => ?_) AllReadyH.nil
        go_simp
        refine (ids_any ⟨W, H, U, nu, cu, A, nl, cl⟩ L _ (HGL.out.below HBW.out) (by show nl ≤ 1000; omega)).mono ?_
        rintro e wC ⟨Aib, cib, rfl, hoi, hbA⟩
        have HOb := Lib.hid hoi
        have HBVb := Lib.hid HBW.out
        have HBXb := Lib.hid hbA
        replace HBW := Lib.hid (bstep HBW.out hbA)
        clear hbA hoi
        go_simp
        refine hK.out _ _ ?_ (fun hHeld => ?_)
        · (try dsimp only)
          exact ⟨(K6.out.belowS HBW.out).cellV (i := 0) rfl, (K2.out.belowS HBW.out).cellV (i := 0) rfl, (K2.out.belowS HBW.out).cellV (i := 1) rfl, (K2.out.belowS HBW.out).cellV (i := 2) rfl, (K2.out.belowS HBW.out).cellV (i := 3) rfl⟩
        clear hK K
        refine wpAnyH_ready (rs := [7]) (by kernel_rfl) (by simp) ?_
        refine AllReadyH.cons rfl (fun K hK => ?_) AllReadyH.nil
        refine Tr.wanted_plain rfl ?_
        refine wp_append_opt _ _ 22 rfl wA.heap.size 27 i0 _ 1 4 Tryz.underlying22 hi0 hz0 hz1 hz2 rfl (by decide) _ (idsL L).length (U32 (idsL L)) rfl HOb.out I k ci (U32 IL) rfl HUL.out HUS.out (Rd.flat (HI.out.below HBW.out)) (U32_one IL) (by have := HIDN.out; have := H60.out; simp only [maxLen]; omega) (by have := HIDN.out; have := H60.out; omega) HBXb.out.size ?_
        intro v6 w6 hown6 hg6
        obtain ⟨A6, c6, rfl, hc6⟩ := own_form hown6
        have hB6 : Below wA.heap.size wA w6 := HBXb.out.grown hg6 HBXb.out.size (own_ge HOb.out)
        have h5 : Rd w6 A6 ((idsL L).length + k) (U32 (idsL L ++ IL)) := by
          have := Rd.of_own hown6
          rwa [show U32 (idsL L) ++ U32 IL = U32 (idsL L ++ IL) by simp [U32]] at this
        have HI6 := Lib.hid h5
        replace HP2 := Lib.hid (HP2.out.below hB6)
        replace HBW := Lib.hid (bstep HBVb.out hB6)
        clear hown6 hg6 hB6 h5 HBVb HBXb HOb
        refine hK.out _ _ ?_ (fun hHeld => ?_)
        · (try dsimp only)
          exact ⟨(K6.out.belowS HBW.out).cellV (i := 0) rfl, (K2.out.belowS HBW.out).cellV (i := 0) rfl, (K2.out.belowS HBW.out).cellV (i := 1) rfl, (K2.out.belowS HBW.out).cellV (i := 2) rfl, (K2.out.belowS HBW.out).cellV (i := 3) rfl⟩
        clear hK K
        refine wpAnyH_ready (rs := [8]) (by kernel_rfl) (by simp) ?_
        refine AllReadyH.cons rfl (fun K hK => ?_) AllReadyH.nil
        go_simp
        refine (is_any (pv2) np2 (dropBs bs IL) Am lm.length cm lm A6 ((idsL L).length + k) c6 (idsL L ++ IL) _ HP2.out (HLM.out.below HBW.out) (by omega) (HRD.out.mono (fun _ _ h => SmD.below h HBW.out)) (HLD.out.below HBW.out) HI6.out (by have := HIDN.out; have := H60.out; omega) (fun i hi => by rcases List.mem_append.1 hi with h | h; exact HIB.out i h; exact HIQ.out i h)).mono ?_
        rintro e wD ⟨rfl, hbA⟩
        replace HBW := Lib.hid (bstep HBW.out hbA)
        clear hbA
        go_simp
        refine hK.out _ _ ?_ (fun hHeld => ?_)
        · (try dsimp only)
          exact ⟨(K6.out.belowS HBW.out).cellV (i := 0) rfl, (K2.out.belowS HBW.out).cellV (i := 0) rfl, (K2.out.belowS HBW.out).cellV (i := 1) rfl, (K2.out.belowS HBW.out).cellV (i := 2) rfl, (K2.out.belowS HBW.out).cellV (i := 3) rfl⟩
        clear hK K
        refine Tr.take_at 9 62 (.bool true) rfl rfl (by kernel_rfl) (by kernel_rfl) (by kernel_rfl) (fun _ _ _ h => h) (Or.inl ⟨by rfl, ?_⟩) (by assumption) ?_
        · intro W0 hSw
          (try dsimp only at hSw)
          go_simp
        simp only [List.set_cons_zero, List.set_cons_succ]
        refine Tr.take_at 10 63 (.agg #[.map mp]) rfl rfl (by kernel_rfl) (by kernel_rfl) (by kernel_rfl) (fun _ _ _ h => h) (Or.inl ⟨by rfl, ?_⟩) (by assumption) ?_
        · intro W0 hSw
          (try dsimp only at hSw)
          go_simp
        simp only [List.set_cons_zero, List.set_cons_succ]
        refine Tr.take_at 11 64 (.slice Al n cq) rfl rfl (by kernel_rfl) (by kernel_rfl) (by kernel_rfl) (fun _ _ _ h => h) (Or.inl ⟨by rfl, ?_⟩) (by assumption) ?_
        · intro W0 hSw
          (try dsimp only at hSw)
          go_simp
        simp only [List.set_cons_zero, List.set_cons_succ]
        refine Tr.take_at 12 65 (.agg #[.int .i64 W, .int .i64 H, .slice U nu cu, .slice A nl cl]) rfl rfl (by kernel_rfl) (by kernel_rfl) (by kernel_rfl) (fun _ _ _ h => h) (Or.inl ⟨by rfl, ?_⟩) (by assumption) ?_
        · intro W0 hSw
          (try dsimp only at hSw)
          go_simp
        simp only [List.set_cons_zero, List.set_cons_succ]
        refine wpAnyH_ready (rs := [13]) (by kernel_rfl) (by simp) ?_
        refine AllReadyH.cons rfl (fun K hK => ?_) AllReadyH.nil
        go_simp
        refine (ids_any ⟨W, H, U, nu, cu, A, nl, cl⟩ L _ (HGL.out.below HBW.out) (by show nl ≤ 1000; omega)).mono ?_
        rintro e wE ⟨Aic, cic, rfl, hoi, hbA⟩
        have HOc := Lib.hid hoi
        have HBVc := Lib.hid HBW.out
        have HBXc := Lib.hid hbA
        replace HBW := Lib.hid (bstep HBW.out hbA)
        clear hbA hoi
        go_simp
        refine hK.out _ _ ?_ (fun hHeld => ?_)
        · (try dsimp only)
          exact ⟨(K6.out.belowS HBW.out).cellV (i := 0) rfl, (K2.out.belowS HBW.out).cellV (i := 0) rfl, (K2.out.belowS HBW.out).cellV (i := 1) rfl, (K2.out.belowS HBW.out).cellV (i := 2) rfl, (K2.out.belowS HBW.out).cellV (i := 3) rfl⟩
        clear hK K
        refine wpAnyH_ready (rs := [14]) (by kernel_rfl) (by simp) ?_
        refine AllReadyH.cons rfl (fun K hK => ?_) AllReadyH.nil
        go_simp
        refine (is_any (.agg #[.map mp]) n bs Al n cq l Aic (idsL L).length cic (idsL L) _ (HAT.out.place.below HBW.out) (HAT.out.list.below HBW.out) (by omega) (HAT.out.rel.toI.mono (fun _ _ h => SmD.below h HBW.out)) (HLA.out.below HBW.out) (Rd.of_own HOc.out) (by have := HIDN.out; omega) HIB.out).mono ?_
        rintro e wF ⟨rfl, hbA⟩
        replace HBW := Lib.hid (bstep HBW.out hbA)
        clear hbA
        go_simp
        refine hK.out _ _ ?_ (fun hHeld => ?_)
        · (try dsimp only)
          exact ⟨(K6.out.belowS HBW.out).cellV (i := 0) rfl, (K2.out.belowS HBW.out).cellV (i := 0) rfl, (K2.out.belowS HBW.out).cellV (i := 1) rfl, (K2.out.belowS HBW.out).cellV (i := 2) rfl, (K2.out.belowS HBW.out).cellV (i := 3) rfl⟩
        clear hK K
        refine Tr.take_at 15 68 (.bool true) rfl rfl (by kernel_rfl) (by kernel_rfl) (by kernel_rfl) (fun _ _ _ h => h) (Or.inl ⟨by rfl, ?_⟩) (by assumption) ?_
        · intro W0 hSw
          (try dsimp only at hSw)
          go_simp
        simp only [List.set_cons_zero, List.set_cons_succ]
        refine Tr.take_at 16 4 (.bool true) rfl rfl (by kernel_rfl) (by kernel_rfl) (by kernel_rfl) (fun _ _ _ h => h) (Or.inl ⟨by rfl, ?_⟩) (by assumption) ?_
        · intro W0 hSw
          (try dsimp only at hSw)
          go_simp
        simp only [List.set_cons_zero, List.set_cons_succ]
        refine wpAnyH_done (by kernel_rfl) ?_ _
        refine NoPanic.normal ?_
        go_wp2_with fail
        go_ret
        exact ⟨rfl, bstep HB.out HBW.out⟩

end Go.Proofs.YtbfefkhejknmoaaGreatDoor
