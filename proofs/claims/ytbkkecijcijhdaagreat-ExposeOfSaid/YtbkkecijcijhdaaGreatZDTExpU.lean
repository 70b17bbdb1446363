/-
  The walk of region.Union.
-/
import Derived.Test.YtbkkecijcijhdaaGreatZD31
section
namespace Go.Proofs.YtbkkecijcijhdaaGreat
open Go.RowKit Go.Maps Go.Shelf

/-- places of the first 20 by 20. -/
def Small (P : Places) : Prop := ∀ x y, P x y = true → (0 ≤ x ∧ x < 20) ∧ 0 ≤ y ∧ y < 20
theorem Small.box {P : Places} (h : Small P) : BoxP P := fun x y hxy => by
  have := h x y hxy
  omega
def RcOwn (w : World) (lo : Nat) (v : Value) (n : Nat) (rs : List RC) : Prop := w.ownsRow lo 113 4 v n (rcs rs)
theorem RcOwn.below {w w' : World} {lo n : Nat} {v : Value} {rs : List RC} (h : RcOwn w lo v n rs) (hb : Below w.heap.size w w') : RcOwn w' lo v n rs := ownsRow_below h hb
theorem reg_small {w : World} {u : Value} {P : Places} {out : List RC} (hr : RegAt w u out) (hp : ∀ x y, inB out x y = P x y) (hb : Small P) : out.length ≤ 400 := by
  have hin : ∀ x y, InR out x y → (0 ≤ x ∧ x < 20) ∧ 0 ≤ y ∧ y < 20 := fun x y hxy => hb x y (by rw [← hp, inB_iff]; exact hxy)
  have hc : Canon out := by obtain ⟨_, _, _, _, hc, _⟩ := hr; exact hc
  have ha : areaL out = cntP 20 20 (fun x y => inB out (x - 0) (y - 0)) := by
    rw [areaL_S, area_off (w := 20) (h := 20) 0 0 (canon_down hc) (fun x y hxy => by have := hin x y hxy; omega)]
  have h1 := len_area hr.pos
  rw [← areaL_S, ha] at h1
  have h2 := cntP_le 20 20 (fun x y => inB out (x - 0) (y - 0))
  omega
theorem regAt_ofU {w : World} {A : Option Addr} {c : Nat} {out l : List RC} (hr : RdR w A out.length out) (hc : Canon out) (hp : ∀ x y, InR out x y ↔ InR (l.filter RC.cnt) x y) (hl : out.length ≤ 1000000000000) : RegAt w (.agg #[.slice A out.length c]) out := by
  refine ⟨A, c, rfl, hr, hc, hl, fun r hr => ?_⟩
  have hps := canon_pos hc r hr
  obtain ⟨q, hq, h1, h2, h3, h4⟩ := (hp r.X r.Y).1 ⟨r, hr, by omega, by omega, by omega, by omega⟩
  obtain ⟨q', hq', g1, g2, g3, g4⟩ := (hp (r.X + r.W - 1) (r.Y + r.H - 1)).1 ⟨r, hr, by omega, by omega, by omega, by omega⟩
  have b1 := (cnt_iff q).1 (List.mem_filter.1 hq).2
  have b2 := (cnt_iff q').1 (List.mem_filter.1 hq').2
  exact (cnt_iff r).2 (by omega)
theorem rcs_oneU (rs : List RC) : ∀ u ∈ rcs rs, u.oneCell' = true := by
  intro u hu
  obtain ⟨r, _, hr⟩ := List.mem_flatMap.1 hu
  exact cells_one r u hr
theorem inB_append (a b : List RC) (x y : Int) : inB (a ++ b) x y = (inB a x y || inB b x y) := by unfold inB; rw [List.any_append]
theorem filter_cnt {l : List RC} (h : ∀ r ∈ l, r.cnt = true) : l.filter RC.cnt = l := List.filter_eq_self.2 h
theorem Tryz.infoRU : (Tryz.prog.info? 113).map (fun i => (i.zero, i.size, i.bytes)) = some (some (.agg #[.int .i64 0, .int .i64 0, .int .i64 0, .int .i64 0]), 4, 32) := by kernel_rfl
theorem RdR.newsU {w : World} {ad : Addr} {n : Nat} {rs : List RC} (h : RdR w (some ad) n rs) : ∀ j u, (rcs rs)[j]? = some u → w.cell? (ad.add j) = some u := by
  intro j u hj
  have hlt := (List.getElem?_eq_some_iff.1 hj).1
  rw [rcs_len, h.1] at hlt
  obtain ⟨b, off, e, hb, hc⟩ := h.2 (by omega)
  injection e with e
  subst e
  have := rcs_flat' rs off hc j u hj
  unfold Addr.add
  split
  · rename_i e0; subst e0; exact this
  · exact this
set_option maxRecDepth 100000 in
set_option maxHeartbeats 4000000 in
theorem unionP {w : World} {u u' : Value} {P Q : Places} (h : RegP w u P) (h' : RegP w u' Q) (hP : Small P) (hQ : Small Q) :
    Calls Tryz.prog 60 #[u, u'] w fun e w' => ∃ v, e = .returned v ∧ RegP w' v (fun x y => P x y || Q x y) ∧ Below w.heap.size w w' := by
  obtain ⟨i0, hi0, hz0, hz1, hz2⟩ := info_parts Tryz.infoRU
  obtain ⟨a, ha, pa⟩ := h
  obtain ⟨b, hb, pb⟩ := h'
  have HLA := Lib.hid (reg_small ha pa hP)
  have HLB := Lib.hid (reg_small hb pb hQ)
  have HCA := Lib.hid ha.cnt
  have HCB := Lib.hid hb.cnt
  have HPA := Lib.hid pa
  have HPB := Lib.hid pb
  obtain ⟨Aa, ca, e1, h1, h2⟩ := ha
  obtain ⟨Ab, cb, e2, h3, h4⟩ := hb
  subst e1 e2
  have ha : RegAt w (.agg #[.slice Aa a.length ca]) a := ⟨Aa, ca, rfl, h1, h2⟩
  have hb : RegAt w (.agg #[.slice Ab b.length cb]) b := ⟨Ab, cb, rfl, h3, h4⟩
  obtain ⟨na, hna⟩ : ∃ n, a.length = n := ⟨_, rfl⟩
  obtain ⟨nb, hnb⟩ : ∃ n, b.length = n := ⟨_, rfl⟩
  rw [hna] at ha HLA ⊢
  rw [hnb] at hb HLB ⊢
  have HNA := Lib.hid hna
  have HNB := Lib.hid hnb
  clear h1 h2 h3 h4 pa pb hna hnb
  have xB := bal (bal (bal (bre w) (.cells #[.slice Aa na ca] 60)) (.cells #[.slice Ab nb cb] 60)) (.cells #[.slice none 0 0] 60)
  have xK2 := ((Blk.new w 60 #[.slice Aa na ca]).alloc (.cells #[.slice Ab nb cb] 60)).alloc (.cells #[.slice none 0 0] 60)
  have xK3 := (blk_newA w (.cells #[.slice Aa na ca] 60) 60 #[.slice Ab nb cb]).alloc (.cells #[.slice none 0 0] 60)
  have xK4 := blk_newA (w.alloc (.cells #[.slice Aa na ca] 60)) (.cells #[.slice Ab nb cb] 60) 60 #[.slice none 0 0]
  rw [World.size_alloc] at xK4
  have xA := ha.below xB
  have xD := hb.below xB
  go_enter Tryz.func60, Tryz.ntmps60
  go_upto_region 1 with fail
  obtain ⟨X0, hX0⟩ : ∃ X0, ((w.alloc (.cells #[.slice Aa na ca] 60)).alloc (.cells #[.slice Ab nb cb] 60)).alloc (.cells #[.slice none 0 0] 60) = X0 := ⟨_, rfl⟩
  have hsz : X0.heap.size = w.heap.size + 1 + 1 + 1 := by rw [← hX0]; simp
  rw [hX0] at xB xK2 xK3 xK4 xA xD ⊢
  have HB := Lib.hid xB
  have K2 := Lib.hid xK2
  have K3 := Lib.hid xK3
  have K4 := Lib.hid xK4
  have HRA := Lib.hid xA
  have HRB := Lib.hid xD
  have HX0 := Lib.hid (show X0.heap.size ≤ X0.drew.heap.size from Nat.le_refl _)
  clear xB xK2 xK3 xK4 xA xD hX0 ha hb
  have HBW := Lib.hid (show Below w.heap.size w X0.drew from (HB.out).drew)
  have KA904 := Lib.hid ((K4.out).belowS (bre X0).drew)
  have HL904 := Lib.hid (show w.heap.size ≤ (w.heap.size + 1 + 1) from by omega)
  replace K2 := Lib.hid (K2.out.belowS (bre X0).drew)
  replace K3 := Lib.hid (K3.out.belowS (bre X0).drew)
  replace HRA := Lib.hid (HRA.out.below (bre X0).drew)
  replace HRB := Lib.hid (HRB.out.below (bre X0).drew)
  refine wp_region_noPanic ?_
  refine wp_region_held_drew (S := (fun w' => w'.cell? ⟨w.heap.size, 0, none⟩ = some (.slice Aa na ca) ∧ w'.cell? ⟨w.heap.size + 1, 0, none⟩ = some (.slice Ab nb cb))) (by kernel_rfl) ?_ (fun hHeld => ?_)
  · (try dsimp only)
    exact ⟨K2.out.cellV (i := 0) rfl, K3.out.cellV (i := 0) rfl⟩
  refine Tr.take_at 0 5 (.agg #[.slice Aa na ca]) rfl rfl (by kernel_rfl) (by kernel_rfl) (by kernel_rfl) (fun _ _ _ h => h) (Or.inl ⟨by rfl, ?_⟩) (by assumption) ?_
  · intro W0 hSw
    (try dsimp only at hSw)
    go_simp
  simp only [List.set_cons_zero, List.set_cons_succ]
  refine Tr.take_at 2 7 (.agg #[.slice Ab nb cb]) rfl rfl (by kernel_rfl) (by kernel_rfl) (by kernel_rfl) (fun _ _ _ h => h) (Or.inl ⟨by rfl, ?_⟩) (by assumption) ?_
  · intro W0 hSw
    (try dsimp only at hSw)
    go_simp
  simp only [List.set_cons_zero, List.set_cons_succ]
  refine wpAnyH_ready (rs := [1]) (by kernel_rfl) (by simp) ?_
  refine AllReadyH.cons rfl (fun K hK => ?_) AllReadyH.nil
  go_simp
  have hro := rectsO_any (.agg #[.slice Aa na ca]) a _ HRA.out
  rw [HNA.out] at hro
  refine hro.mono ?_
  clear hro
  rintro e wc1 ⟨A1, c1, rfl, ho, hbA⟩
  have HO1 := Lib.hid (show RcOwn wc1 X0.heap.size (.slice A1 na c1) na a from own_lower ho HX0.out)
  replace HX0 := Lib.hid (Nat.le_trans HX0.out hbA.size)
  clear ho
  replace HBW := Lib.hid (bstep HBW.out hbA)
  replace KA904 := Lib.hid (KA904.out.belowS hbA)
  replace K2 := Lib.hid (K2.out.belowS hbA)
  replace K3 := Lib.hid (K3.out.belowS hbA)
  replace HRA := Lib.hid (HRA.out.below hbA)
  replace HRB := Lib.hid (HRB.out.below hbA)
  clear hbA
  go_simp
  refine hK.out _ _ ?_ (fun hHeld => ?_)
  · (try dsimp only)
    exact ⟨K2.out.cellV (i := 0) rfl, K3.out.cellV (i := 0) rfl⟩
  clear hK K
  refine wpAnyH_ready (rs := [3]) (by kernel_rfl) (by simp) ?_
  refine AllReadyH.cons rfl (fun K hK => ?_) AllReadyH.nil
  go_simp
  have hro := rectsO_any (.agg #[.slice Ab nb cb]) b _ HRB.out
  rw [HNB.out] at hro
  refine hro.mono ?_
  clear hro
  rintro e wc3 ⟨A3, c3, rfl, ho, hbA⟩
  have HO3 := Lib.hid (show RcOwn wc3 X0.heap.size (.slice A3 nb c3) nb b from own_lower ho HX0.out)
  replace HX0 := Lib.hid (Nat.le_trans HX0.out hbA.size)
  clear ho
  replace HBW := Lib.hid (bstep HBW.out hbA)
  replace KA904 := Lib.hid (KA904.out.belowS hbA)
  replace K2 := Lib.hid (K2.out.belowS hbA)
  replace K3 := Lib.hid (K3.out.belowS hbA)
  replace HRA := Lib.hid (HRA.out.below hbA)
  replace HRB := Lib.hid (HRB.out.below hbA)
  replace HO1 := Lib.hid (HO1.out.below hbA)
  clear hbA
  go_simp
  refine hK.out _ _ ?_ (fun hHeld => ?_)
  · (try dsimp only)
    exact ⟨K2.out.cellV (i := 0) rfl, K3.out.cellV (i := 0) rfl⟩
  clear hK K
  refine wpAnyH_ready (rs := [4]) (by kernel_rfl) (by simp) ?_
  refine AllReadyH.cons rfl (fun K hK => ?_) AllReadyH.nil
  refine Tr.wanted_plain rfl ?_
  refine wp_append_opt _ _ 58 rfl X0.heap.size 113 i0 _ 4 32 Tryz.underlying58 hi0 hz0 hz1 hz2 rfl (by decide) _ na (rcs a) rfl HO1.out A3 nb c3 (rcs b) rfl (by rw [rcs_len, HNB.out]) (fun h0 => by obtain ⟨_, _, e, _⟩ := (RdR.of_own HO3.out HNB.out).2 h0; rw [e]; rfl) (fun ad e => by subst e; exact (RdR.of_own HO3.out HNB.out).newsU) (rcs_oneU b) (by have := HLA.out; have := HLB.out; simp only [maxLen]; omega) (by have := HLA.out; have := HLB.out; omega) HX0.out ?_
  intro v7 w7 hown hgrow
  obtain ⟨A7, c7, rfl, _⟩ := own_form hown
  have HR7 := Lib.hid (RdR.of_own (show w7.ownsRow X0.heap.size 113 4 (.slice A7 (na + nb) c7) (na + nb) (rcs (a ++ b)) by rw [rcs_append]; exact hown) (by rw [List.length_append, HNA.out, HNB.out]))
  have hge := fun q e => own_ge HO1.out q e
  replace HBW := Lib.hid (HBW.out.grown hgrow HBW.out.size (fun q e => by have := hge q e; omega))
  replace KA904 := Lib.hid (KA904.out.grown hgrow (fun e => by have := hge _ e.symm; omega))
  replace K2 := Lib.hid (K2.out.grown hgrow (fun e => by have := hge _ e.symm; omega))
  replace K3 := Lib.hid (K3.out.grown hgrow (fun e => by have := hge _ e.symm; omega))
  clear hown hgrow hge HO1 HO3 HRA HRB
  refine hK.out _ _ ?_ (fun hHeld => ?_)
  · (try dsimp only)
    exact ⟨K2.out.cellV (i := 0) rfl, K3.out.cellV (i := 0) rfl⟩
  clear hK K
  refine wpAnyH_ready (rs := [5]) (by kernel_rfl) (by simp) ?_
  refine AllReadyH.cons rfl (fun K hK => ?_) AllReadyH.nil
  go_simp
  refine (of_any A7 (na + nb) c7 (a ++ b) _ (by have := HLA.out; have := HLB.out; omega) HR7.out (fun r hr => by
    have hc : r.cnt = true := by
      rcases List.mem_append.1 hr with h | h
      · exact HCA.out r h
      · exact HCB.out r h
    have := (cnt_iff r).1 hc
    omega)).mono ?_
  rintro e wc5 ⟨out, A8, c8, rfl, hr8, hc8, hp8, hl8, hbA⟩
  have HRP := Lib.hid (show RegP wc5 (.agg #[.slice A8 out.length c8]) (fun x y => P x y || Q x y) from ⟨out, regAt_ofU hr8 hc8 hp8 hl8, fun x y => by
    rw [Bool.eq_iff_iff, inB_iff, hp8, filter_cnt (fun r hr => by
      rcases List.mem_append.1 hr with h | h
      · exact HCA.out r h
      · exact HCB.out r h), ← inB_iff, inB_append, HPA.out, HPB.out]⟩)
  clear hr8 hc8 hp8 hl8
  replace HBW := Lib.hid (bstep HBW.out hbA)
  replace KA904 := Lib.hid (KA904.out.belowS hbA)
  replace K2 := Lib.hid (K2.out.belowS hbA)
  replace K3 := Lib.hid (K3.out.belowS hbA)
  replace HR7 := Lib.hid (HR7.out.below hbA)
  clear hbA
  go_simp
  refine hK.out _ _ ?_ (fun hHeld => ?_)
  · (try dsimp only)
    exact ⟨K2.out.cellV (i := 0) rfl, K3.out.cellV (i := 0) rfl⟩
  clear hK K
  refine wpAnyH_ready (rs := [6]) (by kernel_rfl) (by simp) ?_
  refine AllReadyH.cons rfl (fun K hK => ?_) AllReadyH.nil
  refine Tr.wanted_plain rfl ?_
  refine store_mid0 rfl 60 _ _ rfl ((w.heap.size + 1 + 1)) 0 #[.slice A8 out.length c8] (by rfl) (by rfl) (by have h := there_blk KA904.out; exact h) Tryz.sizeRg (by simp [Value.oneCell']) ?_
  have xK := blk_puts1 (.slice A8 out.length c8) KA904.out
  have xB := bsets HBW.out HL904.out (#[.slice A8 out.length c8] : Array Value).toList 0
  have xK2 := (show Blk (World.setCells (wc5) ((w.heap.size + 1 + 1)) 0 (#[.slice A8 out.length c8] : Array Value).toList) (w.heap.size) 60 _ from K2.out.farCells (by show _ ≠ _; omega) _ _)
  have xK3 := (show Blk (World.setCells (wc5) ((w.heap.size + 1 + 1)) 0 (#[.slice A8 out.length c8] : Array Value).toList) (w.heap.size + 1) 60 _ from K3.out.farCells (by show _ ≠ _; omega) _ _)
  have xHR7 := (show RdR (World.setCells (wc5) ((w.heap.size + 1 + 1)) 0 (#[.slice A8 out.length c8] : Array Value).toList) _ _ _ from rdR_farS HR7.out KA904.out _)
  have xHRP := (show RegP (World.setCells (wc5) ((w.heap.size + 1 + 1)) 0 (#[.slice A8 out.length c8] : Array Value).toList) _ _ from HRP.out.sets1 KA904.out)
  obtain ⟨wS6, hwS⟩ : ∃ wS, World.setCells wc5 ((w.heap.size + 1 + 1)) 0 (#[.slice A8 out.length c8] : Array Value).toList = wS := ⟨_, rfl⟩
  rw [hwS] at xK xB xK2 xK3 xHR7 xHRP ⊢
  replace HBW := Lib.hid xB
  replace KA904 := Lib.hid xK
  replace K2 := Lib.hid xK2
  replace K3 := Lib.hid xK3
  replace HR7 := Lib.hid xHR7
  replace HRP := Lib.hid xHRP
  clear hwS xK xB xK2 xK3 xHR7 xHRP
  refine hK.out _ _ ?_ (fun hHeld => ?_)
  · (try dsimp only)
    exact ⟨K2.out.cellV (i := 0) rfl, K3.out.cellV (i := 0) rfl⟩
  clear hK K
  refine wpAnyH_done (by kernel_rfl) ?_ _
  refine NoPanic.normal ?_
  have r0 := KA904.out.cellV (i := 0) (v := .slice A8 out.length c8) rfl
  repeat (first | go_values | go_skip | go_guarded | go_step | go_upon)
  refine bodyPost_ret (v := .agg #[.slice A8 out.length c8]) (by simp [results, Tryz.results60, go_sem, r0]) rfl ⟨_, rfl, HRP.out, HBW.out⟩
end Go.Proofs.YtbkkecijcijhdaaGreat
end
