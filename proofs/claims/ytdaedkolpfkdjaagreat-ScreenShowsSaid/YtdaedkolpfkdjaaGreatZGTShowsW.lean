/-
  The walk of ScreenShows.
-/
import Derived.Test.YtdaedkolpfkdjaaGreatZG29
import Derived.Test.YtdaedkolpfkdjaaGreatZG34
import Derived.Test.YtdaedkolpfkdjaaGreatZG35
section
namespace Go.Proofs.YtdaedkolpfkdjaaGreat
open Go.RowKit Go.Maps Go.Shelf

set_option maxRecDepth 100000 in
set_option maxHeartbeats 8000000 in
theorem screenShows_any (A : Option Addr) (n c : Nat) (ps : List PN34) (a b : Int) (w : World) (hn : n ≤ maxLen) (hr : RdP34 w A n ps) (hok : ∀ p ∈ ps, p.ok) (ha0 : 0 ≤ a ∧ a ≤ 255) (hb0 : 0 ≤ b ∧ b ≤ 255) :
 Calls Tryz.prog 5 #[.slice A n c, .int .u8 a, .int .u8 b] w fun e w' => e = .returned (.bool true) ∧ Below w.heap.size w w' := by
 go_enter Tryz.func5, Tryz.ntmps5
 go_wp2_with fail
 refine (make34_any A n c ps _ hn hr hok).mono ?_
 rintro e w1 ⟨ok, m1, m2, m3, m4, A0, n0, c0, rfl, hm, hb1⟩
 have HM0 := Lib.hid hm
 have ha := bal (bre w1) (.cells #[.map m1, .map m2, .map m3, .map m4, .slice A0 n0 c0] 70)
 have xk := Blk.new w1 70 #[.map m1, .map m2, .map m3, .map m4, .slice A0 n0 c0]
 have HB := Lib.hid (bstep hb1 ha)
 clear hm hb1
 cases ok with
 | false =>
  clear ha xk HM0
  as_aux_lemma =>
   go_wp2_with (go_at_call 34; refine (awake34_any _).mono ?_; rintro e w9 ⟨rfl, hb9⟩; have HB9 := Lib.hid (bstep HB.out hb9); clear hb9)
   go_ret
   exact ⟨rfl, HB9.out⟩
 | true =>
  obtain ⟨l, mk, mu, mp, mc, AL, cL, RW, RH, hmade⟩ := HM0.out rfl
  obtain ⟨rfl, rfl, rfl, rfl, rfl, rfl, rfl⟩ := hmade.form
  have hm2 := hmade.below ha
  clear HM0 hmade ha
  have hb2 := HB.out
  go_upto_region 4 with fail
  obtain ⟨g1, hg1⟩ : ∃ g, w1.heap.size = g := ⟨_, rfl⟩
  obtain ⟨X1, hX1⟩ : ∃ X, w1.alloc (.cells #[.map m1, .map m2, .map m3, .map m4, .slice A0 l.length c0] 70) = X := ⟨_, rfl⟩
  rw [hX1] at hm2 xk hb2 ⊢
  rw [hg1] at xk ⊢
  have HM := Lib.hid hm2
  have KM := Lib.hid xk
  replace HB := Lib.hid hb2
  clear hm2 xk hb2 hX1 hg1
  obtain ⟨W, hW⟩ : ∃ W : Nat, a % 24 = (W : Int) := ⟨(a % 24).toNat, by omega⟩
  obtain ⟨H, hH⟩ : ∃ H : Nat, b % 24 = (H : Int) := ⟨(b % 24).toNat, by omega⟩
  have hWb : W < 24 := by omega
  have hHb : H < 24 := by omega
  have t0 : a.tmod 24 = (W : Int) := by rw [Int.tmod_eq_emod_of_nonneg (by omega)]; exact hW
  have t1 : b.tmod 24 = (H : Int) := by rw [Int.tmod_eq_emod_of_nonneg (by omega)]; exact hH
  have t2 : IntKind.u8.wrap (W : Int) = (W : Int) := IntWalk.u8_in _ (by omega)
  have t3 : IntKind.u8.wrap (H : Int) = (H : Int) := IntWalk.u8_in _ (by omega)
  have t4 : IntKind.i64.wrap (W : Int) = (W : Int) := IntWalk.i64_in _ (by omega)
  have t5 : IntKind.i64.wrap (H : Int) = (H : Int) := IntWalk.i64_in _ (by omega)
  clear hW hH
  go_upto_region 5 with fail
  clear t0 t1 t2 t3 t4 t5
  by_cases hz : (Gr.sideB (W : Int) && Gr.sideB (H : Int)) = true
  ·
   have hz1 : 1 ≤ W ∧ 1 ≤ H := by
    unfold Gr.sideB at hz
    rw [Bool.and_eq_true, decide_eq_true_eq, decide_eq_true_eq] at hz
    omega
   clear hz
   go_cut [11, 12] from 31 to 42 (fun s11 s12 wx => ∃ (g : Nat) (Ag : Option Addr) (cg : Nat) (px : List Int), s11 = .pointer (some ⟨g, 0, none⟩) ∧ s12 = .int .i64 0 ∧ Blk wx g 75 #[.int .i64 W, .int .i64 H, .slice Ag (W * H) cg] ∧ Rd wx Ag (W * H) (Gr.U8 px) ∧ (∀ x y : Nat, x < W → y < H → Gr.gat W H px x y = pixD l RW RH x y) ∧ Below X1.heap.size X1 wx)
   case first =>
    as_aux_lemma =>
     have HBW := Lib.hid (show Below X1.heap.size X1 X1.drew from (bre X1).drew)
     have KW := Lib.hid (fun (W' : World) (h : Below X1.heap.size X1 W') => show (fun w' => w'.cell? ⟨g1, 0, none⟩ = some (.map m1) ∧ w'.cell? ⟨g1, 1, none⟩ = some (.map m2) ∧ w'.cell? ⟨g1, 2, none⟩ = some (.map m3) ∧ w'.cell? ⟨g1, 3, none⟩ = some (.map m4)) W' from ⟨(KM.out.belowS h).cellV (i := 0) rfl, (KM.out.belowS h).cellV (i := 1) rfl, (KM.out.belowS h).cellV (i := 2) rfl, (KM.out.belowS h).cellV (i := 3) rfl⟩)
     refine wp_region_noPanic ?_
     refine wp_region_held_drew (S := (fun w' => w'.cell? ⟨g1, 0, none⟩ = some (.map m1) ∧ w'.cell? ⟨g1, 1, none⟩ = some (.map m2) ∧ w'.cell? ⟨g1, 2, none⟩ = some (.map m3) ∧ w'.cell? ⟨g1, 3, none⟩ = some (.map m4))) (by kernel_rfl) ?_ (fun _ => ?_)
     ·
      (try dsimp only)
      exact ⟨(KM.out.belowS HBW.out).cellV (i := 0) rfl, (KM.out.belowS HBW.out).cellV (i := 1) rfl, (KM.out.belowS HBW.out).cellV (i := 2) rfl, (KM.out.belowS HBW.out).cellV (i := 3) rfl⟩
     refine Tr.take_at 0 31 (.pointer (some ⟨g1, 0, none⟩)) rfl rfl (by kernel_rfl) (by kernel_rfl) (by kernel_rfl) (fun _ _ _ h => h) (Or.inl ⟨by rfl, ?_⟩) (by assumption) ?_
     ·
      intro W0 hSw
      (try dsimp only at hSw)
      go_simp
     simp only [List.set_cons_zero, List.set_cons_succ]
     refine Tr.take_at 1 32 (.agg #[.map m1, .map m2]) rfl rfl (by kernel_rfl) (by kernel_rfl) (by kernel_rfl) (fun _ _ _ h => h) (Or.inl ⟨by rfl, ?_⟩) (by assumption) ?_
     ·
      intro W0 hSw
      (try dsimp only at hSw)
      go_simp
     simp only [List.set_cons_zero, List.set_cons_succ]
     refine Tr.take_at 2 33 (.pointer (some ⟨g1, 2, none⟩)) rfl rfl (by kernel_rfl) (by kernel_rfl) (by kernel_rfl) (fun _ _ _ h => h) (Or.inl ⟨by rfl, ?_⟩) (by assumption) ?_
     ·
      intro W0 hSw
      (try dsimp only at hSw)
      go_simp
     simp only [List.set_cons_zero, List.set_cons_succ]
     refine Tr.take_at 3 34 (.agg #[.map m3]) rfl rfl (by kernel_rfl) (by kernel_rfl) (by kernel_rfl) (fun _ _ _ h => h) (Or.inl ⟨by rfl, ?_⟩) (by assumption) ?_
     ·
      intro W0 hSw
      (try dsimp only at hSw)
      go_simp
     simp only [List.set_cons_zero, List.set_cons_succ]
     refine Tr.take_at 5 36 (.pointer (some ⟨g1, 3, none⟩)) rfl rfl (by kernel_rfl) (by kernel_rfl) (by kernel_rfl) (fun _ _ _ h => h) (Or.inl ⟨by rfl, ?_⟩) (by assumption) ?_
     ·
      intro W0 hSw
      (try dsimp only at hSw)
      go_simp
     simp only [List.set_cons_zero, List.set_cons_succ]
     refine Tr.take_at 6 37 (.agg #[.map m4]) rfl rfl (by kernel_rfl) (by kernel_rfl) (by kernel_rfl) (fun _ _ _ h => h) (Or.inl ⟨by rfl, ?_⟩) (by assumption) ?_
     ·
      intro W0 hSw
      (try dsimp only at hSw)
      go_simp
     simp only [List.set_cons_zero, List.set_cons_succ]
     refine Tr.take_at 7 38 (.int .i64 W) rfl rfl (by kernel_rfl) (by kernel_rfl) (by kernel_rfl) (fun _ _ _ h => h) (Or.inl ⟨by rfl, ?_⟩) (by assumption) ?_
     ·
      intro W0 hSw
      (try dsimp only at hSw)
      go_simp
     simp only [List.set_cons_zero, List.set_cons_succ]
     refine Tr.take_at 8 39 (.int .i64 H) rfl rfl (by kernel_rfl) (by kernel_rfl) (by kernel_rfl) (fun _ _ _ h => h) (Or.inl ⟨by rfl, ?_⟩) (by assumption) ?_
     ·
      intro W0 hSw
      (try dsimp only at hSw)
      go_simp
     simp only [List.set_cons_zero, List.set_cons_succ]
     refine wpAnyH_ready (rs := [4, 13]) (by kernel_rfl) (by simp) ?_
     refine AllReadyH.cons rfl (fun K hK => ?_) (AllReadyH.cons rfl (fun K hK => ?_) AllReadyH.nil)
     ·
      go_simp
      refine (view34 (HM.out.below HBW.out) hok).mono ?_
      rintro e wc3 ⟨Av, nv, cv, mv, og, rfl, hse, hbA⟩
      have HSE := Lib.hid hse
      clear hse
      replace HBW := Lib.hid (bstep HBW.out hbA); clear hbA; go_simp
      refine hK.out _ _ (KW.out _ HBW.out) (fun _ => ?_); clear hK K
      refine wpAnyH_ready (rs := [9, 13]) (by kernel_rfl) (by simp) ?_
      refine AllReadyH.cons rfl (fun K hK => ?_) (AllReadyH.cons rfl (fun K hK => ?_) AllReadyH.nil)
      ·
       go_simp
       refine (show34 (HM.out.below HBW.out) (HSE.out.below (bre _)) (W := W) (H := H) ⟨hz1.1, by omega⟩ ⟨hz1.2, by omega⟩).mono ?_
       rintro e wc5 ⟨Ag, cg, px, rfl, hrg, hcg, hpx, hbA⟩
       have HRG := Lib.hid hrg
       have HCG := Lib.hid hcg
       have HPX := Lib.hid hpx
       clear hrg hcg hpx
       replace HBW := Lib.hid (bstep HBW.out hbA)
       replace HSE := Lib.hid (HSE.out.below hbA); clear hbA; go_simp
       refine hK.out _ _ (KW.out _ HBW.out) (fun _ => ?_); clear hK K
       refine Tr.take_at 10 30 (.tuple #[.agg #[.int .i64 W, .int .i64 H, .slice Ag (W * H) cg], .int .i64 0]) rfl rfl (by kernel_rfl) (by kernel_rfl) (by kernel_rfl) (fun _ _ _ h => h) (Or.inl ⟨by rfl, ?_⟩) (by assumption) ?_
       ·
        intro W0 hSw
        (try dsimp only at hSw)
        go_simp
       simp only [List.set_cons_zero, List.set_cons_succ]
       refine Tr.take_at 11 41 (.agg #[.int .i64 W, .int .i64 H, .slice Ag (W * H) cg]) rfl rfl (by kernel_rfl) (by kernel_rfl) (by kernel_rfl) (fun _ _ _ h => h) (Or.inl ⟨by rfl, ?_⟩) (by assumption) ?_
       ·
        intro W0 hSw
        (try dsimp only at hSw)
        go_simp
       simp only [List.set_cons_zero, List.set_cons_succ]
       refine Tr.take_at 12 42 (.int .i64 0) rfl rfl (by kernel_rfl) (by kernel_rfl) (by kernel_rfl) (fun _ _ _ h => h) (Or.inl ⟨by rfl, ?_⟩) (by assumption) ?_
       ·
        intro W0 hSw
        (try dsimp only at hSw)
        go_simp
       simp only [List.set_cons_zero, List.set_cons_succ]
       refine wpAnyH_ready (rs := [13]) (by kernel_rfl) (by simp) ?_
       refine AllReadyH.cons rfl (fun K hK => ?_) AllReadyH.nil; go_simp
       have KA13 := Lib.hid (show Blk (wc5.alloc (.cells #[.int .i64 0, .int .i64 0, .slice none 0 0] 75)) (wc5.heap.size) 75 #[.int .i64 0, .int .i64 0, .slice none 0 0] from Blk.new wc5 75 #[.int .i64 0, .int .i64 0, .slice none 0 0])
       have HL13 := Lib.hid (show X1.heap.size ≤ wc5.heap.size from HBW.out.size)
       have hbA : Below wc5.heap.size wc5 ((wc5.alloc (.cells #[.int .i64 0, .int .i64 0, .slice none 0 0] 75))) := bal (bre wc5) (.cells #[.int .i64 0, .int .i64 0, .slice none 0 0] 75)
       replace HBW := Lib.hid (bstep HBW.out hbA)
       replace HRG := Lib.hid (HRG.out.below hbA); clear hbA
       refine hK.out _ _ (KW.out _ HBW.out) (fun _ => ?_); clear hK K
       refine wpAnyH_ready (rs := [14]) (by kernel_rfl) (by simp) ?_
       refine AllReadyH.cons rfl (fun K hK => ?_) AllReadyH.nil
       refine Tr.wanted_plain rfl ?_
       refine store_mid0 rfl 75 _ _ rfl (wc5.heap.size) 0 #[.int .i64 W, .int .i64 H, .slice Ag (W * H) cg] (by rfl) (by rfl) (by have h := there_blk KA13.out; exact h) Tryz.sizeGr (by simp [Value.oneCell']) ?_
       have xK := blk_puts3 (.int .i64 W) (.int .i64 H) (.slice Ag (W * H) cg) KA13.out
       have xB := bsets HBW.out HL13.out (#[.int .i64 W, .int .i64 H, .slice Ag (W * H) cg] : Array Value).toList 0
       have xHRG := (show Rd (World.setCells (wc5.alloc (.cells #[.int .i64 0, .int .i64 0, .slice none 0 0] 75)) (wc5.heap.size) 0 (#[.int .i64 W, .int .i64 H, .slice Ag (W * H) cg] : Array Value).toList) Ag (W * H) (Gr.U8 px) from rd_nou8s (rd_nou8s (rd_nou8s HRG.out KA13.out (grid_no8s _ _ _ _ _) 0 (.int .i64 W)) (KA13.out.set_ 0 (.int .i64 W)) (grid_no8s _ _ _ _ _) 1 (.int .i64 H)) ((KA13.out.set_ 0 (.int .i64 W)).set_ 1 (.int .i64 H)) (grid_no8s _ _ _ _ _) 2 (.slice Ag (W * H) cg))
       obtain ⟨wS14, hwS⟩ : ∃ wS, World.setCells (wc5.alloc (.cells #[.int .i64 0, .int .i64 0, .slice none 0 0] 75)) (wc5.heap.size) 0 (#[.int .i64 W, .int .i64 H, .slice Ag (W * H) cg] : Array Value).toList = wS := ⟨_, rfl⟩
       rw [hwS] at xK xB xHRG ⊢
       replace HBW := Lib.hid xB
       replace KA13 := Lib.hid xK
       replace HRG := Lib.hid xHRG
       clear hwS xK xB xHRG
       refine hK.out _ _ (KW.out _ HBW.out) (fun _ => ?_); clear hK K
       refine Tr.take_at 15 12 (.int .i64 0) rfl rfl (by kernel_rfl) (by kernel_rfl) (by kernel_rfl) (fun _ _ _ h => h) (Or.inl ⟨by rfl, ?_⟩) (by assumption) ?_
       ·
        intro W0 hSw
        (try dsimp only at hSw)
        go_simp
       simp only [List.set_cons_zero, List.set_cons_succ]
       refine wpAnyH_done (by kernel_rfl) ?_ _
       refine NoPanic.normal ?_
       go_wp2_with fail
       go_meet
       exact ⟨_, Ag, cg, px, rfl, rfl, KA13.out, HRG.out, HPX.out.2, HBW.out⟩
      ·
       go_simp
       have KA13 := Lib.hid (show Blk (wc3.alloc (.cells #[.int .i64 0, .int .i64 0, .slice none 0 0] 75)) (wc3.heap.size) 75 #[.int .i64 0, .int .i64 0, .slice none 0 0] from Blk.new wc3 75 #[.int .i64 0, .int .i64 0, .slice none 0 0])
       have HL13 := Lib.hid (show X1.heap.size ≤ wc3.heap.size from HBW.out.size)
       have hbA : Below wc3.heap.size wc3 ((wc3.alloc (.cells #[.int .i64 0, .int .i64 0, .slice none 0 0] 75))) := bal (bre wc3) (.cells #[.int .i64 0, .int .i64 0, .slice none 0 0] 75)
       replace HBW := Lib.hid (bstep HBW.out hbA)
       replace HSE := Lib.hid (HSE.out.below hbA); clear hbA
       refine hK.out _ _ (KW.out _ HBW.out) (fun _ => ?_); clear hK K
       refine wpAnyH_ready (rs := [9]) (by kernel_rfl) (by simp) ?_
       refine AllReadyH.cons rfl (fun K hK => ?_) AllReadyH.nil; go_simp
       refine (show34 (HM.out.below HBW.out) (HSE.out.below (bre _)) (W := W) (H := H) ⟨hz1.1, by omega⟩ ⟨hz1.2, by omega⟩).mono ?_
       rintro e wc5 ⟨Ag, cg, px, rfl, hrg, hcg, hpx, hbA⟩
       have HRG := Lib.hid hrg
       have HCG := Lib.hid hcg
       have HPX := Lib.hid hpx
       clear hrg hcg hpx
       replace HBW := Lib.hid (bstep HBW.out hbA)
       replace KA13 := Lib.hid (KA13.out.belowS hbA)
       replace HSE := Lib.hid (HSE.out.below hbA); clear hbA; go_simp
       refine hK.out _ _ (KW.out _ HBW.out) (fun _ => ?_); clear hK K
       refine Tr.take_at 10 30 (.tuple #[.agg #[.int .i64 W, .int .i64 H, .slice Ag (W * H) cg], .int .i64 0]) rfl rfl (by kernel_rfl) (by kernel_rfl) (by kernel_rfl) (fun _ _ _ h => h) (Or.inl ⟨by rfl, ?_⟩) (by assumption) ?_
       ·
        intro W0 hSw
        (try dsimp only at hSw)
        go_simp
       simp only [List.set_cons_zero, List.set_cons_succ]
       refine Tr.take_at 11 41 (.agg #[.int .i64 W, .int .i64 H, .slice Ag (W * H) cg]) rfl rfl (by kernel_rfl) (by kernel_rfl) (by kernel_rfl) (fun _ _ _ h => h) (Or.inl ⟨by rfl, ?_⟩) (by assumption) ?_
       ·
        intro W0 hSw
        (try dsimp only at hSw)
        go_simp
       simp only [List.set_cons_zero, List.set_cons_succ]
       refine Tr.take_at 12 42 (.int .i64 0) rfl rfl (by kernel_rfl) (by kernel_rfl) (by kernel_rfl) (fun _ _ _ h => h) (Or.inl ⟨by rfl, ?_⟩) (by assumption) ?_
       ·
        intro W0 hSw
        (try dsimp only at hSw)
        go_simp
       simp only [List.set_cons_zero, List.set_cons_succ]
       refine wpAnyH_ready (rs := [14]) (by kernel_rfl) (by simp) ?_
       refine AllReadyH.cons rfl (fun K hK => ?_) AllReadyH.nil
       refine Tr.wanted_plain rfl ?_
       refine store_mid0 rfl 75 _ _ rfl (wc3.heap.size) 0 #[.int .i64 W, .int .i64 H, .slice Ag (W * H) cg] (by rfl) (by rfl) (by have h := there_blk KA13.out; exact h) Tryz.sizeGr (by simp [Value.oneCell']) ?_
       have xK := blk_puts3 (.int .i64 W) (.int .i64 H) (.slice Ag (W * H) cg) KA13.out
       have xB := bsets HBW.out HL13.out (#[.int .i64 W, .int .i64 H, .slice Ag (W * H) cg] : Array Value).toList 0
       have xHRG := (show Rd (World.setCells (wc5) (wc3.heap.size) 0 (#[.int .i64 W, .int .i64 H, .slice Ag (W * H) cg] : Array Value).toList) Ag (W * H) (Gr.U8 px) from rd_nou8s (rd_nou8s (rd_nou8s HRG.out KA13.out (grid_no8s _ _ _ _ _) 0 (.int .i64 W)) (KA13.out.set_ 0 (.int .i64 W)) (grid_no8s _ _ _ _ _) 1 (.int .i64 H)) ((KA13.out.set_ 0 (.int .i64 W)).set_ 1 (.int .i64 H)) (grid_no8s _ _ _ _ _) 2 (.slice Ag (W * H) cg))
       obtain ⟨wS14, hwS⟩ : ∃ wS, World.setCells wc5 (wc3.heap.size) 0 (#[.int .i64 W, .int .i64 H, .slice Ag (W * H) cg] : Array Value).toList = wS := ⟨_, rfl⟩
       rw [hwS] at xK xB xHRG ⊢
       replace HBW := Lib.hid xB
       replace KA13 := Lib.hid xK
       replace HRG := Lib.hid xHRG
       clear hwS xK xB xHRG
       refine hK.out _ _ (KW.out _ HBW.out) (fun _ => ?_); clear hK K
       refine Tr.take_at 15 12 (.int .i64 0) rfl rfl (by kernel_rfl) (by kernel_rfl) (by kernel_rfl) (fun _ _ _ h => h) (Or.inl ⟨by rfl, ?_⟩) (by assumption) ?_
       ·
        intro W0 hSw
        (try dsimp only at hSw)
        go_simp
       simp only [List.set_cons_zero, List.set_cons_succ]
       refine wpAnyH_done (by kernel_rfl) ?_ _
       refine NoPanic.normal ?_
       go_wp2_with fail
       go_meet
       exact ⟨_, Ag, cg, px, rfl, rfl, KA13.out, HRG.out, HPX.out.2, HBW.out⟩
     ·
      go_simp
      have KA13 := Lib.hid (show Blk (X1.alloc (.cells #[.int .i64 0, .int .i64 0, .slice none 0 0] 75)).drew (X1.heap.size) 75 #[.int .i64 0, .int .i64 0, .slice none 0 0] from Blk.new X1.drew 75 #[.int .i64 0, .int .i64 0, .slice none 0 0])
      have HL13 := Lib.hid (show X1.heap.size ≤ X1.heap.size from HBW.out.size)
      have hbA : Below X1.drew.heap.size X1.drew ((X1.alloc (.cells #[.int .i64 0, .int .i64 0, .slice none 0 0] 75)).drew) := bal (bre X1.drew) (.cells #[.int .i64 0, .int .i64 0, .slice none 0 0] 75)
      replace HBW := Lib.hid (bstep HBW.out hbA); clear hbA
      refine hK.out _ _ (KW.out _ HBW.out) (fun _ => ?_); clear hK K
      refine wpAnyH_ready (rs := [4]) (by kernel_rfl) (by simp) ?_
      refine AllReadyH.cons rfl (fun K hK => ?_) AllReadyH.nil; go_simp
      refine (view34 (HM.out.below HBW.out) hok).mono ?_
      rintro e wc3 ⟨Av, nv, cv, mv, og, rfl, hse, hbA⟩
      have HSE := Lib.hid hse
      clear hse
      replace HBW := Lib.hid (bstep HBW.out hbA)
      replace KA13 := Lib.hid (KA13.out.belowS hbA); clear hbA; go_simp
      refine hK.out _ _ (KW.out _ HBW.out) (fun _ => ?_); clear hK K
      refine wpAnyH_ready (rs := [9]) (by kernel_rfl) (by simp) ?_
      refine AllReadyH.cons rfl (fun K hK => ?_) AllReadyH.nil; go_simp
      refine (show34 (HM.out.below HBW.out) (HSE.out.below (bre _)) (W := W) (H := H) ⟨hz1.1, by omega⟩ ⟨hz1.2, by omega⟩).mono ?_
      rintro e wc5 ⟨Ag, cg, px, rfl, hrg, hcg, hpx, hbA⟩
      have HRG := Lib.hid hrg
      have HCG := Lib.hid hcg
      have HPX := Lib.hid hpx
      clear hrg hcg hpx
      replace HBW := Lib.hid (bstep HBW.out hbA)
      replace KA13 := Lib.hid (KA13.out.belowS hbA)
      replace HSE := Lib.hid (HSE.out.below hbA); clear hbA; go_simp
      refine hK.out _ _ (KW.out _ HBW.out) (fun _ => ?_); clear hK K
      refine Tr.take_at 10 30 (.tuple #[.agg #[.int .i64 W, .int .i64 H, .slice Ag (W * H) cg], .int .i64 0]) rfl rfl (by kernel_rfl) (by kernel_rfl) (by kernel_rfl) (fun _ _ _ h => h) (Or.inl ⟨by rfl, ?_⟩) (by assumption) ?_
      ·
       intro W0 hSw
       (try dsimp only at hSw)
       go_simp
      simp only [List.set_cons_zero, List.set_cons_succ]
      refine Tr.take_at 11 41 (.agg #[.int .i64 W, .int .i64 H, .slice Ag (W * H) cg]) rfl rfl (by kernel_rfl) (by kernel_rfl) (by kernel_rfl) (fun _ _ _ h => h) (Or.inl ⟨by rfl, ?_⟩) (by assumption) ?_
      ·
       intro W0 hSw
       (try dsimp only at hSw)
       go_simp
      simp only [List.set_cons_zero, List.set_cons_succ]
      refine Tr.take_at 12 42 (.int .i64 0) rfl rfl (by kernel_rfl) (by kernel_rfl) (by kernel_rfl) (fun _ _ _ h => h) (Or.inl ⟨by rfl, ?_⟩) (by assumption) ?_
      ·
       intro W0 hSw
       (try dsimp only at hSw)
       go_simp
      simp only [List.set_cons_zero, List.set_cons_succ]
      refine wpAnyH_ready (rs := [14]) (by kernel_rfl) (by simp) ?_
      refine AllReadyH.cons rfl (fun K hK => ?_) AllReadyH.nil
      refine Tr.wanted_plain rfl ?_
      refine store_mid0 rfl 75 _ _ rfl (X1.heap.size) 0 #[.int .i64 W, .int .i64 H, .slice Ag (W * H) cg] (by rfl) (by rfl) (by have h := there_blk KA13.out; exact h) Tryz.sizeGr (by simp [Value.oneCell']) ?_
      have xK := blk_puts3 (.int .i64 W) (.int .i64 H) (.slice Ag (W * H) cg) KA13.out
      have xB := bsets HBW.out HL13.out (#[.int .i64 W, .int .i64 H, .slice Ag (W * H) cg] : Array Value).toList 0
      have xHRG := (show Rd (World.setCells (wc5) (X1.heap.size) 0 (#[.int .i64 W, .int .i64 H, .slice Ag (W * H) cg] : Array Value).toList) Ag (W * H) (Gr.U8 px) from rd_nou8s (rd_nou8s (rd_nou8s HRG.out KA13.out (grid_no8s _ _ _ _ _) 0 (.int .i64 W)) (KA13.out.set_ 0 (.int .i64 W)) (grid_no8s _ _ _ _ _) 1 (.int .i64 H)) ((KA13.out.set_ 0 (.int .i64 W)).set_ 1 (.int .i64 H)) (grid_no8s _ _ _ _ _) 2 (.slice Ag (W * H) cg))
      obtain ⟨wS14, hwS⟩ : ∃ wS, World.setCells wc5 (X1.heap.size) 0 (#[.int .i64 W, .int .i64 H, .slice Ag (W * H) cg] : Array Value).toList = wS := ⟨_, rfl⟩
      rw [hwS] at xK xB xHRG ⊢
      replace HBW := Lib.hid xB
      replace KA13 := Lib.hid xK
      replace HRG := Lib.hid xHRG
      clear hwS xK xB xHRG
      refine hK.out _ _ (KW.out _ HBW.out) (fun _ => ?_); clear hK K
      refine Tr.take_at 15 12 (.int .i64 0) rfl rfl (by kernel_rfl) (by kernel_rfl) (by kernel_rfl) (fun _ _ _ h => h) (Or.inl ⟨by rfl, ?_⟩) (by assumption) ?_
      ·
       intro W0 hSw
       (try dsimp only at hSw)
       go_simp
      simp only [List.set_cons_zero, List.set_cons_succ]
      refine wpAnyH_done (by kernel_rfl) ?_ _
      refine NoPanic.normal ?_
      go_wp2_with fail
      go_meet
      exact ⟨_, Ag, cg, px, rfl, rfl, KA13.out, HRG.out, HPX.out.2, HBW.out⟩
   obtain ⟨g, Ag, cg, px, rfl, rfl, k3, hrg, hpx, hbc⟩ := hcut
   have KG := Lib.hid k3
   have HRG := Lib.hid hrg
   have HPX := Lib.hid hpx
   have HDO := Lib.hid ((HM.out.doc hok).below hbc)
   replace KM := Lib.hid (KM.out.belowS hbc)
   replace HB := Lib.hid (bstep HB.out hbc)
   clear k3 hrg hpx hbc
   have z1 : ((W : Int) == 0) = false := by rw [beq_eq_false_iff_ne]; omega
   have z2 : ((H : Int) == 0) = false := by rw [beq_eq_false_iff_ne]; omega
   have y0 := KG.out.cellV (i := 0) (v := .int .i64 W) rfl
   have y1 := KG.out.cellV (i := 1) (v := .int .i64 H) rfl
   have y2 := KG.out.cellV (i := 2) (v := .slice Ag (W * H) cg) rfl
   go_wp2_with fail
   refine (Gr.size_any W H Ag (W * H) cg _).mono ?_
   rintro e w5 ⟨rfl, hb5⟩
   replace KG := Lib.hid (KG.out.belowS hb5)
   replace HRG := Lib.hid (HRG.out.below hb5)
   replace HDO := Lib.hid (HDO.out.below hb5)
   replace KM := Lib.hid (KM.out.belowS hb5)
   replace HB := Lib.hid (bstep HB.out hb5)
   obtain ⟨X5, hX5⟩ : ∃ X, X = w5 := ⟨_, rfl⟩
   subst hX5
   have hmul : W * H ≤ 16384 := Gr.mul_le_128 (by omega) (by omega)
   have m0 : (W : Int) * (H : Int) = ((W * H : Nat) : Int) := (Int.natCast_mul _ _).symm
   obtain ⟨N, hN⟩ : ∃ N, W * H = N := ⟨_, rfl⟩
   have HN := Lib.hid hN
   rw [hN] at m0 hmul
   have t0 : IntKind.i64.wrap ((W : Int) * (H : Int)) = (N : Int) := by rw [m0]; exact IntWalk.i64_in _ (by omega)
   clear hb5 y0 y1 y2 m0 hN
   go_wp2_with fail
   go_loopw [74, 15] (fun i _ wr => ∃ k : Nat, i = .int .i64 k ∧ k ≤ N ∧ Below X5.heap.size X5 wr) (fun i _ _ => N - (intOf i).toNat)
   case atStart => exact ⟨0, rfl, by omega, bre X5⟩
   case round =>
    obtain ⟨k, rfl, hk, hB⟩ := hrel
    have HBX := Lib.hid hB
    clear hB
    by_cases hlt : k < N
    ·
     obtain ⟨r, hr0⟩ : ∃ r : Nat, k % W = r := ⟨_, rfl⟩
     obtain ⟨d, hd0⟩ : ∃ d : Nat, k / W = d := ⟨_, rfl⟩
     have hrl : r < W := by rw [← hr0]; exact Nat.mod_lt _ (by omega)
     have hdH : d < H := by rw [← hd0]; exact Nat.div_lt_of_lt_mul (by rw [HN.out]; exact hlt)
     have t1 : (k : Int).tmod (W : Int) = (r : Int) := by rw [Int.tmod_eq_emod_of_nonneg (by omega), ← hr0]; exact (Int.natCast_emod k W).symm
     have t2 : (k : Int).tdiv (W : Int) = (d : Int) := by rw [Int.tdiv_eq_ediv_of_nonneg (by omega), ← hd0]; exact (Int.natCast_ediv k W).symm
     have t3 : IntKind.i64.wrap (r : Int) = (r : Int) := IntWalk.i64_in _ (by omega)
     have t4 : IntKind.i64.wrap (d : Int) = (d : Int) := IntWalk.i64_in _ (by omega)
     have z3 : ¬ (W : Int) = 0 := by omega
     have z4 : ¬ W = 0 := by omega
     have HEQ := Lib.hid (HPX.out r d hrl hdH)
     obtain ⟨pz, hpz⟩ : ∃ z, pixD l RW RH (r : Int) (d : Int) = z := ⟨_, rfl⟩
     have HPZ := Lib.hid hpz
     have k1 : (k : Int) < (N : Int) := by omega
     have k0 : (0 : Int) ≤ (k : Int) := by omega
     clear hr0 hd0 hpz
     go_upto_region 14 with fail
     have HBW := Lib.hid (show Below wr.heap.size wr wr.drew from (bre wr).drew)
     have KW := Lib.hid (fun (W' : World) (h : Below wr.heap.size wr W') => show (fun w' => w'.cell? ⟨g, 0, none⟩ = some (.int .i64 W) ∧ w'.cell? ⟨g, 1, none⟩ = some (.int .i64 H) ∧ w'.cell? ⟨g, 2, none⟩ = some (.slice Ag (W * H) cg) ∧ w'.cell? ⟨g1, 4, none⟩ = some (.slice A0 l.length c0)) W' from ⟨(KG.out.belowS (bstep HBX.out h)).cellV (i := 0) rfl, (KG.out.belowS (bstep HBX.out h)).cellV (i := 1) rfl, (KG.out.belowS (bstep HBX.out h)).cellV (i := 2) rfl, (KM.out.belowS (bstep HBX.out h)).cellV (i := 4) rfl⟩)
     refine wp_region_noPanic ?_
     refine wp_region_held_drew (S := (fun w' => w'.cell? ⟨g, 0, none⟩ = some (.int .i64 W) ∧ w'.cell? ⟨g, 1, none⟩ = some (.int .i64 H) ∧ w'.cell? ⟨g, 2, none⟩ = some (.slice Ag (W * H) cg) ∧ w'.cell? ⟨g1, 4, none⟩ = some (.slice A0 l.length c0))) (by kernel_rfl) ?_ (fun _ => ?_)
     ·
      (try dsimp only)
      exact ⟨(KG.out.belowS (bstep HBX.out HBW.out)).cellV (i := 0) rfl, (KG.out.belowS (bstep HBX.out HBW.out)).cellV (i := 1) rfl, (KG.out.belowS (bstep HBX.out HBW.out)).cellV (i := 2) rfl, (KM.out.belowS (bstep HBX.out HBW.out)).cellV (i := 4) rfl⟩
     refine Tr.take_at 0 77 (.agg #[.int .i64 W, .int .i64 H, .slice Ag (W * H) cg]) rfl rfl (by kernel_rfl) (by kernel_rfl) (by kernel_rfl) (fun _ _ _ h => h) (Or.inl ⟨by rfl, ?_⟩) (by assumption) ?_
     ·
      intro W0 hSw
      (try dsimp only at hSw)
      go_simp
     simp only [List.set_cons_zero, List.set_cons_succ]
     refine Tr.take_at 1 78 (.int .i64 k) rfl rfl (by kernel_rfl) (by kernel_rfl) (by kernel_rfl) (fun _ _ _ h => h) (Or.inl ⟨by rfl, ?_⟩) (by assumption) ?_
     ·
      intro W0 hSw
      (try dsimp only at hSw)
      go_simp
     simp only [List.set_cons_zero, List.set_cons_succ]
     refine Tr.take_at 2 79 (.int .i64 W) rfl rfl (by kernel_rfl) (by kernel_rfl) (by kernel_rfl) (fun _ _ _ h => h) (Or.inl ⟨by rfl, ?_⟩) (by assumption) ?_
     ·
      intro W0 hSw
      (try dsimp only at hSw)
      go_simp
     simp only [List.set_cons_zero, List.set_cons_succ]
     refine Tr.take_at 3 80 (.int .i64 r) rfl rfl (by kernel_rfl) (by kernel_rfl) (by kernel_rfl) (fun _ _ _ h => h) (Or.inl ⟨by rfl, ?_⟩) (by assumption) ?_
     ·
      intro W0 hSw
      (try dsimp only at hSw)
      go_simp
     simp only [List.set_cons_zero, List.set_cons_succ]
     refine Tr.take_at 4 81 (.int .i64 k) rfl rfl (by kernel_rfl) (by kernel_rfl) (by kernel_rfl) (fun _ _ _ h => h) (Or.inl ⟨by rfl, ?_⟩) (by assumption) ?_
     ·
      intro W0 hSw
      (try dsimp only at hSw)
      go_simp
     simp only [List.set_cons_zero, List.set_cons_succ]
     refine Tr.take_at 5 82 (.int .i64 W) rfl rfl (by kernel_rfl) (by kernel_rfl) (by kernel_rfl) (fun _ _ _ h => h) (Or.inl ⟨by rfl, ?_⟩) (by assumption) ?_
     ·
      intro W0 hSw
      (try dsimp only at hSw)
      go_simp
     simp only [List.set_cons_zero, List.set_cons_succ]
     refine Tr.take_at 6 83 (.int .i64 d) rfl rfl (by kernel_rfl) (by kernel_rfl) (by kernel_rfl) (fun _ _ _ h => h) (Or.inl ⟨by rfl, ?_⟩) (by assumption) ?_
     ·
      intro W0 hSw
      (try dsimp only at hSw)
      go_simp
     simp only [List.set_cons_zero, List.set_cons_succ]
     refine Tr.take_at 8 85 (.pointer (some ⟨g1, 4, none⟩)) rfl rfl (by kernel_rfl) (by kernel_rfl) (by kernel_rfl) (fun _ _ _ h => h) (Or.inl ⟨by rfl, ?_⟩) (by assumption) ?_
     ·
      intro W0 hSw
      (try dsimp only at hSw)
      go_simp
     simp only [List.set_cons_zero, List.set_cons_succ]
     refine Tr.take_at 9 86 (.slice A0 l.length c0) rfl rfl (by kernel_rfl) (by kernel_rfl) (by kernel_rfl) (fun _ _ _ h => h) (Or.inl ⟨by rfl, ?_⟩) (by assumption) ?_
     ·
      intro W0 hSw
      (try dsimp only at hSw)
      go_simp
     simp only [List.set_cons_zero, List.set_cons_succ]
     refine Tr.take_at 10 87 (.int .i64 k) rfl rfl (by kernel_rfl) (by kernel_rfl) (by kernel_rfl) (fun _ _ _ h => h) (Or.inl ⟨by rfl, ?_⟩) (by assumption) ?_
     ·
      intro W0 hSw
      (try dsimp only at hSw)
      go_simp
     simp only [List.set_cons_zero, List.set_cons_succ]
     refine Tr.take_at 11 88 (.int .i64 W) rfl rfl (by kernel_rfl) (by kernel_rfl) (by kernel_rfl) (fun _ _ _ h => h) (Or.inl ⟨by rfl, ?_⟩) (by assumption) ?_
     ·
      intro W0 hSw
      (try dsimp only at hSw)
      go_simp
     simp only [List.set_cons_zero, List.set_cons_succ]
     refine Tr.take_at 12 89 (.int .i64 r) rfl rfl (by kernel_rfl) (by kernel_rfl) (by kernel_rfl) (fun _ _ _ h => h) (Or.inl ⟨by rfl, ?_⟩) (by assumption) ?_
     ·
      intro W0 hSw
      (try dsimp only at hSw)
      go_simp
     simp only [List.set_cons_zero, List.set_cons_succ]
     refine Tr.take_at 13 90 (.int .i64 k) rfl rfl (by kernel_rfl) (by kernel_rfl) (by kernel_rfl) (fun _ _ _ h => h) (Or.inl ⟨by rfl, ?_⟩) (by assumption) ?_
     ·
      intro W0 hSw
      (try dsimp only at hSw)
      go_simp
     simp only [List.set_cons_zero, List.set_cons_succ]
     refine Tr.take_at 14 91 (.int .i64 W) rfl rfl (by kernel_rfl) (by kernel_rfl) (by kernel_rfl) (fun _ _ _ h => h) (Or.inl ⟨by rfl, ?_⟩) (by assumption) ?_
     ·
      intro W0 hSw
      (try dsimp only at hSw)
      go_simp
     simp only [List.set_cons_zero, List.set_cons_succ]
     refine Tr.take_at 15 92 (.int .i64 d) rfl rfl (by kernel_rfl) (by kernel_rfl) (by kernel_rfl) (fun _ _ _ h => h) (Or.inl ⟨by rfl, ?_⟩) (by assumption) ?_
     ·
      intro W0 hSw
      (try dsimp only at hSw)
      go_simp
     simp only [List.set_cons_zero, List.set_cons_succ]
     refine wpAnyH_ready (rs := [7]) (by kernel_rfl) (by simp) ?_
     refine AllReadyH.cons rfl (fun K hK => ?_) AllReadyH.nil; go_simp
     refine (Gr.at_any W H px (r : Int) (d : Int) Ag (W * H) cg _ rfl (by omega) (by omega) (HRG.out.below (bstep HBX.out HBW.out))).mono ?_
     rintro e wc7 ⟨rfl, hbA⟩
     rw [HEQ.out, HPZ.out]
     replace HBW := Lib.hid (bstep HBW.out hbA); clear hbA; go_simp
     refine hK.out _ _ (KW.out _ HBW.out) (fun _ => ?_); clear hK K
     refine wpAnyH_ready (rs := [16]) (by kernel_rfl) (by simp) ?_
     refine AllReadyH.cons rfl (fun K hK => ?_) AllReadyH.nil; go_simp
     refine (pixel34_any A0 l.length c0 l RW RH (r : Int) (d : Int) _ (HDO.out.below (bstep HBX.out HBW.out))).mono ?_
     rintro e wc8 ⟨rfl, hbA⟩
     rw [HPZ.out]
     replace HBW := Lib.hid (bstep HBW.out hbA); clear hbA; go_simp
     refine hK.out _ _ (KW.out _ HBW.out) (fun _ => ?_); clear hK K
     refine Tr.take_at 17 94 (.bool false) rfl rfl (by kernel_rfl) (by kernel_rfl) (by kernel_rfl) (fun _ _ _ h => h) (Or.inl ⟨by rfl, ?_⟩) (by assumption) ?_
     ·
      intro W0 hSw
      (try dsimp only at hSw)
      go_simp
     simp only [List.set_cons_zero, List.set_cons_succ]
     refine wpAnyH_done (by kernel_rfl) ?_ _
     refine NoPanic.normal ?_
     go_wp2_with fail
     go_roundw
     case rel => exact ⟨k + 1, by go_num, by omega, bstep HBX.out HBW.out⟩
     case measure => simp [intOf]; omega
    ·
     obtain rfl : k = N := by omega
     have k1 : ¬ (k : Int) < (k : Int) := by omega
     replace HB := Lib.hid (bstep HB.out HBX.out)
     go_wp2_with (go_at_call 34; refine (awake34_any _).mono ?_; rintro e w9 ⟨rfl, hb9⟩; have HB9 := Lib.hid (bstep HB.out hb9); clear hb9)
     go_ret
     exact ⟨rfl, HB9.out⟩
  ·
   have hz0 : W = 0 ∨ H = 0 := by
    by_cases h0 : W = 0
    ·
     exact .inl h0
    ·
     by_cases h1 : H = 0
     ·
      exact .inr h1
     ·
      exfalso
      apply hz
      unfold Gr.sideB
      rw [Bool.and_eq_true, decide_eq_true_eq, decide_eq_true_eq]
      omega
   have hzz : (Gr.sideB (W : Int) && Gr.sideB (H : Int)) = false := by simpa using hz
   clear hz
   go_cut [11, 12] from 31 to 42 (fun s11 s12 wx => ∃ (g : Nat), s11 = .pointer (some ⟨g, 0, none⟩) ∧ s12 = .int .i64 17 ∧ Below X1.heap.size X1 wx)
   case first =>
    as_aux_lemma =>
     have HBW := Lib.hid (show Below X1.heap.size X1 X1.drew from (bre X1).drew)
     have KW := Lib.hid (fun (W' : World) (h : Below X1.heap.size X1 W') => show (fun w' => w'.cell? ⟨g1, 0, none⟩ = some (.map m1) ∧ w'.cell? ⟨g1, 1, none⟩ = some (.map m2) ∧ w'.cell? ⟨g1, 2, none⟩ = some (.map m3) ∧ w'.cell? ⟨g1, 3, none⟩ = some (.map m4)) W' from ⟨(KM.out.belowS h).cellV (i := 0) rfl, (KM.out.belowS h).cellV (i := 1) rfl, (KM.out.belowS h).cellV (i := 2) rfl, (KM.out.belowS h).cellV (i := 3) rfl⟩)
     refine wp_region_noPanic ?_
     refine wp_region_held_drew (S := (fun w' => w'.cell? ⟨g1, 0, none⟩ = some (.map m1) ∧ w'.cell? ⟨g1, 1, none⟩ = some (.map m2) ∧ w'.cell? ⟨g1, 2, none⟩ = some (.map m3) ∧ w'.cell? ⟨g1, 3, none⟩ = some (.map m4))) (by kernel_rfl) ?_ (fun _ => ?_)
     ·
      (try dsimp only)
      exact ⟨(KM.out.belowS HBW.out).cellV (i := 0) rfl, (KM.out.belowS HBW.out).cellV (i := 1) rfl, (KM.out.belowS HBW.out).cellV (i := 2) rfl, (KM.out.belowS HBW.out).cellV (i := 3) rfl⟩
     refine Tr.take_at 0 31 (.pointer (some ⟨g1, 0, none⟩)) rfl rfl (by kernel_rfl) (by kernel_rfl) (by kernel_rfl) (fun _ _ _ h => h) (Or.inl ⟨by rfl, ?_⟩) (by assumption) ?_
     ·
      intro W0 hSw
      (try dsimp only at hSw)
      go_simp
     simp only [List.set_cons_zero, List.set_cons_succ]
     refine Tr.take_at 1 32 (.agg #[.map m1, .map m2]) rfl rfl (by kernel_rfl) (by kernel_rfl) (by kernel_rfl) (fun _ _ _ h => h) (Or.inl ⟨by rfl, ?_⟩) (by assumption) ?_
     ·
      intro W0 hSw
      (try dsimp only at hSw)
      go_simp
     simp only [List.set_cons_zero, List.set_cons_succ]
     refine Tr.take_at 2 33 (.pointer (some ⟨g1, 2, none⟩)) rfl rfl (by kernel_rfl) (by kernel_rfl) (by kernel_rfl) (fun _ _ _ h => h) (Or.inl ⟨by rfl, ?_⟩) (by assumption) ?_
     ·
      intro W0 hSw
      (try dsimp only at hSw)
      go_simp
     simp only [List.set_cons_zero, List.set_cons_succ]
     refine Tr.take_at 3 34 (.agg #[.map m3]) rfl rfl (by kernel_rfl) (by kernel_rfl) (by kernel_rfl) (fun _ _ _ h => h) (Or.inl ⟨by rfl, ?_⟩) (by assumption) ?_
     ·
      intro W0 hSw
      (try dsimp only at hSw)
      go_simp
     simp only [List.set_cons_zero, List.set_cons_succ]
     refine Tr.take_at 5 36 (.pointer (some ⟨g1, 3, none⟩)) rfl rfl (by kernel_rfl) (by kernel_rfl) (by kernel_rfl) (fun _ _ _ h => h) (Or.inl ⟨by rfl, ?_⟩) (by assumption) ?_
     ·
      intro W0 hSw
      (try dsimp only at hSw)
      go_simp
     simp only [List.set_cons_zero, List.set_cons_succ]
     refine Tr.take_at 6 37 (.agg #[.map m4]) rfl rfl (by kernel_rfl) (by kernel_rfl) (by kernel_rfl) (fun _ _ _ h => h) (Or.inl ⟨by rfl, ?_⟩) (by assumption) ?_
     ·
      intro W0 hSw
      (try dsimp only at hSw)
      go_simp
     simp only [List.set_cons_zero, List.set_cons_succ]
     refine Tr.take_at 7 38 (.int .i64 W) rfl rfl (by kernel_rfl) (by kernel_rfl) (by kernel_rfl) (fun _ _ _ h => h) (Or.inl ⟨by rfl, ?_⟩) (by assumption) ?_
     ·
      intro W0 hSw
      (try dsimp only at hSw)
      go_simp
     simp only [List.set_cons_zero, List.set_cons_succ]
     refine Tr.take_at 8 39 (.int .i64 H) rfl rfl (by kernel_rfl) (by kernel_rfl) (by kernel_rfl) (fun _ _ _ h => h) (Or.inl ⟨by rfl, ?_⟩) (by assumption) ?_
     ·
      intro W0 hSw
      (try dsimp only at hSw)
      go_simp
     simp only [List.set_cons_zero, List.set_cons_succ]
     refine wpAnyH_ready (rs := [4, 13]) (by kernel_rfl) (by simp) ?_
     refine AllReadyH.cons rfl (fun K hK => ?_) (AllReadyH.cons rfl (fun K hK => ?_) AllReadyH.nil)
     ·
      go_simp
      refine (view34 (HM.out.below HBW.out) hok).mono ?_
      rintro e wc3 ⟨Av, nv, cv, mv, og, rfl, hse, hbA⟩
      have HSE := Lib.hid hse
      clear hse
      replace HBW := Lib.hid (bstep HBW.out hbA); clear hbA; go_simp
      refine hK.out _ _ (KW.out _ HBW.out) (fun _ => ?_); clear hK K
      refine wpAnyH_ready (rs := [9, 13]) (by kernel_rfl) (by simp) ?_
      refine AllReadyH.cons rfl (fun K hK => ?_) (AllReadyH.cons rfl (fun K hK => ?_) AllReadyH.nil)
      ·
       go_simp
       refine (show_no (.agg #[.slice Av nv cv, .map mv]) (.agg #[.map m4]) (W : Int) (H : Int) _ Av nv cv mv m4 rfl rfl hzz).mono ?_
       rintro e wc5 ⟨rfl, hbA⟩
       replace HBW := Lib.hid (bstep HBW.out hbA)
       replace HSE := Lib.hid (HSE.out.below hbA); clear hbA; go_simp
       refine hK.out _ _ (KW.out _ HBW.out) (fun _ => ?_); clear hK K
       refine Tr.take_at 10 30 (.tuple #[.agg #[.int .i64 0, .int .i64 0, .slice none 0 0], .int .i64 17]) rfl rfl (by kernel_rfl) (by kernel_rfl) (by kernel_rfl) (fun _ _ _ h => h) (Or.inl ⟨by rfl, ?_⟩) (by assumption) ?_
       ·
        intro W0 hSw
        (try dsimp only at hSw)
        go_simp
       simp only [List.set_cons_zero, List.set_cons_succ]
       refine Tr.take_at 11 41 (.agg #[.int .i64 0, .int .i64 0, .slice none 0 0]) rfl rfl (by kernel_rfl) (by kernel_rfl) (by kernel_rfl) (fun _ _ _ h => h) (Or.inl ⟨by rfl, ?_⟩) (by assumption) ?_
       ·
        intro W0 hSw
        (try dsimp only at hSw)
        go_simp
       simp only [List.set_cons_zero, List.set_cons_succ]
       refine Tr.take_at 12 42 (.int .i64 17) rfl rfl (by kernel_rfl) (by kernel_rfl) (by kernel_rfl) (fun _ _ _ h => h) (Or.inl ⟨by rfl, ?_⟩) (by assumption) ?_
       ·
        intro W0 hSw
        (try dsimp only at hSw)
        go_simp
       simp only [List.set_cons_zero, List.set_cons_succ]
       refine wpAnyH_ready (rs := [13]) (by kernel_rfl) (by simp) ?_
       refine AllReadyH.cons rfl (fun K hK => ?_) AllReadyH.nil; go_simp
       have KA13 := Lib.hid (show Blk (wc5.alloc (.cells #[.int .i64 0, .int .i64 0, .slice none 0 0] 75)) (wc5.heap.size) 75 #[.int .i64 0, .int .i64 0, .slice none 0 0] from Blk.new wc5 75 #[.int .i64 0, .int .i64 0, .slice none 0 0])
       have HL13 := Lib.hid (show X1.heap.size ≤ wc5.heap.size from HBW.out.size)
       have hbA : Below wc5.heap.size wc5 ((wc5.alloc (.cells #[.int .i64 0, .int .i64 0, .slice none 0 0] 75))) := bal (bre wc5) (.cells #[.int .i64 0, .int .i64 0, .slice none 0 0] 75)
       replace HBW := Lib.hid (bstep HBW.out hbA); clear hbA
       refine hK.out _ _ (KW.out _ HBW.out) (fun _ => ?_); clear hK K
       refine wpAnyH_ready (rs := [14]) (by kernel_rfl) (by simp) ?_
       refine AllReadyH.cons rfl (fun K hK => ?_) AllReadyH.nil
       refine Tr.wanted_plain rfl ?_
       refine store_mid0 rfl 75 _ _ rfl (wc5.heap.size) 0 #[.int .i64 0, .int .i64 0, .slice none 0 0] (by rfl) (by rfl) (by have h := there_blk KA13.out; exact h) Tryz.sizeGr (by simp [Value.oneCell']) ?_
       have xK := blk_puts3 (.int .i64 0) (.int .i64 0) (.slice none 0 0) KA13.out
       have xB := bsets HBW.out HL13.out (#[.int .i64 0, .int .i64 0, .slice none 0 0] : Array Value).toList 0
       obtain ⟨wS14, hwS⟩ : ∃ wS, World.setCells (wc5.alloc (.cells #[.int .i64 0, .int .i64 0, .slice none 0 0] 75)) (wc5.heap.size) 0 (#[.int .i64 0, .int .i64 0, .slice none 0 0] : Array Value).toList = wS := ⟨_, rfl⟩
       rw [hwS] at xK xB ⊢
       replace HBW := Lib.hid xB
       replace KA13 := Lib.hid xK
       clear hwS xK xB
       refine hK.out _ _ (KW.out _ HBW.out) (fun _ => ?_); clear hK K
       refine Tr.take_at 15 12 (.int .i64 17) rfl rfl (by kernel_rfl) (by kernel_rfl) (by kernel_rfl) (fun _ _ _ h => h) (Or.inl ⟨by rfl, ?_⟩) (by assumption) ?_
       ·
        intro W0 hSw
        (try dsimp only at hSw)
        go_simp
       simp only [List.set_cons_zero, List.set_cons_succ]
       refine wpAnyH_done (by kernel_rfl) ?_ _
       refine NoPanic.normal ?_
       go_wp2_with fail
       go_meet
       exact ⟨_, rfl, rfl, HBW.out⟩
      ·
       go_simp
       have KA13 := Lib.hid (show Blk (wc3.alloc (.cells #[.int .i64 0, .int .i64 0, .slice none 0 0] 75)) (wc3.heap.size) 75 #[.int .i64 0, .int .i64 0, .slice none 0 0] from Blk.new wc3 75 #[.int .i64 0, .int .i64 0, .slice none 0 0])
       have HL13 := Lib.hid (show X1.heap.size ≤ wc3.heap.size from HBW.out.size)
       have hbA : Below wc3.heap.size wc3 ((wc3.alloc (.cells #[.int .i64 0, .int .i64 0, .slice none 0 0] 75))) := bal (bre wc3) (.cells #[.int .i64 0, .int .i64 0, .slice none 0 0] 75)
       replace HBW := Lib.hid (bstep HBW.out hbA)
       replace HSE := Lib.hid (HSE.out.below hbA); clear hbA
       refine hK.out _ _ (KW.out _ HBW.out) (fun _ => ?_); clear hK K
       refine wpAnyH_ready (rs := [9]) (by kernel_rfl) (by simp) ?_
       refine AllReadyH.cons rfl (fun K hK => ?_) AllReadyH.nil; go_simp
       refine (show_no (.agg #[.slice Av nv cv, .map mv]) (.agg #[.map m4]) (W : Int) (H : Int) _ Av nv cv mv m4 rfl rfl hzz).mono ?_
       rintro e wc5 ⟨rfl, hbA⟩
       replace HBW := Lib.hid (bstep HBW.out hbA)
       replace KA13 := Lib.hid (KA13.out.belowS hbA)
       replace HSE := Lib.hid (HSE.out.below hbA); clear hbA; go_simp
       refine hK.out _ _ (KW.out _ HBW.out) (fun _ => ?_); clear hK K
       refine Tr.take_at 10 30 (.tuple #[.agg #[.int .i64 0, .int .i64 0, .slice none 0 0], .int .i64 17]) rfl rfl (by kernel_rfl) (by kernel_rfl) (by kernel_rfl) (fun _ _ _ h => h) (Or.inl ⟨by rfl, ?_⟩) (by assumption) ?_
       ·
        intro W0 hSw
        (try dsimp only at hSw)
        go_simp
       simp only [List.set_cons_zero, List.set_cons_succ]
       refine Tr.take_at 11 41 (.agg #[.int .i64 0, .int .i64 0, .slice none 0 0]) rfl rfl (by kernel_rfl) (by kernel_rfl) (by kernel_rfl) (fun _ _ _ h => h) (Or.inl ⟨by rfl, ?_⟩) (by assumption) ?_
       ·
        intro W0 hSw
        (try dsimp only at hSw)
        go_simp
       simp only [List.set_cons_zero, List.set_cons_succ]
       refine Tr.take_at 12 42 (.int .i64 17) rfl rfl (by kernel_rfl) (by kernel_rfl) (by kernel_rfl) (fun _ _ _ h => h) (Or.inl ⟨by rfl, ?_⟩) (by assumption) ?_
       ·
        intro W0 hSw
        (try dsimp only at hSw)
        go_simp
       simp only [List.set_cons_zero, List.set_cons_succ]
       refine wpAnyH_ready (rs := [14]) (by kernel_rfl) (by simp) ?_
       refine AllReadyH.cons rfl (fun K hK => ?_) AllReadyH.nil
       refine Tr.wanted_plain rfl ?_
       refine store_mid0 rfl 75 _ _ rfl (wc3.heap.size) 0 #[.int .i64 0, .int .i64 0, .slice none 0 0] (by rfl) (by rfl) (by have h := there_blk KA13.out; exact h) Tryz.sizeGr (by simp [Value.oneCell']) ?_
       have xK := blk_puts3 (.int .i64 0) (.int .i64 0) (.slice none 0 0) KA13.out
       have xB := bsets HBW.out HL13.out (#[.int .i64 0, .int .i64 0, .slice none 0 0] : Array Value).toList 0
       obtain ⟨wS14, hwS⟩ : ∃ wS, World.setCells wc5 (wc3.heap.size) 0 (#[.int .i64 0, .int .i64 0, .slice none 0 0] : Array Value).toList = wS := ⟨_, rfl⟩
       rw [hwS] at xK xB ⊢
       replace HBW := Lib.hid xB
       replace KA13 := Lib.hid xK
       clear hwS xK xB
       refine hK.out _ _ (KW.out _ HBW.out) (fun _ => ?_); clear hK K
       refine Tr.take_at 15 12 (.int .i64 17) rfl rfl (by kernel_rfl) (by kernel_rfl) (by kernel_rfl) (fun _ _ _ h => h) (Or.inl ⟨by rfl, ?_⟩) (by assumption) ?_
       ·
        intro W0 hSw
        (try dsimp only at hSw)
        go_simp
       simp only [List.set_cons_zero, List.set_cons_succ]
       refine wpAnyH_done (by kernel_rfl) ?_ _
       refine NoPanic.normal ?_
       go_wp2_with fail
       go_meet
       exact ⟨_, rfl, rfl, HBW.out⟩
     ·
      go_simp
      have KA13 := Lib.hid (show Blk (X1.alloc (.cells #[.int .i64 0, .int .i64 0, .slice none 0 0] 75)).drew (X1.heap.size) 75 #[.int .i64 0, .int .i64 0, .slice none 0 0] from Blk.new X1.drew 75 #[.int .i64 0, .int .i64 0, .slice none 0 0])
      have HL13 := Lib.hid (show X1.heap.size ≤ X1.heap.size from HBW.out.size)
      have hbA : Below X1.drew.heap.size X1.drew ((X1.alloc (.cells #[.int .i64 0, .int .i64 0, .slice none 0 0] 75)).drew) := bal (bre X1.drew) (.cells #[.int .i64 0, .int .i64 0, .slice none 0 0] 75)
      replace HBW := Lib.hid (bstep HBW.out hbA); clear hbA
      refine hK.out _ _ (KW.out _ HBW.out) (fun _ => ?_); clear hK K
      refine wpAnyH_ready (rs := [4]) (by kernel_rfl) (by simp) ?_
      refine AllReadyH.cons rfl (fun K hK => ?_) AllReadyH.nil; go_simp
      refine (view34 (HM.out.below HBW.out) hok).mono ?_
      rintro e wc3 ⟨Av, nv, cv, mv, og, rfl, hse, hbA⟩
      have HSE := Lib.hid hse
      clear hse
      replace HBW := Lib.hid (bstep HBW.out hbA)
      replace KA13 := Lib.hid (KA13.out.belowS hbA); clear hbA; go_simp
      refine hK.out _ _ (KW.out _ HBW.out) (fun _ => ?_); clear hK K
      refine wpAnyH_ready (rs := [9]) (by kernel_rfl) (by simp) ?_
      refine AllReadyH.cons rfl (fun K hK => ?_) AllReadyH.nil; go_simp
      refine (show_no (.agg #[.slice Av nv cv, .map mv]) (.agg #[.map m4]) (W : Int) (H : Int) _ Av nv cv mv m4 rfl rfl hzz).mono ?_
      rintro e wc5 ⟨rfl, hbA⟩
      replace HBW := Lib.hid (bstep HBW.out hbA)
      replace KA13 := Lib.hid (KA13.out.belowS hbA)
      replace HSE := Lib.hid (HSE.out.below hbA); clear hbA; go_simp
      refine hK.out _ _ (KW.out _ HBW.out) (fun _ => ?_); clear hK K
      refine Tr.take_at 10 30 (.tuple #[.agg #[.int .i64 0, .int .i64 0, .slice none 0 0], .int .i64 17]) rfl rfl (by kernel_rfl) (by kernel_rfl) (by kernel_rfl) (fun _ _ _ h => h) (Or.inl ⟨by rfl, ?_⟩) (by assumption) ?_
      ·
       intro W0 hSw
       (try dsimp only at hSw)
       go_simp
      simp only [List.set_cons_zero, List.set_cons_succ]
      refine Tr.take_at 11 41 (.agg #[.int .i64 0, .int .i64 0, .slice none 0 0]) rfl rfl (by kernel_rfl) (by kernel_rfl) (by kernel_rfl) (fun _ _ _ h => h) (Or.inl ⟨by rfl, ?_⟩) (by assumption) ?_
      ·
       intro W0 hSw
       (try dsimp only at hSw)
       go_simp
      simp only [List.set_cons_zero, List.set_cons_succ]
      refine Tr.take_at 12 42 (.int .i64 17) rfl rfl (by kernel_rfl) (by kernel_rfl) (by kernel_rfl) (fun _ _ _ h => h) (Or.inl ⟨by rfl, ?_⟩) (by assumption) ?_
      ·
       intro W0 hSw
       (try dsimp only at hSw)
       go_simp
      simp only [List.set_cons_zero, List.set_cons_succ]
      refine wpAnyH_ready (rs := [14]) (by kernel_rfl) (by simp) ?_
      refine AllReadyH.cons rfl (fun K hK => ?_) AllReadyH.nil
      refine Tr.wanted_plain rfl ?_
      refine store_mid0 rfl 75 _ _ rfl (X1.heap.size) 0 #[.int .i64 0, .int .i64 0, .slice none 0 0] (by rfl) (by rfl) (by have h := there_blk KA13.out; exact h) Tryz.sizeGr (by simp [Value.oneCell']) ?_
      have xK := blk_puts3 (.int .i64 0) (.int .i64 0) (.slice none 0 0) KA13.out
      have xB := bsets HBW.out HL13.out (#[.int .i64 0, .int .i64 0, .slice none 0 0] : Array Value).toList 0
      obtain ⟨wS14, hwS⟩ : ∃ wS, World.setCells wc5 (X1.heap.size) 0 (#[.int .i64 0, .int .i64 0, .slice none 0 0] : Array Value).toList = wS := ⟨_, rfl⟩
      rw [hwS] at xK xB ⊢
      replace HBW := Lib.hid xB
      replace KA13 := Lib.hid xK
      clear hwS xK xB
      refine hK.out _ _ (KW.out _ HBW.out) (fun _ => ?_); clear hK K
      refine Tr.take_at 15 12 (.int .i64 17) rfl rfl (by kernel_rfl) (by kernel_rfl) (by kernel_rfl) (fun _ _ _ h => h) (Or.inl ⟨by rfl, ?_⟩) (by assumption) ?_
      ·
       intro W0 hSw
       (try dsimp only at hSw)
       go_simp
      simp only [List.set_cons_zero, List.set_cons_succ]
      refine wpAnyH_done (by kernel_rfl) ?_ _
      refine NoPanic.normal ?_
      go_wp2_with fail
      go_meet
      exact ⟨_, rfl, rfl, HBW.out⟩
   obtain ⟨g, rfl, rfl, hbc⟩ := hcut
   replace HB := Lib.hid (bstep HB.out hbc)
   clear hbc
   by_cases h0 : W = 0
   ·
    have z1 : ((W : Int) == 0) = true := by rw [h0]; rfl
    go_wp2_with (go_at_call 34; refine (awake34_any _).mono ?_; rintro e w9 ⟨rfl, hb9⟩; have HB9 := Lib.hid (bstep HB.out hb9); clear hb9)
    go_ret
    exact ⟨rfl, HB9.out⟩
   ·
    have z1 : ((W : Int) == 0) = false := by rw [beq_eq_false_iff_ne]; omega
    have hH0 : H = 0 := by omega
    have z2 : ((H : Int) == 0) = true := by rw [hH0]; rfl
    go_wp2_with (go_at_call 34; refine (awake34_any _).mono ?_; rintro e w9 ⟨rfl, hb9⟩; have HB9 := Lib.hid (bstep HB.out hb9); clear hb9)
    go_ret
    exact ⟨rfl, HB9.out⟩
end Go.Proofs.YtdaedkolpfkdjaaGreat
end
