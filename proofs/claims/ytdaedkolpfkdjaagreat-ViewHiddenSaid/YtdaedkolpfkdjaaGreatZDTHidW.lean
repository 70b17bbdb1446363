/-
  The walk of the law ViewHidden.
-/
import Derived.Test.YtdaedkolpfkdjaaGreatZD34
section
namespace Go.Proofs.YtdaedkolpfkdjaaGreat
open Go.RowKit Go.Maps Go.Shelf

set_option maxRecDepth 100000 in
set_option maxHeartbeats 8000000 in
theorem viewHidden_any (a b q : Int) (A : Option Addr) (n c : Nat) (ps : List PN) (w : World) (ha : 0 ≤ a ∧ a ≤ 255) (hb : 0 ≤ b ∧ b ≤ 255) (hq : 0 ≤ q ∧ q ≤ 255) (hn : n ≤ maxLen) (hr : RdF PN.cells 14 w A n ps) (hok : ∀ p ∈ ps, p.ok) :
    Calls Tryz.prog 3 #[.agg #[.int .u8 a, .int .u8 b, .slice A n c], .int .u8 q] w fun e w' => e = .returned (.bool true) ∧ Below w.heap.size w w' := by
  obtain ⟨RW, hRW⟩ : ∃ RW : Nat, (RW : Int) = 1 + a % 16 := ⟨(1 + a % 16).toNat, by omega⟩
  obtain ⟨RH, hRH⟩ : ∃ RH : Nat, (RH : Int) = 1 + b % 12 := ⟨(1 + b % 12).toNat, by omega⟩
  have HRR := Lib.hid (show (1 ≤ RW ∧ RW ≤ 128) ∧ 1 ≤ RH ∧ RH ≤ 128 by omega)
  have HSZ := Lib.hid (fun W => by have h := size_any31 a b A n c W ha hb; rw [← hRW, ← hRH] at h; exact h)
  have HR := Lib.hid hr
  have HOK := Lib.hid hok
  have HN := Lib.hid hn
  have HQ := Lib.hid hq
  have hn9 : n ≤ 9223372036854775807 := by simp only [maxLen] at hn; omega
  clear hr hok ha hb hRW hRH hn
  go_enter Tryz.func3, Tryz.ntmps3
  go_upto_region 1 with fail
  have xK := Blk.new w 24 #[.int .u8 a, .int .u8 b, .slice A n c]
  have xB := bal (bre w) (.cells #[.int .u8 a, .int .u8 b, .slice A n c] 24)
  obtain ⟨X0, hX0⟩ : ∃ X0, w.alloc (.cells #[.int .u8 a, .int .u8 b, .slice A n c] 24) = X0 := ⟨_, rfl⟩
  rw [hX0] at xK xB ⊢
  have K4 := Lib.hid xK
  have HB := Lib.hid xB
  have q0 := xK.cellV (i := 0) (v := .int .u8 a) rfl
  have q1 := xK.cellV (i := 1) (v := .int .u8 b) rfl
  have q2 := xK.cellV (i := 2) (v := .slice A n c) rfl
  clear xK xB hX0
  go_wp2_with fail
  refine (great_any a b A n c _ HN.out).mono ?_
  rintro e w1 ⟨rfl, hb1⟩
  replace HB := Lib.hid (bstep HB.out hb1)
  replace K4 := Lib.hid (K4.out.belowS hb1)
  clear hb1 q0 q1 q2
  have q2 := K4.out.cellV (i := 2) (v := .slice A n c) rfl
  by_cases h7 : 7 < n
  · rw [decide_eq_true h7]
    as_aux_lemma =>
      go_wp2_with fail
      refine (awake31_any _).mono ?_
      rintro e w2 ⟨rfl, hb2⟩
      have HB2 := Lib.hid (bstep HB.out hb2)
      clear hb2
      go_wp2_with fail
      go_ret
      exact ⟨rfl, HB2.out⟩
  rw [decide_eq_false h7]
  by_cases h0 : n = 0
  · subst h0
    as_aux_lemma =>
      go_wp2_with fail
      refine (awake31_any _).mono ?_
      rintro e w2 ⟨rfl, hb2⟩
      have HB2 := Lib.hid (bstep HB.out hb2)
      clear hb2
      go_wp2_with fail
      go_ret
      exact ⟨rfl, HB2.out⟩
  have h60 : n ≤ 60 := by omega
  have z0 : ((n : Int) == 0) = false := by rw [beq_eq_false_iff_ne]; omega
  have q0 := K4.out.cellV (i := 0) (v := .int .u8 a) rfl
  have q1 := K4.out.cellV (i := 1) (v := .int .u8 b) rfl
  go_wp2_with fail
  refine (HSZ.out _).mono ?_
  rintro e w2 ⟨rfl, hb2⟩
  replace HB := Lib.hid (bstep HB.out hb2)
  replace K4 := Lib.hid (K4.out.belowS hb2)
  clear hb2 q0 q1 q2
  have q0 := K4.out.cellV (i := 0) (v := .int .u8 a) rfl
  have q1 := K4.out.cellV (i := 1) (v := .int .u8 b) rfl
  have q2 := K4.out.cellV (i := 2) (v := .slice A n c) rfl
  go_wp2_with fail
  refine (windows31_any a b A n c ps _ h60 (HR.out.below HB.out) HOK.out).mono ?_
  rintro e w3 ⟨v, l, rfl, hl, hat, hb3⟩
  have HL7 := Lib.hid (show l.length ≤ 7 by omega)
  have hpos : 0 < l.length := by omega
  obtain ⟨gw, cl, rest, rfl, hgb, hblk⟩ := own_blkN hat.own hpos
  obtain ⟨k, hkk⟩ : ∃ k : Nat, (k : Int) = q % (l.length : Int) := ⟨(q % (l.length : Int)).toNat, Int.toNat_of_nonneg (Int.emod_nonneg _ (by omega))⟩
  have hkl : k < l.length := by have := Int.emod_lt_of_pos q (show 0 < (l.length : Int) by omega); omega
  have t0 : q.tmod (l.length : Int) = (k : Int) := by rw [Int.tmod_eq_emod_of_nonneg HQ.out.1]; exact hkk.symm
  have t1 : IntKind.i64.wrap q = q := IntWalk.i64_in _ (by have := HQ.out; omega)
  have t2 : IntKind.i64.wrap (k : Int) = (k : Int) := IntWalk.i64_in _ (by have := HL7.out; omega)
  have z1 : ((l.length : Int) == 0) = false := by rw [beq_eq_false_iff_ne]; omega
  have z2 : ¬ ((l.length : Int) = 0) := by omega
  have k0 : (0 : Int) ≤ (k : Int) := by omega
  have k1 : (k : Int) < (l.length : Int) := by omega
  have HKL := Lib.hid hkl
  have HG5 := Lib.hid (Nat.le_trans (HB.out.size) (Nat.le_trans (Nat.le_succ _) hgb))
  replace HB := Lib.hid (bstep HB.out hb3)
  clear hb3 hl q0 q1 q2 K4 z0 hkk hpos
  obtain ⟨d, hd⟩ : ∃ d, l[k]? = some d := ⟨_, List.getElem?_eq_getElem hkl⟩
  have hc5 := flat_get DW.cells 8 DW.cells_len l k d 5 hd (by decide)
  have c5 : w3.cell? ⟨gw, k * 8 + 5, none⟩ = some (.bool d.M) := hblk.cellV (by
    have hlt := (List.getElem?_eq_some_iff.1 (hc5.trans (rfl : (DW.cells d)[5]? = some (.bool d.M)))).1
    rw [List.getElem?_toArray, List.getElem?_append_left hlt]
    exact hc5)
  have f5 := hblk.frozen (k * 8 + 5)
  have l5 := hblk.lt
  have xset := hblk.set_ (k * 8 + 5) (.bool false)
  have hset : ((l.flatMap DW.cells) ++ rest).toArray.setIfInBounds (k * 8 + 5) (.bool false) = ((l.set k (hideD d)).flatMap DW.cells ++ rest).toArray := by
    have hlt := (List.getElem?_eq_some_iff.1 (hc5.trans (rfl : (DW.cells d)[5]? = some (.bool d.M)))).1
    rw [List.setIfInBounds_toArray, List.set_append_left _ _ hlt, flat_set1 DW.cells_len hd (by decide) (show (DW.cells d).set 5 (.bool false) = DW.cells (hideD d) from rfl)]
  rw [hset] at xset
  have xsh : ∀ e ∈ l.set k (hideD d), RdR (w3.setCell ⟨gw, k * 8 + 5, none⟩ (.bool false)) e.A e.n e.sh := fun e he => by
    have h1 : RdR w3 e.A e.n e.sh ∧ (0 < e.n → ∀ a, e.A = some a → (Value.slice (some ⟨gw, 0, none⟩) l.length cl).ownBlock ≠ some a.block) := by
      rcases List.mem_or_eq_of_mem_set he with h2 | rfl
      · exact ⟨hat.sh e h2, hat.far e h2⟩
      · exact ⟨hat.sh d (List.mem_of_getElem? hd), hat.far d (List.mem_of_getElem? hd)⟩
    exact h1.1.keepRowNe (grown_setCell w3 ⟨gw, k * 8 + 5, none⟩ _) h1.2
  have hUP := hide_up hat.up hd
  have hDW := hide_ok hat.ok hd
  have hAC := fun RW RH : Nat => hide_act hd RW RH
  have hKD : (l.set k (hideD d))[k]? = some (hideD d) := List.getElem?_set_self hkl
  have hln : (l.set k (hideD d)).length = l.length := List.length_set
  go_upto_region 7 with fail
  have xB := bset HB.out (p := ⟨gw, k * 8 + 5, none⟩) (by show w.heap.size ≤ gw; have := HG5.out; omega) (.bool false)
  obtain ⟨X5, hX5⟩ : ∃ X5, w3.setCell ⟨gw, k * 8 + 5, none⟩ (.bool false) = X5 := ⟨_, rfl⟩
  obtain ⟨l', hl'⟩ : ∃ l', l.set k (hideD d) = l' := ⟨_, rfl⟩
  rw [hX5] at xset xsh xB ⊢
  rw [hl'] at xset xsh hUP hDW hAC hKD hln
  have HL := Lib.hid (show RdWs X5 (some ⟨gw, 0, none⟩) l.length l' from ⟨RdF.of_blkR DW.cells_len xset hln, xsh⟩)
  have HUP := Lib.hid hUP
  have HDW := Lib.hid hDW
  have HAC := Lib.hid (hAC RW RH)
  have HKD := Lib.hid hKD
  have HLN := Lib.hid hln
  have HL8 := Lib.hid (show l'.length ≤ 7 by rw [hln]; exact HL7.out)
  replace HB := Lib.hid xB
  clear xset xsh xB hUP hDW hAC hKD hln hX5 hset hblk hat hd hc5 c5 f5 l5 hl' t0 t1 z1 z2 hgb HG5
  go_wp2_with fail
  refine (built31_any (some ⟨gw, 0, none⟩) l.length cl l' RW RH _ HL.out (by have := HL7.out; omega) HUP.out HDW.out (by have := HRR.out; omega)).mono ?_
  rintro e w4 ⟨mk, mu, mp, nk, fk, bs, rfl, hm, hb4⟩
  have HM := Lib.hid hm
  replace HL := Lib.hid (HL.out.below hb4)
  replace HB := Lib.hid (bstep HB.out hb4)
  clear hm hb4
  go_upto_region 10 with fail
  have hba := bal (bal (bre w4) (.cells #[.map mk, .map mu] 37)) (.cells #[.map mp] 40)
  have xM := HM.out.below hba
  have xL := HL.out.below hba
  have xK2 := (Blk.new w4 37 #[.map mk, .map mu]).alloc (.cells #[.map mp] 40)
  have xK3 := blk_new2 w4 (.cells #[.map mk, .map mu] 37) 40 #[.map mp]
  have xB := bal (bal HB.out (.cells #[.map mk, .map mu] 37)) (.cells #[.map mp] 40)
  have xs : (w4.alloc (.cells #[.map mk, .map mu] 37)).heap.size = w4.heap.size + 1 := World.size_alloc _ _
  obtain ⟨gt, hgt⟩ : ∃ g, w4.heap.size = g := ⟨_, rfl⟩
  rw [hgt] at xK2 xK3 ⊢
  obtain ⟨X1, hX1⟩ : ∃ X1, (w4.alloc (.cells #[.map mk, .map mu] 37)).alloc (.cells #[.map mp] 40) = X1 := ⟨_, rfl⟩
  rw [hX1] at xM xL xK2 xK3 xB hba ⊢
  replace HM := Lib.hid xM
  replace HL := Lib.hid xL
  have KT := Lib.hid xK2
  have KP := Lib.hid xK3
  replace HB := Lib.hid xB
  clear xM xL xK2 xK3 xB hX1 hba hgt xs
  have hids : -1 ≤ (k : Int) ∧ (k : Int) ≤ 1000000 := by have := HL7.out; omega
  have HIW := Lib.hid (idW_bd hids)
  have HPU := Lib.hid (show upOf (nodesW l') (idW (k : Int)) = some (idW (hideD d).P) from upOf_mem (nodesW_nodup l') (nodesW_mem.2 ⟨k, _, HKD.out, rfl⟩))
  have HK1 := Lib.hid (show idW (k : Int) ≠ 1 by rw [idW_nat]; omega)
  have HHK := Lib.hid (show hasN (nodesW l') (idW (k : Int)) = true from hasN_iff.2 (.inr ⟨_, HPU.out⟩))
  have HLA := Lib.hid (show (nodesW l').length ≤ 1000 by rw [nodesW_len]; have := HL8.out; omega)
  have HLC := Lib.hid (show (cutN (nodesW l') (idW (k : Int))).length ≤ 1000 from Nat.le_trans (show ((nodesW l').filter _).length ≤ _ from List.length_filter_le _ _) HLA.out)
  have HCO := Lib.hid (cut_ok (nodesW_ok HUP.out) HHK.out HK1.out)
  have HNO := Lib.hid (nodesW_ok HUP.out)
  go_cut [12, 14] (fun s12 s14 wx => ∃ (g12 kb ub nk2 : Nat) (fk2 : Int → Option Value), s12 = .pointer (some ⟨g12, 0, none⟩) ∧ s14 = .int .i64 0 ∧ Blk wx g12 37 #[.map (some kb), .map (some ub)] ∧ TreeIs wx (.agg #[.map (some kb), .map (some ub)]) (cutN (nodesW l') (idW (k : Int))) (some kb) (some ub) nk2 fk2 ∧ Below X1.heap.size X1 wx)
  case first =>
    as_aux_lemma =>
      have HBW := Lib.hid (show Below X1.heap.size X1 X1.drew from (bre X1).drew)
      refine wp_region_noPanic ?_
      refine wp_region_held_drew (S := (fun w' => w'.cell? ⟨gt, 0, none⟩ = some (.map mk) ∧ w'.cell? ⟨gt, 1, none⟩ = some (.map mu))) (by kernel_rfl) ?_ (fun hHeld => ?_)
      · (try dsimp only)
        exact ⟨(KT.out.belowS HBW.out).cellV (i := 0) rfl, (KT.out.belowS HBW.out).cellV (i := 1) rfl⟩
      refine Tr.take_at 0 56 (.agg #[.map mk, .map mu]) rfl rfl (by kernel_rfl) (by kernel_rfl) (by kernel_rfl) (fun _ _ _ h => h) (Or.inl ⟨by rfl, ?_⟩) (by assumption) ?_
      · intro W0 hSw
        (try dsimp only at hSw)
        go_simp
      simp only [List.set_cons_zero, List.set_cons_succ]
      refine Tr.take_at 1 57 (.int .i64 k) rfl rfl (by kernel_rfl) (by kernel_rfl) (by kernel_rfl) (fun _ _ _ h => h) (Or.inl ⟨by rfl, ?_⟩) (by assumption) ?_
      · intro W0 hSw
        (try dsimp only at hSw)
        go_simp
      simp only [List.set_cons_zero, List.set_cons_succ]
      refine wpAnyH_ready (rs := [2, 8]) (by kernel_rfl) (by simp) ?_
      refine AllReadyH.cons rfl (fun K hK => ?_) (AllReadyH.cons rfl (fun K hK => ?_) AllReadyH.nil)
      ·
        go_simp
        refine (id_b (k : Int) _ hids).mono ?_
        rintro e wd2 ⟨rfl, hbA⟩
        replace HBW := Lib.hid (bstep HBW.out hbA)
        clear hbA
        go_simp
        refine hK.out _ _ ?_ (fun hHeld => ?_)
        · (try dsimp only)
          exact ⟨(KT.out.belowS HBW.out).cellV (i := 0) rfl, (KT.out.belowS HBW.out).cellV (i := 1) rfl⟩
        clear hK K
        refine wpAnyH_ready (rs := [3, 8]) (by kernel_rfl) (by simp) ?_
        refine AllReadyH.cons rfl (fun K hK => ?_) (AllReadyH.cons rfl (fun K hK => ?_) AllReadyH.nil)
        ·
          go_simp
          refine (tremove_any _ (nodesW l') mk mu nk fk (idW (k : Int)) _ _ HIW.out (HM.out.tree.below HBW.out) (nodesW_ok HUP.out) HPU.out).mono ?_
          rintro e wd3 ⟨⟨kb, ub, nk2, fk2, Ag, ng, cg, rfl, hto⟩, hbA⟩
          have HTO := Lib.hid hto.tree
          clear hto
          replace HBW := Lib.hid (bstep HBW.out hbA)
          clear hbA
          go_simp
          refine hK.out _ _ ?_ (fun hHeld => ?_)
          · (try dsimp only)
            exact ⟨(KT.out.belowS HBW.out).cellV (i := 0) rfl, (KT.out.belowS HBW.out).cellV (i := 1) rfl⟩
          clear hK K
          refine Tr.take_at 4 55 (.tuple #[.agg #[.map (some kb), .map (some ub)], .slice Ag ng cg, .int .i64 0]) rfl rfl (by kernel_rfl) (by kernel_rfl) (by kernel_rfl) (fun _ _ _ h => h) (Or.inl ⟨by rfl, ?_⟩) (by assumption) ?_
          · intro W0 hSw
            (try dsimp only at hSw)
            go_simp
          simp only [List.set_cons_zero, List.set_cons_succ]
          refine Tr.take_at 5 60 (.agg #[.map (some kb), .map (some ub)]) rfl rfl (by kernel_rfl) (by kernel_rfl) (by kernel_rfl) (fun _ _ _ h => h) (Or.inl ⟨by rfl, ?_⟩) (by assumption) ?_
          · intro W0 hSw
            (try dsimp only at hSw)
            go_simp
          simp only [List.set_cons_zero, List.set_cons_succ]
          refine Tr.take_at 6 61 (.slice Ag ng cg) rfl rfl (by kernel_rfl) (by kernel_rfl) (by kernel_rfl) (fun _ _ _ h => h) (Or.inl ⟨by rfl, ?_⟩) (by assumption) ?_
          · intro W0 hSw
            (try dsimp only at hSw)
            go_simp
          simp only [List.set_cons_zero, List.set_cons_succ]
          refine Tr.take_at 7 62 (.int .i64 0) rfl rfl (by kernel_rfl) (by kernel_rfl) (by kernel_rfl) (fun _ _ _ h => h) (Or.inl ⟨by rfl, ?_⟩) (by assumption) ?_
          · intro W0 hSw
            (try dsimp only at hSw)
            go_simp
          simp only [List.set_cons_zero, List.set_cons_succ]
          refine wpAnyH_ready (rs := [8]) (by kernel_rfl) (by simp) ?_
          refine AllReadyH.cons rfl (fun K hK => ?_) AllReadyH.nil
          go_simp
          have KA8 := Lib.hid (show Blk (wd3.alloc (.cells #[.map none, .map none] 37)) (wd3.heap.size) 37 #[.map none, .map none] from Blk.new wd3 37 #[.map none, .map none])
          have HL8 := Lib.hid (show X1.heap.size ≤ wd3.heap.size from HBW.out.size)
          have hbA : Below wd3.heap.size wd3 ((wd3.alloc (.cells #[.map none, .map none] 37))) := bal (bre wd3) (.cells #[.map none, .map none] 37)
          replace HBW := Lib.hid (bstep HBW.out hbA)
          replace HTO := Lib.hid (HTO.out.below hbA)
          clear hbA
          refine hK.out _ _ ?_ (fun hHeld => ?_)
          · (try dsimp only)
            exact ⟨(KT.out.belowS HBW.out).cellV (i := 0) rfl, (KT.out.belowS HBW.out).cellV (i := 1) rfl⟩
          clear hK K
          refine wpAnyH_ready (rs := [9]) (by kernel_rfl) (by simp) ?_
          refine AllReadyH.cons rfl (fun K hK => ?_) AllReadyH.nil
          refine Tr.wanted_plain rfl ?_
          refine store_mid0 rfl 37 _ _ rfl (wd3.heap.size) 0 #[.map (some kb), .map (some ub)] (by rfl) (by rfl) (by have h := there_blk KA8.out; exact h) Tryz.sizeTr (by simp [Value.oneCell']) ?_
          have xK := blk_puts2 (.map (some kb)) (.map (some ub)) KA8.out
          have xB := bsets HBW.out HL8.out (#[.map (some kb), .map (some ub)] : Array Value).toList 0
          have xHTO := (show TreeIs (World.setCells (wd3.alloc (.cells #[.map none, .map none] 37)) (wd3.heap.size) 0 (#[.map (some kb), .map (some ub)] : Array Value).toList) _ _ _ _ _ _ from (HTO.out.setBlk KA8.out (maps_no _ _) 0 (.map (some kb))).setBlk (KA8.out.set_ 0 (.map (some kb))) (maps_no _ _) 1 (.map (some ub)))
          obtain ⟨wS9, hwS⟩ : ∃ wS, World.setCells (wd3.alloc (.cells #[.map none, .map none] 37)) (wd3.heap.size) 0 (#[.map (some kb), .map (some ub)] : Array Value).toList = wS := ⟨_, rfl⟩
          rw [hwS] at xK xB xHTO ⊢
          replace HBW := Lib.hid xB
          replace KA8 := Lib.hid xK
          replace HTO := Lib.hid xHTO
          clear hwS xK xB xHTO
          refine hK.out _ _ ?_ (fun hHeld => ?_)
          · (try dsimp only)
            exact ⟨(KT.out.belowS HBW.out).cellV (i := 0) rfl, (KT.out.belowS HBW.out).cellV (i := 1) rfl⟩
          clear hK K
          refine Tr.take_at 10 13 (.slice Ag ng cg) rfl rfl (by kernel_rfl) (by kernel_rfl) (by kernel_rfl) (fun _ _ _ h => h) (Or.inl ⟨by rfl, ?_⟩) (by assumption) ?_
          · intro W0 hSw
            (try dsimp only at hSw)
            go_simp
          simp only [List.set_cons_zero, List.set_cons_succ]
          refine Tr.take_at 11 14 (.int .i64 0) rfl rfl (by kernel_rfl) (by kernel_rfl) (by kernel_rfl) (fun _ _ _ h => h) (Or.inl ⟨by rfl, ?_⟩) (by assumption) ?_
          · intro W0 hSw
            (try dsimp only at hSw)
            go_simp
          simp only [List.set_cons_zero, List.set_cons_succ]
          refine wpAnyH_done (by kernel_rfl) ?_ _
          refine NoPanic.normal ?_
          go_wp2_with fail
          go_meet
          exact ⟨_, kb, ub, nk2, fk2, rfl, rfl, KA8.out, HTO.out, HBW.out⟩
        ·
          go_simp
          have KA8 := Lib.hid (show Blk (wd2.alloc (.cells #[.map none, .map none] 37)) (wd2.heap.size) 37 #[.map none, .map none] from Blk.new wd2 37 #[.map none, .map none])
          have HL8 := Lib.hid (show X1.heap.size ≤ wd2.heap.size from HBW.out.size)
          have hbA : Below wd2.heap.size wd2 ((wd2.alloc (.cells #[.map none, .map none] 37))) := bal (bre wd2) (.cells #[.map none, .map none] 37)
          replace HBW := Lib.hid (bstep HBW.out hbA)
          clear hbA
          refine hK.out _ _ ?_ (fun hHeld => ?_)
          · (try dsimp only)
            exact ⟨(KT.out.belowS HBW.out).cellV (i := 0) rfl, (KT.out.belowS HBW.out).cellV (i := 1) rfl⟩
          clear hK K
          refine wpAnyH_ready (rs := [3]) (by kernel_rfl) (by simp) ?_
          refine AllReadyH.cons rfl (fun K hK => ?_) AllReadyH.nil
          go_simp
          refine (tremove_any _ (nodesW l') mk mu nk fk (idW (k : Int)) _ _ HIW.out (HM.out.tree.below HBW.out) (nodesW_ok HUP.out) HPU.out).mono ?_
          rintro e wd3 ⟨⟨kb, ub, nk2, fk2, Ag, ng, cg, rfl, hto⟩, hbA⟩
          have HTO := Lib.hid hto.tree
          clear hto
          replace HBW := Lib.hid (bstep HBW.out hbA)
          replace KA8 := Lib.hid (KA8.out.belowS hbA)
          clear hbA
          go_simp
          refine hK.out _ _ ?_ (fun hHeld => ?_)
          · (try dsimp only)
            exact ⟨(KT.out.belowS HBW.out).cellV (i := 0) rfl, (KT.out.belowS HBW.out).cellV (i := 1) rfl⟩
          clear hK K
          refine Tr.take_at 4 55 (.tuple #[.agg #[.map (some kb), .map (some ub)], .slice Ag ng cg, .int .i64 0]) rfl rfl (by kernel_rfl) (by kernel_rfl) (by kernel_rfl) (fun _ _ _ h => h) (Or.inl ⟨by rfl, ?_⟩) (by assumption) ?_
          · intro W0 hSw
            (try dsimp only at hSw)
            go_simp
          simp only [List.set_cons_zero, List.set_cons_succ]
          refine Tr.take_at 5 60 (.agg #[.map (some kb), .map (some ub)]) rfl rfl (by kernel_rfl) (by kernel_rfl) (by kernel_rfl) (fun _ _ _ h => h) (Or.inl ⟨by rfl, ?_⟩) (by assumption) ?_
          · intro W0 hSw
            (try dsimp only at hSw)
            go_simp
          simp only [List.set_cons_zero, List.set_cons_succ]
          refine Tr.take_at 6 61 (.slice Ag ng cg) rfl rfl (by kernel_rfl) (by kernel_rfl) (by kernel_rfl) (fun _ _ _ h => h) (Or.inl ⟨by rfl, ?_⟩) (by assumption) ?_
          · intro W0 hSw
            (try dsimp only at hSw)
            go_simp
          simp only [List.set_cons_zero, List.set_cons_succ]
          refine Tr.take_at 7 62 (.int .i64 0) rfl rfl (by kernel_rfl) (by kernel_rfl) (by kernel_rfl) (fun _ _ _ h => h) (Or.inl ⟨by rfl, ?_⟩) (by assumption) ?_
          · intro W0 hSw
            (try dsimp only at hSw)
            go_simp
          simp only [List.set_cons_zero, List.set_cons_succ]
          refine wpAnyH_ready (rs := [9]) (by kernel_rfl) (by simp) ?_
          refine AllReadyH.cons rfl (fun K hK => ?_) AllReadyH.nil
          refine Tr.wanted_plain rfl ?_
          refine store_mid0 rfl 37 _ _ rfl (wd2.heap.size) 0 #[.map (some kb), .map (some ub)] (by rfl) (by rfl) (by have h := there_blk KA8.out; exact h) Tryz.sizeTr (by simp [Value.oneCell']) ?_
          have xK := blk_puts2 (.map (some kb)) (.map (some ub)) KA8.out
          have xB := bsets HBW.out HL8.out (#[.map (some kb), .map (some ub)] : Array Value).toList 0
          have xHTO := (show TreeIs (World.setCells (wd3) (wd2.heap.size) 0 (#[.map (some kb), .map (some ub)] : Array Value).toList) _ _ _ _ _ _ from (HTO.out.setBlk KA8.out (maps_no _ _) 0 (.map (some kb))).setBlk (KA8.out.set_ 0 (.map (some kb))) (maps_no _ _) 1 (.map (some ub)))
          obtain ⟨wS9, hwS⟩ : ∃ wS, World.setCells wd3 (wd2.heap.size) 0 (#[.map (some kb), .map (some ub)] : Array Value).toList = wS := ⟨_, rfl⟩
          rw [hwS] at xK xB xHTO ⊢
          replace HBW := Lib.hid xB
          replace KA8 := Lib.hid xK
          replace HTO := Lib.hid xHTO
          clear hwS xK xB xHTO
          refine hK.out _ _ ?_ (fun hHeld => ?_)
          · (try dsimp only)
            exact ⟨(KT.out.belowS HBW.out).cellV (i := 0) rfl, (KT.out.belowS HBW.out).cellV (i := 1) rfl⟩
          clear hK K
          refine Tr.take_at 10 13 (.slice Ag ng cg) rfl rfl (by kernel_rfl) (by kernel_rfl) (by kernel_rfl) (fun _ _ _ h => h) (Or.inl ⟨by rfl, ?_⟩) (by assumption) ?_
          · intro W0 hSw
            (try dsimp only at hSw)
            go_simp
          simp only [List.set_cons_zero, List.set_cons_succ]
          refine Tr.take_at 11 14 (.int .i64 0) rfl rfl (by kernel_rfl) (by kernel_rfl) (by kernel_rfl) (fun _ _ _ h => h) (Or.inl ⟨by rfl, ?_⟩) (by assumption) ?_
          · intro W0 hSw
            (try dsimp only at hSw)
            go_simp
          simp only [List.set_cons_zero, List.set_cons_succ]
          refine wpAnyH_done (by kernel_rfl) ?_ _
          refine NoPanic.normal ?_
          go_wp2_with fail
          go_meet
          exact ⟨_, kb, ub, nk2, fk2, rfl, rfl, KA8.out, HTO.out, HBW.out⟩
      ·
        go_simp
        have KA8 := Lib.hid (show Blk (X1.alloc (.cells #[.map none, .map none] 37)).drew (X1.heap.size) 37 #[.map none, .map none] from Blk.new X1.drew 37 #[.map none, .map none])
        have HL8 := Lib.hid (show X1.heap.size ≤ X1.heap.size from HBW.out.size)
        have hbA : Below X1.drew.heap.size X1.drew ((X1.alloc (.cells #[.map none, .map none] 37)).drew) := bal (bre X1.drew) (.cells #[.map none, .map none] 37)
        replace HBW := Lib.hid (bstep HBW.out hbA)
        clear hbA
        refine hK.out _ _ ?_ (fun hHeld => ?_)
        · (try dsimp only)
          exact ⟨(KT.out.belowS HBW.out).cellV (i := 0) rfl, (KT.out.belowS HBW.out).cellV (i := 1) rfl⟩
        clear hK K
        refine wpAnyH_ready (rs := [2]) (by kernel_rfl) (by simp) ?_
        refine AllReadyH.cons rfl (fun K hK => ?_) AllReadyH.nil
        go_simp
        refine (id_b (k : Int) _ hids).mono ?_
        rintro e wd2 ⟨rfl, hbA⟩
        replace HBW := Lib.hid (bstep HBW.out hbA)
        replace KA8 := Lib.hid (KA8.out.belowS hbA)
        clear hbA
        go_simp
        refine hK.out _ _ ?_ (fun hHeld => ?_)
        · (try dsimp only)
          exact ⟨(KT.out.belowS HBW.out).cellV (i := 0) rfl, (KT.out.belowS HBW.out).cellV (i := 1) rfl⟩
        clear hK K
        refine wpAnyH_ready (rs := [3]) (by kernel_rfl) (by simp) ?_
        refine AllReadyH.cons rfl (fun K hK => ?_) AllReadyH.nil
        go_simp
        refine (tremove_any _ (nodesW l') mk mu nk fk (idW (k : Int)) _ _ HIW.out (HM.out.tree.below HBW.out) (nodesW_ok HUP.out) HPU.out).mono ?_
        rintro e wd3 ⟨⟨kb, ub, nk2, fk2, Ag, ng, cg, rfl, hto⟩, hbA⟩
        have HTO := Lib.hid hto.tree
        clear hto
        replace HBW := Lib.hid (bstep HBW.out hbA)
        replace KA8 := Lib.hid (KA8.out.belowS hbA)
        clear hbA
        go_simp
        refine hK.out _ _ ?_ (fun hHeld => ?_)
        · (try dsimp only)
          exact ⟨(KT.out.belowS HBW.out).cellV (i := 0) rfl, (KT.out.belowS HBW.out).cellV (i := 1) rfl⟩
        clear hK K
        refine Tr.take_at 4 55 (.tuple #[.agg #[.map (some kb), .map (some ub)], .slice Ag ng cg, .int .i64 0]) rfl rfl (by kernel_rfl) (by kernel_rfl) (by kernel_rfl) (fun _ _ _ h => h) (Or.inl ⟨by rfl, ?_⟩) (by assumption) ?_
        · intro W0 hSw
          (try dsimp only at hSw)
          go_simp
        simp only [List.set_cons_zero, List.set_cons_succ]
        refine Tr.take_at 5 60 (.agg #[.map (some kb), .map (some ub)]) rfl rfl (by kernel_rfl) (by kernel_rfl) (by kernel_rfl) (fun _ _ _ h => h) (Or.inl ⟨by rfl, ?_⟩) (by assumption) ?_
        · intro W0 hSw
          (try dsimp only at hSw)
          go_simp
        simp only [List.set_cons_zero, List.set_cons_succ]
        refine Tr.take_at 6 61 (.slice Ag ng cg) rfl rfl (by kernel_rfl) (by kernel_rfl) (by kernel_rfl) (fun _ _ _ h => h) (Or.inl ⟨by rfl, ?_⟩) (by assumption) ?_
        · intro W0 hSw
          (try dsimp only at hSw)
          go_simp
        simp only [List.set_cons_zero, List.set_cons_succ]
        refine Tr.take_at 7 62 (.int .i64 0) rfl rfl (by kernel_rfl) (by kernel_rfl) (by kernel_rfl) (fun _ _ _ h => h) (Or.inl ⟨by rfl, ?_⟩) (by assumption) ?_
        · intro W0 hSw
          (try dsimp only at hSw)
          go_simp
        simp only [List.set_cons_zero, List.set_cons_succ]
        refine wpAnyH_ready (rs := [9]) (by kernel_rfl) (by simp) ?_
        refine AllReadyH.cons rfl (fun K hK => ?_) AllReadyH.nil
        refine Tr.wanted_plain rfl ?_
        refine store_mid0 rfl 37 _ _ rfl (X1.heap.size) 0 #[.map (some kb), .map (some ub)] (by rfl) (by rfl) (by have h := there_blk KA8.out; exact h) Tryz.sizeTr (by simp [Value.oneCell']) ?_
        have xK := blk_puts2 (.map (some kb)) (.map (some ub)) KA8.out
        have xB := bsets HBW.out HL8.out (#[.map (some kb), .map (some ub)] : Array Value).toList 0
        have xHTO := (show TreeIs (World.setCells (wd3) (X1.heap.size) 0 (#[.map (some kb), .map (some ub)] : Array Value).toList) _ _ _ _ _ _ from (HTO.out.setBlk KA8.out (maps_no _ _) 0 (.map (some kb))).setBlk (KA8.out.set_ 0 (.map (some kb))) (maps_no _ _) 1 (.map (some ub)))
        obtain ⟨wS9, hwS⟩ : ∃ wS, World.setCells wd3 (X1.heap.size) 0 (#[.map (some kb), .map (some ub)] : Array Value).toList = wS := ⟨_, rfl⟩
        rw [hwS] at xK xB xHTO ⊢
        replace HBW := Lib.hid xB
        replace KA8 := Lib.hid xK
        replace HTO := Lib.hid xHTO
        clear hwS xK xB xHTO
        refine hK.out _ _ ?_ (fun hHeld => ?_)
        · (try dsimp only)
          exact ⟨(KT.out.belowS HBW.out).cellV (i := 0) rfl, (KT.out.belowS HBW.out).cellV (i := 1) rfl⟩
        clear hK K
        refine Tr.take_at 10 13 (.slice Ag ng cg) rfl rfl (by kernel_rfl) (by kernel_rfl) (by kernel_rfl) (fun _ _ _ h => h) (Or.inl ⟨by rfl, ?_⟩) (by assumption) ?_
        · intro W0 hSw
          (try dsimp only at hSw)
          go_simp
        simp only [List.set_cons_zero, List.set_cons_succ]
        refine Tr.take_at 11 14 (.int .i64 0) rfl rfl (by kernel_rfl) (by kernel_rfl) (by kernel_rfl) (fun _ _ _ h => h) (Or.inl ⟨by rfl, ?_⟩) (by assumption) ?_
        · intro W0 hSw
          (try dsimp only at hSw)
          go_simp
        simp only [List.set_cons_zero, List.set_cons_succ]
        refine wpAnyH_done (by kernel_rfl) ?_ _
        refine NoPanic.normal ?_
        go_wp2_with fail
        go_meet
        exact ⟨_, kb, ub, nk2, fk2, rfl, rfl, KA8.out, HTO.out, HBW.out⟩
  obtain ⟨g12, kb, ub, nk2, fk2, rfl, rfl, hk12, ht2, hbc⟩ := hcut
  have K12 := Lib.hid hk12
  have HT2 := Lib.hid ht2
  have HBC := Lib.hid hbc
  replace HB := Lib.hid (bstep HB.out hbc)
  replace KT := Lib.hid (KT.out.belowS hbc)
  replace KP := Lib.hid (KP.out.belowS hbc)
  replace HM := Lib.hid (HM.out.below hbc)
  clear hk12 ht2 hbc HBC HL
  obtain ⟨Y2, hY2⟩ : ∃ Z, Z = wc := ⟨_, rfl⟩
  subst hY2
  go_upto_region 13 with fail
  go_cut [15, 16] (fun s15 s16 wx => ∃ (g1 g2 : Nat) (A1 : Option Addr) (n1 c1 : Nat) (m1 : Option Nat) (A2 : Option Addr) (n2 c2 : Nat) (m2 : Option Nat) (og1 og2 : Int → Int × Int), s15 = .pointer (some ⟨g1, 0, none⟩) ∧ s16 = .pointer (some ⟨g2, 0, none⟩) ∧ Blk wx g1 52 #[.slice A1 n1 c1, .map m1] ∧ Blk wx g2 52 #[.slice A2 n2 c2, .map m2] ∧ SeenG wx (.agg #[.slice A1 n1 c1, .map m1]) RW RH (nodesW l') (bxS RW RH l') og1 ∧ SeenG wx (.agg #[.slice A2 n2 c2, .map m2]) RW RH (cutN (nodesW l') (idW (k : Int))) (bxS RW RH l') og2 ∧ Below Y2.heap.size Y2 wx)
  case first =>
    as_aux_lemma =>
      have HBW := Lib.hid (show Below Y2.heap.size Y2 Y2.drew from (bre Y2).drew)
      refine wp_region_noPanic ?_
      refine wp_region_held_drew (S := (fun w' => w'.cell? ⟨gt, 0, none⟩ = some (.map mk) ∧ w'.cell? ⟨gt, 1, none⟩ = some (.map mu) ∧ w'.cell? ⟨gt + 1, 0, none⟩ = some (.map mp) ∧ w'.cell? ⟨g12, 0, none⟩ = some (.map (some kb)) ∧ w'.cell? ⟨g12, 1, none⟩ = some (.map (some ub)))) (by kernel_rfl) ?_ (fun hHeld => ?_)
      · (try dsimp only)
        exact ⟨(KT.out.belowS HBW.out).cellV (i := 0) rfl, (KT.out.belowS HBW.out).cellV (i := 1) rfl, (KP.out.belowS HBW.out).cellV (i := 0) rfl, (K12.out.belowS HBW.out).cellV (i := 0) rfl, (K12.out.belowS HBW.out).cellV (i := 1) rfl⟩
      refine Tr.take_at 0 65 (.agg #[.map mk, .map mu]) rfl rfl (by kernel_rfl) (by kernel_rfl) (by kernel_rfl) (fun _ _ _ h => h) (Or.inl ⟨by rfl, ?_⟩) (by assumption) ?_
      · intro W0 hSw
        (try dsimp only at hSw)
        go_simp
      simp only [List.set_cons_zero, List.set_cons_succ]
      refine Tr.take_at 1 66 (.agg #[.map mp]) rfl rfl (by kernel_rfl) (by kernel_rfl) (by kernel_rfl) (fun _ _ _ h => h) (Or.inl ⟨by rfl, ?_⟩) (by assumption) ?_
      · intro W0 hSw
        (try dsimp only at hSw)
        go_simp
      simp only [List.set_cons_zero, List.set_cons_succ]
      refine Tr.take_at 3 68 (.agg #[.map (some kb), .map (some ub)]) rfl rfl (by kernel_rfl) (by kernel_rfl) (by kernel_rfl) (fun _ _ _ h => h) (Or.inl ⟨by rfl, ?_⟩) (by assumption) ?_
      · intro W0 hSw
        (try dsimp only at hSw)
        go_simp
      simp only [List.set_cons_zero, List.set_cons_succ]
      refine Tr.take_at 4 69 (.agg #[.map mp]) rfl rfl (by kernel_rfl) (by kernel_rfl) (by kernel_rfl) (fun _ _ _ h => h) (Or.inl ⟨by rfl, ?_⟩) (by assumption) ?_
      · intro W0 hSw
        (try dsimp only at hSw)
        go_simp
      simp only [List.set_cons_zero, List.set_cons_succ]
      refine wpAnyH_ready (rs := [2, 6, 7]) (by kernel_rfl) (by simp) ?_
      refine AllReadyH.cons rfl (fun K hK => ?_) (AllReadyH.cons rfl (fun K hK => ?_) (AllReadyH.cons rfl (fun K hK => ?_) AllReadyH.nil))
      ·
        go_simp
        refine (seenG_of (RW := RW) (RH := RH) (l := l') (ns := nodesW l') (bs := bs) (fk := fk) (nk := nk) (n := l'.length + 1) _ (HM.out.tree.below HBW.out) (HM.out.place.below HBW.out) (HM.out.scene.below HBW.out) HNO.out (fun _ h => h) HDW.out (HLA.out) HRR.out).mono ?_
        rintro e wc2 ⟨v1, og1, rfl, hse, hbA⟩
        obtain ⟨A1, n1, c1, m1, rfl⟩ := hse.form
        have HSE1 := Lib.hid hse
        clear hse
        replace HBW := Lib.hid (bstep HBW.out hbA)
        clear hbA
        go_simp
        refine hK.out _ _ ?_ (fun hHeld => ?_)
        · (try dsimp only)
          exact ⟨(KT.out.belowS HBW.out).cellV (i := 0) rfl, (KT.out.belowS HBW.out).cellV (i := 1) rfl, (KP.out.belowS HBW.out).cellV (i := 0) rfl, (K12.out.belowS HBW.out).cellV (i := 0) rfl, (K12.out.belowS HBW.out).cellV (i := 1) rfl⟩
        clear hK K
        refine wpAnyH_ready (rs := [5, 6, 7]) (by kernel_rfl) (by simp) ?_
        refine AllReadyH.cons rfl (fun K hK => ?_) (AllReadyH.cons rfl (fun K hK => ?_) (AllReadyH.cons rfl (fun K hK => ?_) AllReadyH.nil))
        ·
          go_simp
          refine (seenG_of (RW := RW) (RH := RH) (l := l') (ns := cutN (nodesW l') (idW (k : Int))) (bs := bs) (fk := fk2) (nk := nk2) (n := l'.length + 1) _ (HT2.out.below HBW.out) (HM.out.place.below HBW.out) (HM.out.scene.below HBW.out) HCO.out (fun j hj => hasN_sub hj) HDW.out (HLC.out) HRR.out).mono ?_
          rintro e wc5 ⟨v2, og2, rfl, hse, hbA⟩
          obtain ⟨A2, n2, c2, m2, rfl⟩ := hse.form
          have HSE2 := Lib.hid hse
          clear hse
          replace HBW := Lib.hid (bstep HBW.out hbA)
          replace HSE1 := Lib.hid (HSE1.out.below hbA)
          clear hbA
          go_simp
          refine hK.out _ _ ?_ (fun hHeld => ?_)
          · (try dsimp only)
            exact ⟨(KT.out.belowS HBW.out).cellV (i := 0) rfl, (KT.out.belowS HBW.out).cellV (i := 1) rfl, (KP.out.belowS HBW.out).cellV (i := 0) rfl, (K12.out.belowS HBW.out).cellV (i := 0) rfl, (K12.out.belowS HBW.out).cellV (i := 1) rfl⟩
          clear hK K
          refine wpAnyH_ready (rs := [6, 7]) (by kernel_rfl) (by simp) ?_
          refine AllReadyH.cons rfl (fun K hK => ?_) (AllReadyH.cons rfl (fun K hK => ?_) AllReadyH.nil)
          ·
            go_simp
            have KA6 := Lib.hid (show Blk (wc5.alloc (.cells #[.slice none 0 0, .map none] 52)) (wc5.heap.size) 52 #[.slice none 0 0, .map none] from Blk.new wc5 52 #[.slice none 0 0, .map none])
            have HL6 := Lib.hid (show Y2.heap.size ≤ wc5.heap.size from HBW.out.size)
            have hbA : Below wc5.heap.size wc5 ((wc5.alloc (.cells #[.slice none 0 0, .map none] 52))) := bal (bre wc5) (.cells #[.slice none 0 0, .map none] 52)
            replace HBW := Lib.hid (bstep HBW.out hbA)
            replace HSE1 := Lib.hid (HSE1.out.below hbA)
            replace HSE2 := Lib.hid (HSE2.out.below hbA)
            clear hbA
            refine hK.out _ _ ?_ (fun hHeld => ?_)
            · (try dsimp only)
              exact ⟨(KT.out.belowS HBW.out).cellV (i := 0) rfl, (KT.out.belowS HBW.out).cellV (i := 1) rfl, (KP.out.belowS HBW.out).cellV (i := 0) rfl, (K12.out.belowS HBW.out).cellV (i := 0) rfl, (K12.out.belowS HBW.out).cellV (i := 1) rfl⟩
            clear hK K
            refine wpAnyH_ready (rs := [7]) (by kernel_rfl) (by simp) ?_
            refine AllReadyH.cons rfl (fun K hK => ?_) AllReadyH.nil
            go_simp
            have HN6_7 := Lib.hid (show wc5.heap.size ≠ wc5.heap.size + 1 from by have h := KA6.out.lt; rw [show ((wc5.alloc (.cells #[.slice none 0 0, .map none] 52))).heap.size = wc5.heap.size + 1 from (show ((wc5.alloc (.cells #[.slice none 0 0, .map none] 52))).heap.size = wc5.heap.size + 1 by simp)] at h; exact Nat.ne_of_lt h)
            have KA7 := Lib.hid (show Blk ((wc5.alloc (.cells #[.slice none 0 0, .map none] 52)).alloc (.cells #[.slice none 0 0, .map none] 52)) (wc5.heap.size + 1) 52 #[.slice none 0 0, .map none] from by have h := Blk.new ((wc5.alloc (.cells #[.slice none 0 0, .map none] 52))) 52 #[.slice none 0 0, .map none]; rw [show ((wc5.alloc (.cells #[.slice none 0 0, .map none] 52))).heap.size = wc5.heap.size + 1 from (show ((wc5.alloc (.cells #[.slice none 0 0, .map none] 52))).heap.size = wc5.heap.size + 1 by simp)] at h; exact h)
            have HL7 := Lib.hid (show Y2.heap.size ≤ wc5.heap.size + 1 from by have h := HBW.out.size; rw [show ((wc5.alloc (.cells #[.slice none 0 0, .map none] 52))).heap.size = wc5.heap.size + 1 from (show ((wc5.alloc (.cells #[.slice none 0 0, .map none] 52))).heap.size = wc5.heap.size + 1 by simp)] at h; exact h)
            have hbA : Below (wc5.alloc (.cells #[.slice none 0 0, .map none] 52)).heap.size (wc5.alloc (.cells #[.slice none 0 0, .map none] 52)) (((wc5.alloc (.cells #[.slice none 0 0, .map none] 52)).alloc (.cells #[.slice none 0 0, .map none] 52))) := bal (bre (wc5.alloc (.cells #[.slice none 0 0, .map none] 52))) (.cells #[.slice none 0 0, .map none] 52)
            replace HBW := Lib.hid (bstep HBW.out hbA)
            replace KA6 := Lib.hid (KA6.out.belowS hbA)
            replace HSE1 := Lib.hid (HSE1.out.below hbA)
            replace HSE2 := Lib.hid (HSE2.out.below hbA)
            clear hbA
            refine hK.out _ _ ?_ (fun hHeld => ?_)
            · (try dsimp only)
              exact ⟨(KT.out.belowS HBW.out).cellV (i := 0) rfl, (KT.out.belowS HBW.out).cellV (i := 1) rfl, (KP.out.belowS HBW.out).cellV (i := 0) rfl, (K12.out.belowS HBW.out).cellV (i := 0) rfl, (K12.out.belowS HBW.out).cellV (i := 1) rfl⟩
            clear hK K
            refine wpAnyH_ready (rs := [8]) (by kernel_rfl) (by simp) ?_
            refine AllReadyH.cons rfl (fun K hK => ?_) AllReadyH.nil
            refine Tr.wanted_plain rfl ?_
            refine store_mid0 rfl 52 _ _ rfl (wc5.heap.size) 0 #[.slice A1 n1 c1, .map m1] (by rfl) (by rfl) (by have h := there_blk KA6.out; exact h) Tryz.sizeVx (by simp [Value.oneCell']) ?_
            have xK := blk_puts2 (.slice A1 n1 c1) (.map m1) KA6.out
            have xB := bsets HBW.out HL6.out (#[.slice A1 n1 c1, .map m1] : Array Value).toList 0
            have xA7 := KA7.out.farCells (HN6_7.out.symm) (#[.slice A1 n1 c1, .map m1] : Array Value).toList 0
            have xHSE1 := (show SeenG (World.setCells ((wc5.alloc (.cells #[.slice none 0 0, .map none] 52)).alloc (.cells #[.slice none 0 0, .map none] 52)) (wc5.heap.size) 0 (#[.slice A1 n1 c1, .map m1] : Array Value).toList) _ RW RH _ _ _ from (HSE1.out.setNo KA6.out (blkX_noI KA6.out (viewX_no _ _ _ _)) 0 (.slice A1 n1 c1)).setNo (KA6.out.set_ 0 (.slice A1 n1 c1)) (blkX_noI (KA6.out.set_ 0 (.slice A1 n1 c1)) (viewX_no _ _ _ _)) 1 (.map m1))
            have xHSE2 := (show SeenG (World.setCells ((wc5.alloc (.cells #[.slice none 0 0, .map none] 52)).alloc (.cells #[.slice none 0 0, .map none] 52)) (wc5.heap.size) 0 (#[.slice A1 n1 c1, .map m1] : Array Value).toList) _ RW RH _ _ _ from (HSE2.out.setNo KA6.out (blkX_noI KA6.out (viewX_no _ _ _ _)) 0 (.slice A1 n1 c1)).setNo (KA6.out.set_ 0 (.slice A1 n1 c1)) (blkX_noI (KA6.out.set_ 0 (.slice A1 n1 c1)) (viewX_no _ _ _ _)) 1 (.map m1))
            obtain ⟨wS8, hwS⟩ : ∃ wS, World.setCells ((wc5.alloc (.cells #[.slice none 0 0, .map none] 52)).alloc (.cells #[.slice none 0 0, .map none] 52)) (wc5.heap.size) 0 (#[.slice A1 n1 c1, .map m1] : Array Value).toList = wS := ⟨_, rfl⟩
            rw [hwS] at xK xB xA7 xHSE1 xHSE2 ⊢
            replace HBW := Lib.hid xB
            replace KA6 := Lib.hid xK
            replace KA7 := Lib.hid xA7
            replace HSE1 := Lib.hid xHSE1
            replace HSE2 := Lib.hid xHSE2
            clear hwS xK xB xA7 xHSE1 xHSE2
            refine hK.out _ _ ?_ (fun hHeld => ?_)
            · (try dsimp only)
              exact ⟨(KT.out.belowS HBW.out).cellV (i := 0) rfl, (KT.out.belowS HBW.out).cellV (i := 1) rfl, (KP.out.belowS HBW.out).cellV (i := 0) rfl, (K12.out.belowS HBW.out).cellV (i := 0) rfl, (K12.out.belowS HBW.out).cellV (i := 1) rfl⟩
            clear hK K
            refine wpAnyH_ready (rs := [9]) (by kernel_rfl) (by simp) ?_
            refine AllReadyH.cons rfl (fun K hK => ?_) AllReadyH.nil
            refine Tr.wanted_plain rfl ?_
            refine store_mid0 rfl 52 _ _ rfl (wc5.heap.size + 1) 0 #[.slice A2 n2 c2, .map m2] (by rfl) (by rfl) (by have h := there_blk KA7.out; exact h) Tryz.sizeVx (by simp [Value.oneCell']) ?_
            have xK := blk_puts2 (.slice A2 n2 c2) (.map m2) KA7.out
            have xB := bsets HBW.out HL7.out (#[.slice A2 n2 c2, .map m2] : Array Value).toList 0
            have xA6 := KA6.out.farCells (HN6_7.out) (#[.slice A2 n2 c2, .map m2] : Array Value).toList 0
            have xHSE1 := (show SeenG (World.setCells (wS8) (wc5.heap.size + 1) 0 (#[.slice A2 n2 c2, .map m2] : Array Value).toList) _ RW RH _ _ _ from (HSE1.out.setNo KA7.out (blkX_noI KA7.out (viewX_no _ _ _ _)) 0 (.slice A2 n2 c2)).setNo (KA7.out.set_ 0 (.slice A2 n2 c2)) (blkX_noI (KA7.out.set_ 0 (.slice A2 n2 c2)) (viewX_no _ _ _ _)) 1 (.map m2))
            have xHSE2 := (show SeenG (World.setCells (wS8) (wc5.heap.size + 1) 0 (#[.slice A2 n2 c2, .map m2] : Array Value).toList) _ RW RH _ _ _ from (HSE2.out.setNo KA7.out (blkX_noI KA7.out (viewX_no _ _ _ _)) 0 (.slice A2 n2 c2)).setNo (KA7.out.set_ 0 (.slice A2 n2 c2)) (blkX_noI (KA7.out.set_ 0 (.slice A2 n2 c2)) (viewX_no _ _ _ _)) 1 (.map m2))
            obtain ⟨wS9, hwS⟩ : ∃ wS, World.setCells wS8 (wc5.heap.size + 1) 0 (#[.slice A2 n2 c2, .map m2] : Array Value).toList = wS := ⟨_, rfl⟩
            rw [hwS] at xK xB xA6 xHSE1 xHSE2 ⊢
            replace HBW := Lib.hid xB
            replace KA7 := Lib.hid xK
            replace KA6 := Lib.hid xA6
            replace HSE1 := Lib.hid xHSE1
            replace HSE2 := Lib.hid xHSE2
            clear hwS xK xB xA6 xHSE1 xHSE2
            refine hK.out _ _ ?_ (fun hHeld => ?_)
            · (try dsimp only)
              exact ⟨(KT.out.belowS HBW.out).cellV (i := 0) rfl, (KT.out.belowS HBW.out).cellV (i := 1) rfl, (KP.out.belowS HBW.out).cellV (i := 0) rfl, (K12.out.belowS HBW.out).cellV (i := 0) rfl, (K12.out.belowS HBW.out).cellV (i := 1) rfl⟩
            clear hK K
            refine wpAnyH_done (by kernel_rfl) ?_ _
            refine NoPanic.normal ?_
            go_wp2_with fail
            go_meet
            exact ⟨_, _, A1, n1, c1, m1, A2, n2, c2, m2, og1, og2, rfl, rfl, KA6.out, KA7.out, HSE1.out, HSE2.out, HBW.out⟩
          ·
            go_simp
            have KA7 := Lib.hid (show Blk (wc5.alloc (.cells #[.slice none 0 0, .map none] 52)) (wc5.heap.size) 52 #[.slice none 0 0, .map none] from Blk.new wc5 52 #[.slice none 0 0, .map none])
            have HL7 := Lib.hid (show Y2.heap.size ≤ wc5.heap.size from HBW.out.size)
            have hbA : Below wc5.heap.size wc5 ((wc5.alloc (.cells #[.slice none 0 0, .map none] 52))) := bal (bre wc5) (.cells #[.slice none 0 0, .map none] 52)
            replace HBW := Lib.hid (bstep HBW.out hbA)
            replace HSE1 := Lib.hid (HSE1.out.below hbA)
            replace HSE2 := Lib.hid (HSE2.out.below hbA)
            clear hbA
            refine hK.out _ _ ?_ (fun hHeld => ?_)
            · (try dsimp only)
              exact ⟨(KT.out.belowS HBW.out).cellV (i := 0) rfl, (KT.out.belowS HBW.out).cellV (i := 1) rfl, (KP.out.belowS HBW.out).cellV (i := 0) rfl, (K12.out.belowS HBW.out).cellV (i := 0) rfl, (K12.out.belowS HBW.out).cellV (i := 1) rfl⟩
            clear hK K
            refine wpAnyH_ready (rs := [6]) (by kernel_rfl) (by simp) ?_
            refine AllReadyH.cons rfl (fun K hK => ?_) AllReadyH.nil
            go_simp
            have HN7_6 := Lib.hid (show wc5.heap.size ≠ wc5.heap.size + 1 from by have h := KA7.out.lt; rw [show ((wc5.alloc (.cells #[.slice none 0 0, .map none] 52))).heap.size = wc5.heap.size + 1 from (show ((wc5.alloc (.cells #[.slice none 0 0, .map none] 52))).heap.size = wc5.heap.size + 1 by simp)] at h; exact Nat.ne_of_lt h)
            have KA6 := Lib.hid (show Blk ((wc5.alloc (.cells #[.slice none 0 0, .map none] 52)).alloc (.cells #[.slice none 0 0, .map none] 52)) (wc5.heap.size + 1) 52 #[.slice none 0 0, .map none] from by have h := Blk.new ((wc5.alloc (.cells #[.slice none 0 0, .map none] 52))) 52 #[.slice none 0 0, .map none]; rw [show ((wc5.alloc (.cells #[.slice none 0 0, .map none] 52))).heap.size = wc5.heap.size + 1 from (show ((wc5.alloc (.cells #[.slice none 0 0, .map none] 52))).heap.size = wc5.heap.size + 1 by simp)] at h; exact h)
            have HL6 := Lib.hid (show Y2.heap.size ≤ wc5.heap.size + 1 from by have h := HBW.out.size; rw [show ((wc5.alloc (.cells #[.slice none 0 0, .map none] 52))).heap.size = wc5.heap.size + 1 from (show ((wc5.alloc (.cells #[.slice none 0 0, .map none] 52))).heap.size = wc5.heap.size + 1 by simp)] at h; exact h)
            have hbA : Below (wc5.alloc (.cells #[.slice none 0 0, .map none] 52)).heap.size (wc5.alloc (.cells #[.slice none 0 0, .map none] 52)) (((wc5.alloc (.cells #[.slice none 0 0, .map none] 52)).alloc (.cells #[.slice none 0 0, .map none] 52))) := bal (bre (wc5.alloc (.cells #[.slice none 0 0, .map none] 52))) (.cells #[.slice none 0 0, .map none] 52)
            replace HBW := Lib.hid (bstep HBW.out hbA)
            replace KA7 := Lib.hid (KA7.out.belowS hbA)
            replace HSE1 := Lib.hid (HSE1.out.below hbA)
            replace HSE2 := Lib.hid (HSE2.out.below hbA)
            clear hbA
            refine hK.out _ _ ?_ (fun hHeld => ?_)
            · (try dsimp only)
              exact ⟨(KT.out.belowS HBW.out).cellV (i := 0) rfl, (KT.out.belowS HBW.out).cellV (i := 1) rfl, (KP.out.belowS HBW.out).cellV (i := 0) rfl, (K12.out.belowS HBW.out).cellV (i := 0) rfl, (K12.out.belowS HBW.out).cellV (i := 1) rfl⟩
            clear hK K
            refine wpAnyH_ready (rs := [8]) (by kernel_rfl) (by simp) ?_
            refine AllReadyH.cons rfl (fun K hK => ?_) AllReadyH.nil
            refine Tr.wanted_plain rfl ?_
            refine store_mid0 rfl 52 _ _ rfl (wc5.heap.size + 1) 0 #[.slice A1 n1 c1, .map m1] (by rfl) (by rfl) (by have h := there_blk KA6.out; exact h) Tryz.sizeVx (by simp [Value.oneCell']) ?_
            have xK := blk_puts2 (.slice A1 n1 c1) (.map m1) KA6.out
            have xB := bsets HBW.out HL6.out (#[.slice A1 n1 c1, .map m1] : Array Value).toList 0
            have xA7 := KA7.out.farCells (HN7_6.out) (#[.slice A1 n1 c1, .map m1] : Array Value).toList 0
            have xHSE1 := (show SeenG (World.setCells ((wc5.alloc (.cells #[.slice none 0 0, .map none] 52)).alloc (.cells #[.slice none 0 0, .map none] 52)) (wc5.heap.size + 1) 0 (#[.slice A1 n1 c1, .map m1] : Array Value).toList) _ RW RH _ _ _ from (HSE1.out.setNo KA6.out (blkX_noI KA6.out (viewX_no _ _ _ _)) 0 (.slice A1 n1 c1)).setNo (KA6.out.set_ 0 (.slice A1 n1 c1)) (blkX_noI (KA6.out.set_ 0 (.slice A1 n1 c1)) (viewX_no _ _ _ _)) 1 (.map m1))
            have xHSE2 := (show SeenG (World.setCells ((wc5.alloc (.cells #[.slice none 0 0, .map none] 52)).alloc (.cells #[.slice none 0 0, .map none] 52)) (wc5.heap.size + 1) 0 (#[.slice A1 n1 c1, .map m1] : Array Value).toList) _ RW RH _ _ _ from (HSE2.out.setNo KA6.out (blkX_noI KA6.out (viewX_no _ _ _ _)) 0 (.slice A1 n1 c1)).setNo (KA6.out.set_ 0 (.slice A1 n1 c1)) (blkX_noI (KA6.out.set_ 0 (.slice A1 n1 c1)) (viewX_no _ _ _ _)) 1 (.map m1))
            obtain ⟨wS8, hwS⟩ : ∃ wS, World.setCells ((wc5.alloc (.cells #[.slice none 0 0, .map none] 52)).alloc (.cells #[.slice none 0 0, .map none] 52)) (wc5.heap.size + 1) 0 (#[.slice A1 n1 c1, .map m1] : Array Value).toList = wS := ⟨_, rfl⟩
            rw [hwS] at xK xB xA7 xHSE1 xHSE2 ⊢
            replace HBW := Lib.hid xB
            replace KA6 := Lib.hid xK
            replace KA7 := Lib.hid xA7
            replace HSE1 := Lib.hid xHSE1
            replace HSE2 := Lib.hid xHSE2
            clear hwS xK xB xA7 xHSE1 xHSE2
            refine hK.out _ _ ?_ (fun hHeld => ?_)
            · (try dsimp only)
              exact ⟨(KT.out.belowS HBW.out).cellV (i := 0) rfl, (KT.out.belowS HBW.out).cellV (i := 1) rfl, (KP.out.belowS HBW.out).cellV (i := 0) rfl, (K12.out.belowS HBW.out).cellV (i := 0) rfl, (K12.out.belowS HBW.out).cellV (i := 1) rfl⟩
            clear hK K
            refine wpAnyH_ready (rs := [9]) (by kernel_rfl) (by simp) ?_
            refine AllReadyH.cons rfl (fun K hK => ?_) AllReadyH.nil
            refine Tr.wanted_plain rfl ?_
            refine store_mid0 rfl 52 _ _ rfl (wc5.heap.size) 0 #[.slice A2 n2 c2, .map m2] (by rfl) (by rfl) (by have h := there_blk KA7.out; exact h) Tryz.sizeVx (by simp [Value.oneCell']) ?_
            have xK := blk_puts2 (.slice A2 n2 c2) (.map m2) KA7.out
            have xB := bsets HBW.out HL7.out (#[.slice A2 n2 c2, .map m2] : Array Value).toList 0
            have xA6 := KA6.out.farCells (HN7_6.out.symm) (#[.slice A2 n2 c2, .map m2] : Array Value).toList 0
            have xHSE1 := (show SeenG (World.setCells (wS8) (wc5.heap.size) 0 (#[.slice A2 n2 c2, .map m2] : Array Value).toList) _ RW RH _ _ _ from (HSE1.out.setNo KA7.out (blkX_noI KA7.out (viewX_no _ _ _ _)) 0 (.slice A2 n2 c2)).setNo (KA7.out.set_ 0 (.slice A2 n2 c2)) (blkX_noI (KA7.out.set_ 0 (.slice A2 n2 c2)) (viewX_no _ _ _ _)) 1 (.map m2))
            have xHSE2 := (show SeenG (World.setCells (wS8) (wc5.heap.size) 0 (#[.slice A2 n2 c2, .map m2] : Array Value).toList) _ RW RH _ _ _ from (HSE2.out.setNo KA7.out (blkX_noI KA7.out (viewX_no _ _ _ _)) 0 (.slice A2 n2 c2)).setNo (KA7.out.set_ 0 (.slice A2 n2 c2)) (blkX_noI (KA7.out.set_ 0 (.slice A2 n2 c2)) (viewX_no _ _ _ _)) 1 (.map m2))
            obtain ⟨wS9, hwS⟩ : ∃ wS, World.setCells wS8 (wc5.heap.size) 0 (#[.slice A2 n2 c2, .map m2] : Array Value).toList = wS := ⟨_, rfl⟩
            rw [hwS] at xK xB xA6 xHSE1 xHSE2 ⊢
            replace HBW := Lib.hid xB
            replace KA7 := Lib.hid xK
            replace KA6 := Lib.hid xA6
            replace HSE1 := Lib.hid xHSE1
            replace HSE2 := Lib.hid xHSE2
            clear hwS xK xB xA6 xHSE1 xHSE2
            refine hK.out _ _ ?_ (fun hHeld => ?_)
            · (try dsimp only)
              exact ⟨(KT.out.belowS HBW.out).cellV (i := 0) rfl, (KT.out.belowS HBW.out).cellV (i := 1) rfl, (KP.out.belowS HBW.out).cellV (i := 0) rfl, (K12.out.belowS HBW.out).cellV (i := 0) rfl, (K12.out.belowS HBW.out).cellV (i := 1) rfl⟩
            clear hK K
            refine wpAnyH_done (by kernel_rfl) ?_ _
            refine NoPanic.normal ?_
            go_wp2_with fail
            go_meet
            exact ⟨_, _, A1, n1, c1, m1, A2, n2, c2, m2, og1, og2, rfl, rfl, KA6.out, KA7.out, HSE1.out, HSE2.out, HBW.out⟩
        ·
          go_simp
          have KA6 := Lib.hid (show Blk (wc2.alloc (.cells #[.slice none 0 0, .map none] 52)) (wc2.heap.size) 52 #[.slice none 0 0, .map none] from Blk.new wc2 52 #[.slice none 0 0, .map none])
          have HL6 := Lib.hid (show Y2.heap.size ≤ wc2.heap.size from HBW.out.size)
          have hbA : Below wc2.heap.size wc2 ((wc2.alloc (.cells #[.slice none 0 0, .map none] 52))) := bal (bre wc2) (.cells #[.slice none 0 0, .map none] 52)
          replace HBW := Lib.hid (bstep HBW.out hbA)
          replace HSE1 := Lib.hid (HSE1.out.below hbA)
          clear hbA
          refine hK.out _ _ ?_ (fun hHeld => ?_)
          · (try dsimp only)
            exact ⟨(KT.out.belowS HBW.out).cellV (i := 0) rfl, (KT.out.belowS HBW.out).cellV (i := 1) rfl, (KP.out.belowS HBW.out).cellV (i := 0) rfl, (K12.out.belowS HBW.out).cellV (i := 0) rfl, (K12.out.belowS HBW.out).cellV (i := 1) rfl⟩
          clear hK K
          refine wpAnyH_ready (rs := [5, 7]) (by kernel_rfl) (by simp) ?_
          refine AllReadyH.cons rfl (fun K hK => ?_) (AllReadyH.cons rfl (fun K hK => ?_) AllReadyH.nil)
          ·
            go_simp
            refine (seenG_of (RW := RW) (RH := RH) (l := l') (ns := cutN (nodesW l') (idW (k : Int))) (bs := bs) (fk := fk2) (nk := nk2) (n := l'.length + 1) _ (HT2.out.below HBW.out) (HM.out.place.below HBW.out) (HM.out.scene.below HBW.out) HCO.out (fun j hj => hasN_sub hj) HDW.out (HLC.out) HRR.out).mono ?_
            rintro e wc5 ⟨v2, og2, rfl, hse, hbA⟩
            obtain ⟨A2, n2, c2, m2, rfl⟩ := hse.form
            have HSE2 := Lib.hid hse
            clear hse
            replace HBW := Lib.hid (bstep HBW.out hbA)
            replace KA6 := Lib.hid (KA6.out.belowS hbA)
            replace HSE1 := Lib.hid (HSE1.out.below hbA)
            clear hbA
            go_simp
            refine hK.out _ _ ?_ (fun hHeld => ?_)
            · (try dsimp only)
              exact ⟨(KT.out.belowS HBW.out).cellV (i := 0) rfl, (KT.out.belowS HBW.out).cellV (i := 1) rfl, (KP.out.belowS HBW.out).cellV (i := 0) rfl, (K12.out.belowS HBW.out).cellV (i := 0) rfl, (K12.out.belowS HBW.out).cellV (i := 1) rfl⟩
            clear hK K
            refine wpAnyH_ready (rs := [7]) (by kernel_rfl) (by simp) ?_
            refine AllReadyH.cons rfl (fun K hK => ?_) AllReadyH.nil
            go_simp
            have HN6_7 := Lib.hid (Nat.ne_of_lt KA6.out.lt)
            have KA7 := Lib.hid (show Blk (wc5.alloc (.cells #[.slice none 0 0, .map none] 52)) (wc5.heap.size) 52 #[.slice none 0 0, .map none] from Blk.new wc5 52 #[.slice none 0 0, .map none])
            have HL7 := Lib.hid (show Y2.heap.size ≤ wc5.heap.size from HBW.out.size)
            have hbA : Below wc5.heap.size wc5 ((wc5.alloc (.cells #[.slice none 0 0, .map none] 52))) := bal (bre wc5) (.cells #[.slice none 0 0, .map none] 52)
            replace HBW := Lib.hid (bstep HBW.out hbA)
            replace KA6 := Lib.hid (KA6.out.belowS hbA)
            replace HSE1 := Lib.hid (HSE1.out.below hbA)
            replace HSE2 := Lib.hid (HSE2.out.below hbA)
            clear hbA
            refine hK.out _ _ ?_ (fun hHeld => ?_)
            · (try dsimp only)
              exact ⟨(KT.out.belowS HBW.out).cellV (i := 0) rfl, (KT.out.belowS HBW.out).cellV (i := 1) rfl, (KP.out.belowS HBW.out).cellV (i := 0) rfl, (K12.out.belowS HBW.out).cellV (i := 0) rfl, (K12.out.belowS HBW.out).cellV (i := 1) rfl⟩
            clear hK K
            refine wpAnyH_ready (rs := [8]) (by kernel_rfl) (by simp) ?_
            refine AllReadyH.cons rfl (fun K hK => ?_) AllReadyH.nil
            refine Tr.wanted_plain rfl ?_
            refine store_mid0 rfl 52 _ _ rfl (wc2.heap.size) 0 #[.slice A1 n1 c1, .map m1] (by rfl) (by rfl) (by have h := there_blk KA6.out; exact h) Tryz.sizeVx (by simp [Value.oneCell']) ?_
            have xK := blk_puts2 (.slice A1 n1 c1) (.map m1) KA6.out
            have xB := bsets HBW.out HL6.out (#[.slice A1 n1 c1, .map m1] : Array Value).toList 0
            have xA7 := KA7.out.farCells (HN6_7.out.symm) (#[.slice A1 n1 c1, .map m1] : Array Value).toList 0
            have xHSE1 := (show SeenG (World.setCells (wc5.alloc (.cells #[.slice none 0 0, .map none] 52)) (wc2.heap.size) 0 (#[.slice A1 n1 c1, .map m1] : Array Value).toList) _ RW RH _ _ _ from (HSE1.out.setNo KA6.out (blkX_noI KA6.out (viewX_no _ _ _ _)) 0 (.slice A1 n1 c1)).setNo (KA6.out.set_ 0 (.slice A1 n1 c1)) (blkX_noI (KA6.out.set_ 0 (.slice A1 n1 c1)) (viewX_no _ _ _ _)) 1 (.map m1))
            have xHSE2 := (show SeenG (World.setCells (wc5.alloc (.cells #[.slice none 0 0, .map none] 52)) (wc2.heap.size) 0 (#[.slice A1 n1 c1, .map m1] : Array Value).toList) _ RW RH _ _ _ from (HSE2.out.setNo KA6.out (blkX_noI KA6.out (viewX_no _ _ _ _)) 0 (.slice A1 n1 c1)).setNo (KA6.out.set_ 0 (.slice A1 n1 c1)) (blkX_noI (KA6.out.set_ 0 (.slice A1 n1 c1)) (viewX_no _ _ _ _)) 1 (.map m1))
            obtain ⟨wS8, hwS⟩ : ∃ wS, World.setCells (wc5.alloc (.cells #[.slice none 0 0, .map none] 52)) (wc2.heap.size) 0 (#[.slice A1 n1 c1, .map m1] : Array Value).toList = wS := ⟨_, rfl⟩
            rw [hwS] at xK xB xA7 xHSE1 xHSE2 ⊢
            replace HBW := Lib.hid xB
            replace KA6 := Lib.hid xK
            replace KA7 := Lib.hid xA7
            replace HSE1 := Lib.hid xHSE1
            replace HSE2 := Lib.hid xHSE2
            clear hwS xK xB xA7 xHSE1 xHSE2
            refine hK.out _ _ ?_ (fun hHeld => ?_)
            · (try dsimp only)
              exact ⟨(KT.out.belowS HBW.out).cellV (i := 0) rfl, (KT.out.belowS HBW.out).cellV (i := 1) rfl, (KP.out.belowS HBW.out).cellV (i := 0) rfl, (K12.out.belowS HBW.out).cellV (i := 0) rfl, (K12.out.belowS HBW.out).cellV (i := 1) rfl⟩
            clear hK K
            refine wpAnyH_ready (rs := [9]) (by kernel_rfl) (by simp) ?_
            refine AllReadyH.cons rfl (fun K hK => ?_) AllReadyH.nil
            refine Tr.wanted_plain rfl ?_
            refine store_mid0 rfl 52 _ _ rfl (wc5.heap.size) 0 #[.slice A2 n2 c2, .map m2] (by rfl) (by rfl) (by have h := there_blk KA7.out; exact h) Tryz.sizeVx (by simp [Value.oneCell']) ?_
            have xK := blk_puts2 (.slice A2 n2 c2) (.map m2) KA7.out
            have xB := bsets HBW.out HL7.out (#[.slice A2 n2 c2, .map m2] : Array Value).toList 0
            have xA6 := KA6.out.farCells (HN6_7.out) (#[.slice A2 n2 c2, .map m2] : Array Value).toList 0
            have xHSE1 := (show SeenG (World.setCells (wS8) (wc5.heap.size) 0 (#[.slice A2 n2 c2, .map m2] : Array Value).toList) _ RW RH _ _ _ from (HSE1.out.setNo KA7.out (blkX_noI KA7.out (viewX_no _ _ _ _)) 0 (.slice A2 n2 c2)).setNo (KA7.out.set_ 0 (.slice A2 n2 c2)) (blkX_noI (KA7.out.set_ 0 (.slice A2 n2 c2)) (viewX_no _ _ _ _)) 1 (.map m2))
            have xHSE2 := (show SeenG (World.setCells (wS8) (wc5.heap.size) 0 (#[.slice A2 n2 c2, .map m2] : Array Value).toList) _ RW RH _ _ _ from (HSE2.out.setNo KA7.out (blkX_noI KA7.out (viewX_no _ _ _ _)) 0 (.slice A2 n2 c2)).setNo (KA7.out.set_ 0 (.slice A2 n2 c2)) (blkX_noI (KA7.out.set_ 0 (.slice A2 n2 c2)) (viewX_no _ _ _ _)) 1 (.map m2))
            obtain ⟨wS9, hwS⟩ : ∃ wS, World.setCells wS8 (wc5.heap.size) 0 (#[.slice A2 n2 c2, .map m2] : Array Value).toList = wS := ⟨_, rfl⟩
            rw [hwS] at xK xB xA6 xHSE1 xHSE2 ⊢
            replace HBW := Lib.hid xB
            replace KA7 := Lib.hid xK
            replace KA6 := Lib.hid xA6
            replace HSE1 := Lib.hid xHSE1
            replace HSE2 := Lib.hid xHSE2
            clear hwS xK xB xA6 xHSE1 xHSE2
            refine hK.out _ _ ?_ (fun hHeld => ?_)
            · (try dsimp only)
              exact ⟨(KT.out.belowS HBW.out).cellV (i := 0) rfl, (KT.out.belowS HBW.out).cellV (i := 1) rfl, (KP.out.belowS HBW.out).cellV (i := 0) rfl, (K12.out.belowS HBW.out).cellV (i := 0) rfl, (K12.out.belowS HBW.out).cellV (i := 1) rfl⟩
            clear hK K
            refine wpAnyH_done (by kernel_rfl) ?_ _
            refine NoPanic.normal ?_
            go_wp2_with fail
            go_meet
            exact ⟨_, _, A1, n1, c1, m1, A2, n2, c2, m2, og1, og2, rfl, rfl, KA6.out, KA7.out, HSE1.out, HSE2.out, HBW.out⟩
          ·
            go_simp
            have HN6_7 := Lib.hid (show wc2.heap.size ≠ wc2.heap.size + 1 from by have h := KA6.out.lt; rw [show ((wc2.alloc (.cells #[.slice none 0 0, .map none] 52))).heap.size = wc2.heap.size + 1 from (show ((wc2.alloc (.cells #[.slice none 0 0, .map none] 52))).heap.size = wc2.heap.size + 1 by simp)] at h; exact Nat.ne_of_lt h)
            have KA7 := Lib.hid (show Blk ((wc2.alloc (.cells #[.slice none 0 0, .map none] 52)).alloc (.cells #[.slice none 0 0, .map none] 52)) (wc2.heap.size + 1) 52 #[.slice none 0 0, .map none] from by have h := Blk.new ((wc2.alloc (.cells #[.slice none 0 0, .map none] 52))) 52 #[.slice none 0 0, .map none]; rw [show ((wc2.alloc (.cells #[.slice none 0 0, .map none] 52))).heap.size = wc2.heap.size + 1 from (show ((wc2.alloc (.cells #[.slice none 0 0, .map none] 52))).heap.size = wc2.heap.size + 1 by simp)] at h; exact h)
            have HL7 := Lib.hid (show Y2.heap.size ≤ wc2.heap.size + 1 from by have h := HBW.out.size; rw [show ((wc2.alloc (.cells #[.slice none 0 0, .map none] 52))).heap.size = wc2.heap.size + 1 from (show ((wc2.alloc (.cells #[.slice none 0 0, .map none] 52))).heap.size = wc2.heap.size + 1 by simp)] at h; exact h)
            have hbA : Below (wc2.alloc (.cells #[.slice none 0 0, .map none] 52)).heap.size (wc2.alloc (.cells #[.slice none 0 0, .map none] 52)) (((wc2.alloc (.cells #[.slice none 0 0, .map none] 52)).alloc (.cells #[.slice none 0 0, .map none] 52))) := bal (bre (wc2.alloc (.cells #[.slice none 0 0, .map none] 52))) (.cells #[.slice none 0 0, .map none] 52)
            replace HBW := Lib.hid (bstep HBW.out hbA)
            replace KA6 := Lib.hid (KA6.out.belowS hbA)
            replace HSE1 := Lib.hid (HSE1.out.below hbA)
            clear hbA
            refine hK.out _ _ ?_ (fun hHeld => ?_)
            · (try dsimp only)
              exact ⟨(KT.out.belowS HBW.out).cellV (i := 0) rfl, (KT.out.belowS HBW.out).cellV (i := 1) rfl, (KP.out.belowS HBW.out).cellV (i := 0) rfl, (K12.out.belowS HBW.out).cellV (i := 0) rfl, (K12.out.belowS HBW.out).cellV (i := 1) rfl⟩
            clear hK K
            refine wpAnyH_ready (rs := [5]) (by kernel_rfl) (by simp) ?_
            refine AllReadyH.cons rfl (fun K hK => ?_) AllReadyH.nil
            go_simp
            refine (seenG_of (RW := RW) (RH := RH) (l := l') (ns := cutN (nodesW l') (idW (k : Int))) (bs := bs) (fk := fk2) (nk := nk2) (n := l'.length + 1) _ (HT2.out.below HBW.out) (HM.out.place.below HBW.out) (HM.out.scene.below HBW.out) HCO.out (fun j hj => hasN_sub hj) HDW.out (HLC.out) HRR.out).mono ?_
            rintro e wc5 ⟨v2, og2, rfl, hse, hbA⟩
            obtain ⟨A2, n2, c2, m2, rfl⟩ := hse.form
            have HSE2 := Lib.hid hse
            clear hse
            replace HBW := Lib.hid (bstep HBW.out hbA)
            replace KA6 := Lib.hid (KA6.out.belowS hbA)
            replace KA7 := Lib.hid (KA7.out.belowS hbA)
            replace HSE1 := Lib.hid (HSE1.out.below hbA)
            clear hbA
            go_simp
            refine hK.out _ _ ?_ (fun hHeld => ?_)
            · (try dsimp only)
              exact ⟨(KT.out.belowS HBW.out).cellV (i := 0) rfl, (KT.out.belowS HBW.out).cellV (i := 1) rfl, (KP.out.belowS HBW.out).cellV (i := 0) rfl, (K12.out.belowS HBW.out).cellV (i := 0) rfl, (K12.out.belowS HBW.out).cellV (i := 1) rfl⟩
            clear hK K
            refine wpAnyH_ready (rs := [8]) (by kernel_rfl) (by simp) ?_
            refine AllReadyH.cons rfl (fun K hK => ?_) AllReadyH.nil
            refine Tr.wanted_plain rfl ?_
            refine store_mid0 rfl 52 _ _ rfl (wc2.heap.size) 0 #[.slice A1 n1 c1, .map m1] (by rfl) (by rfl) (by have h := there_blk KA6.out; exact h) Tryz.sizeVx (by simp [Value.oneCell']) ?_
            have xK := blk_puts2 (.slice A1 n1 c1) (.map m1) KA6.out
            have xB := bsets HBW.out HL6.out (#[.slice A1 n1 c1, .map m1] : Array Value).toList 0
            have xA7 := KA7.out.farCells (HN6_7.out.symm) (#[.slice A1 n1 c1, .map m1] : Array Value).toList 0
            have xHSE1 := (show SeenG (World.setCells (wc5) (wc2.heap.size) 0 (#[.slice A1 n1 c1, .map m1] : Array Value).toList) _ RW RH _ _ _ from (HSE1.out.setNo KA6.out (blkX_noI KA6.out (viewX_no _ _ _ _)) 0 (.slice A1 n1 c1)).setNo (KA6.out.set_ 0 (.slice A1 n1 c1)) (blkX_noI (KA6.out.set_ 0 (.slice A1 n1 c1)) (viewX_no _ _ _ _)) 1 (.map m1))
            have xHSE2 := (show SeenG (World.setCells (wc5) (wc2.heap.size) 0 (#[.slice A1 n1 c1, .map m1] : Array Value).toList) _ RW RH _ _ _ from (HSE2.out.setNo KA6.out (blkX_noI KA6.out (viewX_no _ _ _ _)) 0 (.slice A1 n1 c1)).setNo (KA6.out.set_ 0 (.slice A1 n1 c1)) (blkX_noI (KA6.out.set_ 0 (.slice A1 n1 c1)) (viewX_no _ _ _ _)) 1 (.map m1))
            obtain ⟨wS8, hwS⟩ : ∃ wS, World.setCells wc5 (wc2.heap.size) 0 (#[.slice A1 n1 c1, .map m1] : Array Value).toList = wS := ⟨_, rfl⟩
            rw [hwS] at xK xB xA7 xHSE1 xHSE2 ⊢
            replace HBW := Lib.hid xB
            replace KA6 := Lib.hid xK
            replace KA7 := Lib.hid xA7
            replace HSE1 := Lib.hid xHSE1
            replace HSE2 := Lib.hid xHSE2
            clear hwS xK xB xA7 xHSE1 xHSE2
            refine hK.out _ _ ?_ (fun hHeld => ?_)
            · (try dsimp only)
              exact ⟨(KT.out.belowS HBW.out).cellV (i := 0) rfl, (KT.out.belowS HBW.out).cellV (i := 1) rfl, (KP.out.belowS HBW.out).cellV (i := 0) rfl, (K12.out.belowS HBW.out).cellV (i := 0) rfl, (K12.out.belowS HBW.out).cellV (i := 1) rfl⟩
            clear hK K
            refine wpAnyH_ready (rs := [9]) (by kernel_rfl) (by simp) ?_
            refine AllReadyH.cons rfl (fun K hK => ?_) AllReadyH.nil
            refine Tr.wanted_plain rfl ?_
            refine store_mid0 rfl 52 _ _ rfl (wc2.heap.size + 1) 0 #[.slice A2 n2 c2, .map m2] (by rfl) (by rfl) (by have h := there_blk KA7.out; exact h) Tryz.sizeVx (by simp [Value.oneCell']) ?_
            have xK := blk_puts2 (.slice A2 n2 c2) (.map m2) KA7.out
            have xB := bsets HBW.out HL7.out (#[.slice A2 n2 c2, .map m2] : Array Value).toList 0
            have xA6 := KA6.out.farCells (HN6_7.out) (#[.slice A2 n2 c2, .map m2] : Array Value).toList 0
            have xHSE1 := (show SeenG (World.setCells (wS8) (wc2.heap.size + 1) 0 (#[.slice A2 n2 c2, .map m2] : Array Value).toList) _ RW RH _ _ _ from (HSE1.out.setNo KA7.out (blkX_noI KA7.out (viewX_no _ _ _ _)) 0 (.slice A2 n2 c2)).setNo (KA7.out.set_ 0 (.slice A2 n2 c2)) (blkX_noI (KA7.out.set_ 0 (.slice A2 n2 c2)) (viewX_no _ _ _ _)) 1 (.map m2))
            have xHSE2 := (show SeenG (World.setCells (wS8) (wc2.heap.size + 1) 0 (#[.slice A2 n2 c2, .map m2] : Array Value).toList) _ RW RH _ _ _ from (HSE2.out.setNo KA7.out (blkX_noI KA7.out (viewX_no _ _ _ _)) 0 (.slice A2 n2 c2)).setNo (KA7.out.set_ 0 (.slice A2 n2 c2)) (blkX_noI (KA7.out.set_ 0 (.slice A2 n2 c2)) (viewX_no _ _ _ _)) 1 (.map m2))
            obtain ⟨wS9, hwS⟩ : ∃ wS, World.setCells wS8 (wc2.heap.size + 1) 0 (#[.slice A2 n2 c2, .map m2] : Array Value).toList = wS := ⟨_, rfl⟩
            rw [hwS] at xK xB xA6 xHSE1 xHSE2 ⊢
            replace HBW := Lib.hid xB
            replace KA7 := Lib.hid xK
            replace KA6 := Lib.hid xA6
            replace HSE1 := Lib.hid xHSE1
            replace HSE2 := Lib.hid xHSE2
            clear hwS xK xB xA6 xHSE1 xHSE2
            refine hK.out _ _ ?_ (fun hHeld => ?_)
            · (try dsimp only)
              exact ⟨(KT.out.belowS HBW.out).cellV (i := 0) rfl, (KT.out.belowS HBW.out).cellV (i := 1) rfl, (KP.out.belowS HBW.out).cellV (i := 0) rfl, (K12.out.belowS HBW.out).cellV (i := 0) rfl, (K12.out.belowS HBW.out).cellV (i := 1) rfl⟩
            clear hK K
            refine wpAnyH_done (by kernel_rfl) ?_ _
            refine NoPanic.normal ?_
            go_wp2_with fail
            go_meet
            exact ⟨_, _, A1, n1, c1, m1, A2, n2, c2, m2, og1, og2, rfl, rfl, KA6.out, KA7.out, HSE1.out, HSE2.out, HBW.out⟩
        ·
          go_simp
          have KA7 := Lib.hid (show Blk (wc2.alloc (.cells #[.slice none 0 0, .map none] 52)) (wc2.heap.size) 52 #[.slice none 0 0, .map none] from Blk.new wc2 52 #[.slice none 0 0, .map none])
          have HL7 := Lib.hid (show Y2.heap.size ≤ wc2.heap.size from HBW.out.size)
          have hbA : Below wc2.heap.size wc2 ((wc2.alloc (.cells #[.slice none 0 0, .map none] 52))) := bal (bre wc2) (.cells #[.slice none 0 0, .map none] 52)
          replace HBW := Lib.hid (bstep HBW.out hbA)
          replace HSE1 := Lib.hid (HSE1.out.below hbA)
          clear hbA
          refine hK.out _ _ ?_ (fun hHeld => ?_)
          · (try dsimp only)
            exact ⟨(KT.out.belowS HBW.out).cellV (i := 0) rfl, (KT.out.belowS HBW.out).cellV (i := 1) rfl, (KP.out.belowS HBW.out).cellV (i := 0) rfl, (K12.out.belowS HBW.out).cellV (i := 0) rfl, (K12.out.belowS HBW.out).cellV (i := 1) rfl⟩
          clear hK K
          refine wpAnyH_ready (rs := [5, 6]) (by kernel_rfl) (by simp) ?_
          refine AllReadyH.cons rfl (fun K hK => ?_) (AllReadyH.cons rfl (fun K hK => ?_) AllReadyH.nil)
          ·
            go_simp
            refine (seenG_of (RW := RW) (RH := RH) (l := l') (ns := cutN (nodesW l') (idW (k : Int))) (bs := bs) (fk := fk2) (nk := nk2) (n := l'.length + 1) _ (HT2.out.below HBW.out) (HM.out.place.below HBW.out) (HM.out.scene.below HBW.out) HCO.out (fun j hj => hasN_sub hj) HDW.out (HLC.out) HRR.out).mono ?_
            rintro e wc5 ⟨v2, og2, rfl, hse, hbA⟩
            obtain ⟨A2, n2, c2, m2, rfl⟩ := hse.form
            have HSE2 := Lib.hid hse
            clear hse
            replace HBW := Lib.hid (bstep HBW.out hbA)
            replace KA7 := Lib.hid (KA7.out.belowS hbA)
            replace HSE1 := Lib.hid (HSE1.out.below hbA)
            clear hbA
            go_simp
            refine hK.out _ _ ?_ (fun hHeld => ?_)
            · (try dsimp only)
              exact ⟨(KT.out.belowS HBW.out).cellV (i := 0) rfl, (KT.out.belowS HBW.out).cellV (i := 1) rfl, (KP.out.belowS HBW.out).cellV (i := 0) rfl, (K12.out.belowS HBW.out).cellV (i := 0) rfl, (K12.out.belowS HBW.out).cellV (i := 1) rfl⟩
            clear hK K
            refine wpAnyH_ready (rs := [6]) (by kernel_rfl) (by simp) ?_
            refine AllReadyH.cons rfl (fun K hK => ?_) AllReadyH.nil
            go_simp
            have HN7_6 := Lib.hid (Nat.ne_of_lt KA7.out.lt)
            have KA6 := Lib.hid (show Blk (wc5.alloc (.cells #[.slice none 0 0, .map none] 52)) (wc5.heap.size) 52 #[.slice none 0 0, .map none] from Blk.new wc5 52 #[.slice none 0 0, .map none])
            have HL6 := Lib.hid (show Y2.heap.size ≤ wc5.heap.size from HBW.out.size)
            have hbA : Below wc5.heap.size wc5 ((wc5.alloc (.cells #[.slice none 0 0, .map none] 52))) := bal (bre wc5) (.cells #[.slice none 0 0, .map none] 52)
            replace HBW := Lib.hid (bstep HBW.out hbA)
            replace KA7 := Lib.hid (KA7.out.belowS hbA)
            replace HSE1 := Lib.hid (HSE1.out.below hbA)
            replace HSE2 := Lib.hid (HSE2.out.below hbA)
            clear hbA
            refine hK.out _ _ ?_ (fun hHeld => ?_)
            · (try dsimp only)
              exact ⟨(KT.out.belowS HBW.out).cellV (i := 0) rfl, (KT.out.belowS HBW.out).cellV (i := 1) rfl, (KP.out.belowS HBW.out).cellV (i := 0) rfl, (K12.out.belowS HBW.out).cellV (i := 0) rfl, (K12.out.belowS HBW.out).cellV (i := 1) rfl⟩
            clear hK K
            refine wpAnyH_ready (rs := [8]) (by kernel_rfl) (by simp) ?_
            refine AllReadyH.cons rfl (fun K hK => ?_) AllReadyH.nil
            refine Tr.wanted_plain rfl ?_
            refine store_mid0 rfl 52 _ _ rfl (wc5.heap.size) 0 #[.slice A1 n1 c1, .map m1] (by rfl) (by rfl) (by have h := there_blk KA6.out; exact h) Tryz.sizeVx (by simp [Value.oneCell']) ?_
            have xK := blk_puts2 (.slice A1 n1 c1) (.map m1) KA6.out
            have xB := bsets HBW.out HL6.out (#[.slice A1 n1 c1, .map m1] : Array Value).toList 0
            have xA7 := KA7.out.farCells (HN7_6.out) (#[.slice A1 n1 c1, .map m1] : Array Value).toList 0
            have xHSE1 := (show SeenG (World.setCells (wc5.alloc (.cells #[.slice none 0 0, .map none] 52)) (wc5.heap.size) 0 (#[.slice A1 n1 c1, .map m1] : Array Value).toList) _ RW RH _ _ _ from (HSE1.out.setNo KA6.out (blkX_noI KA6.out (viewX_no _ _ _ _)) 0 (.slice A1 n1 c1)).setNo (KA6.out.set_ 0 (.slice A1 n1 c1)) (blkX_noI (KA6.out.set_ 0 (.slice A1 n1 c1)) (viewX_no _ _ _ _)) 1 (.map m1))
            have xHSE2 := (show SeenG (World.setCells (wc5.alloc (.cells #[.slice none 0 0, .map none] 52)) (wc5.heap.size) 0 (#[.slice A1 n1 c1, .map m1] : Array Value).toList) _ RW RH _ _ _ from (HSE2.out.setNo KA6.out (blkX_noI KA6.out (viewX_no _ _ _ _)) 0 (.slice A1 n1 c1)).setNo (KA6.out.set_ 0 (.slice A1 n1 c1)) (blkX_noI (KA6.out.set_ 0 (.slice A1 n1 c1)) (viewX_no _ _ _ _)) 1 (.map m1))
            obtain ⟨wS8, hwS⟩ : ∃ wS, World.setCells (wc5.alloc (.cells #[.slice none 0 0, .map none] 52)) (wc5.heap.size) 0 (#[.slice A1 n1 c1, .map m1] : Array Value).toList = wS := ⟨_, rfl⟩
            rw [hwS] at xK xB xA7 xHSE1 xHSE2 ⊢
            replace HBW := Lib.hid xB
            replace KA6 := Lib.hid xK
            replace KA7 := Lib.hid xA7
            replace HSE1 := Lib.hid xHSE1
            replace HSE2 := Lib.hid xHSE2
            clear hwS xK xB xA7 xHSE1 xHSE2
            refine hK.out _ _ ?_ (fun hHeld => ?_)
            · (try dsimp only)
              exact ⟨(KT.out.belowS HBW.out).cellV (i := 0) rfl, (KT.out.belowS HBW.out).cellV (i := 1) rfl, (KP.out.belowS HBW.out).cellV (i := 0) rfl, (K12.out.belowS HBW.out).cellV (i := 0) rfl, (K12.out.belowS HBW.out).cellV (i := 1) rfl⟩
            clear hK K
            refine wpAnyH_ready (rs := [9]) (by kernel_rfl) (by simp) ?_
            refine AllReadyH.cons rfl (fun K hK => ?_) AllReadyH.nil
            refine Tr.wanted_plain rfl ?_
            refine store_mid0 rfl 52 _ _ rfl (wc2.heap.size) 0 #[.slice A2 n2 c2, .map m2] (by rfl) (by rfl) (by have h := there_blk KA7.out; exact h) Tryz.sizeVx (by simp [Value.oneCell']) ?_
            have xK := blk_puts2 (.slice A2 n2 c2) (.map m2) KA7.out
            have xB := bsets HBW.out HL7.out (#[.slice A2 n2 c2, .map m2] : Array Value).toList 0
            have xA6 := KA6.out.farCells (HN7_6.out.symm) (#[.slice A2 n2 c2, .map m2] : Array Value).toList 0
            have xHSE1 := (show SeenG (World.setCells (wS8) (wc2.heap.size) 0 (#[.slice A2 n2 c2, .map m2] : Array Value).toList) _ RW RH _ _ _ from (HSE1.out.setNo KA7.out (blkX_noI KA7.out (viewX_no _ _ _ _)) 0 (.slice A2 n2 c2)).setNo (KA7.out.set_ 0 (.slice A2 n2 c2)) (blkX_noI (KA7.out.set_ 0 (.slice A2 n2 c2)) (viewX_no _ _ _ _)) 1 (.map m2))
            have xHSE2 := (show SeenG (World.setCells (wS8) (wc2.heap.size) 0 (#[.slice A2 n2 c2, .map m2] : Array Value).toList) _ RW RH _ _ _ from (HSE2.out.setNo KA7.out (blkX_noI KA7.out (viewX_no _ _ _ _)) 0 (.slice A2 n2 c2)).setNo (KA7.out.set_ 0 (.slice A2 n2 c2)) (blkX_noI (KA7.out.set_ 0 (.slice A2 n2 c2)) (viewX_no _ _ _ _)) 1 (.map m2))
            obtain ⟨wS9, hwS⟩ : ∃ wS, World.setCells wS8 (wc2.heap.size) 0 (#[.slice A2 n2 c2, .map m2] : Array Value).toList = wS := ⟨_, rfl⟩
            rw [hwS] at xK xB xA6 xHSE1 xHSE2 ⊢
            replace HBW := Lib.hid xB
            replace KA7 := Lib.hid xK
            replace KA6 := Lib.hid xA6
            replace HSE1 := Lib.hid xHSE1
            replace HSE2 := Lib.hid xHSE2
            clear hwS xK xB xA6 xHSE1 xHSE2
            refine hK.out _ _ ?_ (fun hHeld => ?_)
            · (try dsimp only)
              exact ⟨(KT.out.belowS HBW.out).cellV (i := 0) rfl, (KT.out.belowS HBW.out).cellV (i := 1) rfl, (KP.out.belowS HBW.out).cellV (i := 0) rfl, (K12.out.belowS HBW.out).cellV (i := 0) rfl, (K12.out.belowS HBW.out).cellV (i := 1) rfl⟩
            clear hK K
            refine wpAnyH_done (by kernel_rfl) ?_ _
            refine NoPanic.normal ?_
            go_wp2_with fail
            go_meet
            exact ⟨_, _, A1, n1, c1, m1, A2, n2, c2, m2, og1, og2, rfl, rfl, KA6.out, KA7.out, HSE1.out, HSE2.out, HBW.out⟩
          ·
            go_simp
            have HN7_6 := Lib.hid (show wc2.heap.size ≠ wc2.heap.size + 1 from by have h := KA7.out.lt; rw [show ((wc2.alloc (.cells #[.slice none 0 0, .map none] 52))).heap.size = wc2.heap.size + 1 from (show ((wc2.alloc (.cells #[.slice none 0 0, .map none] 52))).heap.size = wc2.heap.size + 1 by simp)] at h; exact Nat.ne_of_lt h)
            have KA6 := Lib.hid (show Blk ((wc2.alloc (.cells #[.slice none 0 0, .map none] 52)).alloc (.cells #[.slice none 0 0, .map none] 52)) (wc2.heap.size + 1) 52 #[.slice none 0 0, .map none] from by have h := Blk.new ((wc2.alloc (.cells #[.slice none 0 0, .map none] 52))) 52 #[.slice none 0 0, .map none]; rw [show ((wc2.alloc (.cells #[.slice none 0 0, .map none] 52))).heap.size = wc2.heap.size + 1 from (show ((wc2.alloc (.cells #[.slice none 0 0, .map none] 52))).heap.size = wc2.heap.size + 1 by simp)] at h; exact h)
            have HL6 := Lib.hid (show Y2.heap.size ≤ wc2.heap.size + 1 from by have h := HBW.out.size; rw [show ((wc2.alloc (.cells #[.slice none 0 0, .map none] 52))).heap.size = wc2.heap.size + 1 from (show ((wc2.alloc (.cells #[.slice none 0 0, .map none] 52))).heap.size = wc2.heap.size + 1 by simp)] at h; exact h)
            have hbA : Below (wc2.alloc (.cells #[.slice none 0 0, .map none] 52)).heap.size (wc2.alloc (.cells #[.slice none 0 0, .map none] 52)) (((wc2.alloc (.cells #[.slice none 0 0, .map none] 52)).alloc (.cells #[.slice none 0 0, .map none] 52))) := bal (bre (wc2.alloc (.cells #[.slice none 0 0, .map none] 52))) (.cells #[.slice none 0 0, .map none] 52)
            replace HBW := Lib.hid (bstep HBW.out hbA)
            replace KA7 := Lib.hid (KA7.out.belowS hbA)
            replace HSE1 := Lib.hid (HSE1.out.below hbA)
            clear hbA
            refine hK.out _ _ ?_ (fun hHeld => ?_)
            · (try dsimp only)
              exact ⟨(KT.out.belowS HBW.out).cellV (i := 0) rfl, (KT.out.belowS HBW.out).cellV (i := 1) rfl, (KP.out.belowS HBW.out).cellV (i := 0) rfl, (K12.out.belowS HBW.out).cellV (i := 0) rfl, (K12.out.belowS HBW.out).cellV (i := 1) rfl⟩
            clear hK K
            refine wpAnyH_ready (rs := [5]) (by kernel_rfl) (by simp) ?_
            refine AllReadyH.cons rfl (fun K hK => ?_) AllReadyH.nil
            go_simp
            refine (seenG_of (RW := RW) (RH := RH) (l := l') (ns := cutN (nodesW l') (idW (k : Int))) (bs := bs) (fk := fk2) (nk := nk2) (n := l'.length + 1) _ (HT2.out.below HBW.out) (HM.out.place.below HBW.out) (HM.out.scene.below HBW.out) HCO.out (fun j hj => hasN_sub hj) HDW.out (HLC.out) HRR.out).mono ?_
            rintro e wc5 ⟨v2, og2, rfl, hse, hbA⟩
            obtain ⟨A2, n2, c2, m2, rfl⟩ := hse.form
            have HSE2 := Lib.hid hse
            clear hse
            replace HBW := Lib.hid (bstep HBW.out hbA)
            replace KA7 := Lib.hid (KA7.out.belowS hbA)
            replace KA6 := Lib.hid (KA6.out.belowS hbA)
            replace HSE1 := Lib.hid (HSE1.out.below hbA)
            clear hbA
            go_simp
            refine hK.out _ _ ?_ (fun hHeld => ?_)
            · (try dsimp only)
              exact ⟨(KT.out.belowS HBW.out).cellV (i := 0) rfl, (KT.out.belowS HBW.out).cellV (i := 1) rfl, (KP.out.belowS HBW.out).cellV (i := 0) rfl, (K12.out.belowS HBW.out).cellV (i := 0) rfl, (K12.out.belowS HBW.out).cellV (i := 1) rfl⟩
            clear hK K
            refine wpAnyH_ready (rs := [8]) (by kernel_rfl) (by simp) ?_
            refine AllReadyH.cons rfl (fun K hK => ?_) AllReadyH.nil
            refine Tr.wanted_plain rfl ?_
            refine store_mid0 rfl 52 _ _ rfl (wc2.heap.size + 1) 0 #[.slice A1 n1 c1, .map m1] (by rfl) (by rfl) (by have h := there_blk KA6.out; exact h) Tryz.sizeVx (by simp [Value.oneCell']) ?_
            have xK := blk_puts2 (.slice A1 n1 c1) (.map m1) KA6.out
            have xB := bsets HBW.out HL6.out (#[.slice A1 n1 c1, .map m1] : Array Value).toList 0
            have xA7 := KA7.out.farCells (HN7_6.out) (#[.slice A1 n1 c1, .map m1] : Array Value).toList 0
            have xHSE1 := (show SeenG (World.setCells (wc5) (wc2.heap.size + 1) 0 (#[.slice A1 n1 c1, .map m1] : Array Value).toList) _ RW RH _ _ _ from (HSE1.out.setNo KA6.out (blkX_noI KA6.out (viewX_no _ _ _ _)) 0 (.slice A1 n1 c1)).setNo (KA6.out.set_ 0 (.slice A1 n1 c1)) (blkX_noI (KA6.out.set_ 0 (.slice A1 n1 c1)) (viewX_no _ _ _ _)) 1 (.map m1))
            have xHSE2 := (show SeenG (World.setCells (wc5) (wc2.heap.size + 1) 0 (#[.slice A1 n1 c1, .map m1] : Array Value).toList) _ RW RH _ _ _ from (HSE2.out.setNo KA6.out (blkX_noI KA6.out (viewX_no _ _ _ _)) 0 (.slice A1 n1 c1)).setNo (KA6.out.set_ 0 (.slice A1 n1 c1)) (blkX_noI (KA6.out.set_ 0 (.slice A1 n1 c1)) (viewX_no _ _ _ _)) 1 (.map m1))
            obtain ⟨wS8, hwS⟩ : ∃ wS, World.setCells wc5 (wc2.heap.size + 1) 0 (#[.slice A1 n1 c1, .map m1] : Array Value).toList = wS := ⟨_, rfl⟩
            rw [hwS] at xK xB xA7 xHSE1 xHSE2 ⊢
            replace HBW := Lib.hid xB
            replace KA6 := Lib.hid xK
            replace KA7 := Lib.hid xA7
            replace HSE1 := Lib.hid xHSE1
            replace HSE2 := Lib.hid xHSE2
            clear hwS xK xB xA7 xHSE1 xHSE2
            refine hK.out _ _ ?_ (fun hHeld => ?_)
            · (try dsimp only)
              exact ⟨(KT.out.belowS HBW.out).cellV (i := 0) rfl, (KT.out.belowS HBW.out).cellV (i := 1) rfl, (KP.out.belowS HBW.out).cellV (i := 0) rfl, (K12.out.belowS HBW.out).cellV (i := 0) rfl, (K12.out.belowS HBW.out).cellV (i := 1) rfl⟩
            clear hK K
            refine wpAnyH_ready (rs := [9]) (by kernel_rfl) (by simp) ?_
            refine AllReadyH.cons rfl (fun K hK => ?_) AllReadyH.nil
            refine Tr.wanted_plain rfl ?_
            refine store_mid0 rfl 52 _ _ rfl (wc2.heap.size) 0 #[.slice A2 n2 c2, .map m2] (by rfl) (by rfl) (by have h := there_blk KA7.out; exact h) Tryz.sizeVx (by simp [Value.oneCell']) ?_
            have xK := blk_puts2 (.slice A2 n2 c2) (.map m2) KA7.out
            have xB := bsets HBW.out HL7.out (#[.slice A2 n2 c2, .map m2] : Array Value).toList 0
            have xA6 := KA6.out.farCells (HN7_6.out.symm) (#[.slice A2 n2 c2, .map m2] : Array Value).toList 0
            have xHSE1 := (show SeenG (World.setCells (wS8) (wc2.heap.size) 0 (#[.slice A2 n2 c2, .map m2] : Array Value).toList) _ RW RH _ _ _ from (HSE1.out.setNo KA7.out (blkX_noI KA7.out (viewX_no _ _ _ _)) 0 (.slice A2 n2 c2)).setNo (KA7.out.set_ 0 (.slice A2 n2 c2)) (blkX_noI (KA7.out.set_ 0 (.slice A2 n2 c2)) (viewX_no _ _ _ _)) 1 (.map m2))
            have xHSE2 := (show SeenG (World.setCells (wS8) (wc2.heap.size) 0 (#[.slice A2 n2 c2, .map m2] : Array Value).toList) _ RW RH _ _ _ from (HSE2.out.setNo KA7.out (blkX_noI KA7.out (viewX_no _ _ _ _)) 0 (.slice A2 n2 c2)).setNo (KA7.out.set_ 0 (.slice A2 n2 c2)) (blkX_noI (KA7.out.set_ 0 (.slice A2 n2 c2)) (viewX_no _ _ _ _)) 1 (.map m2))
            obtain ⟨wS9, hwS⟩ : ∃ wS, World.setCells wS8 (wc2.heap.size) 0 (#[.slice A2 n2 c2, .map m2] : Array Value).toList = wS := ⟨_, rfl⟩
            rw [hwS] at xK xB xA6 xHSE1 xHSE2 ⊢
            replace HBW := Lib.hid xB
            replace KA7 := Lib.hid xK
            replace KA6 := Lib.hid xA6
            replace HSE1 := Lib.hid xHSE1
            replace HSE2 := Lib.hid xHSE2
            clear hwS xK xB xA6 xHSE1 xHSE2
            refine hK.out _ _ ?_ (fun hHeld => ?_)
            · (try dsimp only)
              exact ⟨(KT.out.belowS HBW.out).cellV (i := 0) rfl, (KT.out.belowS HBW.out).cellV (i := 1) rfl, (KP.out.belowS HBW.out).cellV (i := 0) rfl, (K12.out.belowS HBW.out).cellV (i := 0) rfl, (K12.out.belowS HBW.out).cellV (i := 1) rfl⟩
            clear hK K
            refine wpAnyH_done (by kernel_rfl) ?_ _
            refine NoPanic.normal ?_
            go_wp2_with fail
            go_meet
            exact ⟨_, _, A1, n1, c1, m1, A2, n2, c2, m2, og1, og2, rfl, rfl, KA6.out, KA7.out, HSE1.out, HSE2.out, HBW.out⟩
      ·
        go_simp
        have KA6 := Lib.hid (show Blk (Y2.alloc (.cells #[.slice none 0 0, .map none] 52)).drew (Y2.heap.size) 52 #[.slice none 0 0, .map none] from Blk.new Y2.drew 52 #[.slice none 0 0, .map none])
        have HL6 := Lib.hid (show Y2.heap.size ≤ Y2.heap.size from HBW.out.size)
        have hbA : Below Y2.drew.heap.size Y2.drew ((Y2.alloc (.cells #[.slice none 0 0, .map none] 52)).drew) := bal (bre Y2.drew) (.cells #[.slice none 0 0, .map none] 52)
        replace HBW := Lib.hid (bstep HBW.out hbA)
        clear hbA
        refine hK.out _ _ ?_ (fun hHeld => ?_)
        · (try dsimp only)
          exact ⟨(KT.out.belowS HBW.out).cellV (i := 0) rfl, (KT.out.belowS HBW.out).cellV (i := 1) rfl, (KP.out.belowS HBW.out).cellV (i := 0) rfl, (K12.out.belowS HBW.out).cellV (i := 0) rfl, (K12.out.belowS HBW.out).cellV (i := 1) rfl⟩
        clear hK K
        refine wpAnyH_ready (rs := [2, 7]) (by kernel_rfl) (by simp) ?_
        refine AllReadyH.cons rfl (fun K hK => ?_) (AllReadyH.cons rfl (fun K hK => ?_) AllReadyH.nil)
        ·
          go_simp
          refine (seenG_of (RW := RW) (RH := RH) (l := l') (ns := nodesW l') (bs := bs) (fk := fk) (nk := nk) (n := l'.length + 1) _ (HM.out.tree.below HBW.out) (HM.out.place.below HBW.out) (HM.out.scene.below HBW.out) HNO.out (fun _ h => h) HDW.out (HLA.out) HRR.out).mono ?_
          rintro e wc2 ⟨v1, og1, rfl, hse, hbA⟩
          obtain ⟨A1, n1, c1, m1, rfl⟩ := hse.form
          have HSE1 := Lib.hid hse
          clear hse
          replace HBW := Lib.hid (bstep HBW.out hbA)
          replace KA6 := Lib.hid (KA6.out.belowS hbA)
          clear hbA
          go_simp
          refine hK.out _ _ ?_ (fun hHeld => ?_)
          · (try dsimp only)
            exact ⟨(KT.out.belowS HBW.out).cellV (i := 0) rfl, (KT.out.belowS HBW.out).cellV (i := 1) rfl, (KP.out.belowS HBW.out).cellV (i := 0) rfl, (K12.out.belowS HBW.out).cellV (i := 0) rfl, (K12.out.belowS HBW.out).cellV (i := 1) rfl⟩
          clear hK K
          refine wpAnyH_ready (rs := [5, 7]) (by kernel_rfl) (by simp) ?_
          refine AllReadyH.cons rfl (fun K hK => ?_) (AllReadyH.cons rfl (fun K hK => ?_) AllReadyH.nil)
          ·
            go_simp
            refine (seenG_of (RW := RW) (RH := RH) (l := l') (ns := cutN (nodesW l') (idW (k : Int))) (bs := bs) (fk := fk2) (nk := nk2) (n := l'.length + 1) _ (HT2.out.below HBW.out) (HM.out.place.below HBW.out) (HM.out.scene.below HBW.out) HCO.out (fun j hj => hasN_sub hj) HDW.out (HLC.out) HRR.out).mono ?_
            rintro e wc5 ⟨v2, og2, rfl, hse, hbA⟩
            obtain ⟨A2, n2, c2, m2, rfl⟩ := hse.form
            have HSE2 := Lib.hid hse
            clear hse
            replace HBW := Lib.hid (bstep HBW.out hbA)
            replace KA6 := Lib.hid (KA6.out.belowS hbA)
            replace HSE1 := Lib.hid (HSE1.out.below hbA)
            clear hbA
            go_simp
            refine hK.out _ _ ?_ (fun hHeld => ?_)
            · (try dsimp only)
              exact ⟨(KT.out.belowS HBW.out).cellV (i := 0) rfl, (KT.out.belowS HBW.out).cellV (i := 1) rfl, (KP.out.belowS HBW.out).cellV (i := 0) rfl, (K12.out.belowS HBW.out).cellV (i := 0) rfl, (K12.out.belowS HBW.out).cellV (i := 1) rfl⟩
            clear hK K
            refine wpAnyH_ready (rs := [7]) (by kernel_rfl) (by simp) ?_
            refine AllReadyH.cons rfl (fun K hK => ?_) AllReadyH.nil
            go_simp
            have HN6_7 := Lib.hid (Nat.ne_of_lt KA6.out.lt)
            have KA7 := Lib.hid (show Blk (wc5.alloc (.cells #[.slice none 0 0, .map none] 52)) (wc5.heap.size) 52 #[.slice none 0 0, .map none] from Blk.new wc5 52 #[.slice none 0 0, .map none])
            have HL7 := Lib.hid (show Y2.heap.size ≤ wc5.heap.size from HBW.out.size)
            have hbA : Below wc5.heap.size wc5 ((wc5.alloc (.cells #[.slice none 0 0, .map none] 52))) := bal (bre wc5) (.cells #[.slice none 0 0, .map none] 52)
            replace HBW := Lib.hid (bstep HBW.out hbA)
            replace KA6 := Lib.hid (KA6.out.belowS hbA)
            replace HSE1 := Lib.hid (HSE1.out.below hbA)
            replace HSE2 := Lib.hid (HSE2.out.below hbA)
            clear hbA
            refine hK.out _ _ ?_ (fun hHeld => ?_)
            · (try dsimp only)
              exact ⟨(KT.out.belowS HBW.out).cellV (i := 0) rfl, (KT.out.belowS HBW.out).cellV (i := 1) rfl, (KP.out.belowS HBW.out).cellV (i := 0) rfl, (K12.out.belowS HBW.out).cellV (i := 0) rfl, (K12.out.belowS HBW.out).cellV (i := 1) rfl⟩
            clear hK K
            refine wpAnyH_ready (rs := [8]) (by kernel_rfl) (by simp) ?_
            refine AllReadyH.cons rfl (fun K hK => ?_) AllReadyH.nil
            refine Tr.wanted_plain rfl ?_
            refine store_mid0 rfl 52 _ _ rfl (Y2.heap.size) 0 #[.slice A1 n1 c1, .map m1] (by rfl) (by rfl) (by have h := there_blk KA6.out; exact h) Tryz.sizeVx (by simp [Value.oneCell']) ?_
            have xK := blk_puts2 (.slice A1 n1 c1) (.map m1) KA6.out
            have xB := bsets HBW.out HL6.out (#[.slice A1 n1 c1, .map m1] : Array Value).toList 0
            have xA7 := KA7.out.farCells (HN6_7.out.symm) (#[.slice A1 n1 c1, .map m1] : Array Value).toList 0
            have xHSE1 := (show SeenG (World.setCells (wc5.alloc (.cells #[.slice none 0 0, .map none] 52)) (Y2.heap.size) 0 (#[.slice A1 n1 c1, .map m1] : Array Value).toList) _ RW RH _ _ _ from (HSE1.out.setNo KA6.out (blkX_noI KA6.out (viewX_no _ _ _ _)) 0 (.slice A1 n1 c1)).setNo (KA6.out.set_ 0 (.slice A1 n1 c1)) (blkX_noI (KA6.out.set_ 0 (.slice A1 n1 c1)) (viewX_no _ _ _ _)) 1 (.map m1))
            have xHSE2 := (show SeenG (World.setCells (wc5.alloc (.cells #[.slice none 0 0, .map none] 52)) (Y2.heap.size) 0 (#[.slice A1 n1 c1, .map m1] : Array Value).toList) _ RW RH _ _ _ from (HSE2.out.setNo KA6.out (blkX_noI KA6.out (viewX_no _ _ _ _)) 0 (.slice A1 n1 c1)).setNo (KA6.out.set_ 0 (.slice A1 n1 c1)) (blkX_noI (KA6.out.set_ 0 (.slice A1 n1 c1)) (viewX_no _ _ _ _)) 1 (.map m1))
            obtain ⟨wS8, hwS⟩ : ∃ wS, World.setCells (wc5.alloc (.cells #[.slice none 0 0, .map none] 52)) (Y2.heap.size) 0 (#[.slice A1 n1 c1, .map m1] : Array Value).toList = wS := ⟨_, rfl⟩
            rw [hwS] at xK xB xA7 xHSE1 xHSE2 ⊢
            replace HBW := Lib.hid xB
            replace KA6 := Lib.hid xK
            replace KA7 := Lib.hid xA7
            replace HSE1 := Lib.hid xHSE1
            replace HSE2 := Lib.hid xHSE2
            clear hwS xK xB xA7 xHSE1 xHSE2
            refine hK.out _ _ ?_ (fun hHeld => ?_)
            · (try dsimp only)
              exact ⟨(KT.out.belowS HBW.out).cellV (i := 0) rfl, (KT.out.belowS HBW.out).cellV (i := 1) rfl, (KP.out.belowS HBW.out).cellV (i := 0) rfl, (K12.out.belowS HBW.out).cellV (i := 0) rfl, (K12.out.belowS HBW.out).cellV (i := 1) rfl⟩
            clear hK K
            refine wpAnyH_ready (rs := [9]) (by kernel_rfl) (by simp) ?_
            refine AllReadyH.cons rfl (fun K hK => ?_) AllReadyH.nil
            refine Tr.wanted_plain rfl ?_
            refine store_mid0 rfl 52 _ _ rfl (wc5.heap.size) 0 #[.slice A2 n2 c2, .map m2] (by rfl) (by rfl) (by have h := there_blk KA7.out; exact h) Tryz.sizeVx (by simp [Value.oneCell']) ?_
            have xK := blk_puts2 (.slice A2 n2 c2) (.map m2) KA7.out
            have xB := bsets HBW.out HL7.out (#[.slice A2 n2 c2, .map m2] : Array Value).toList 0
            have xA6 := KA6.out.farCells (HN6_7.out) (#[.slice A2 n2 c2, .map m2] : Array Value).toList 0
            have xHSE1 := (show SeenG (World.setCells (wS8) (wc5.heap.size) 0 (#[.slice A2 n2 c2, .map m2] : Array Value).toList) _ RW RH _ _ _ from (HSE1.out.setNo KA7.out (blkX_noI KA7.out (viewX_no _ _ _ _)) 0 (.slice A2 n2 c2)).setNo (KA7.out.set_ 0 (.slice A2 n2 c2)) (blkX_noI (KA7.out.set_ 0 (.slice A2 n2 c2)) (viewX_no _ _ _ _)) 1 (.map m2))
            have xHSE2 := (show SeenG (World.setCells (wS8) (wc5.heap.size) 0 (#[.slice A2 n2 c2, .map m2] : Array Value).toList) _ RW RH _ _ _ from (HSE2.out.setNo KA7.out (blkX_noI KA7.out (viewX_no _ _ _ _)) 0 (.slice A2 n2 c2)).setNo (KA7.out.set_ 0 (.slice A2 n2 c2)) (blkX_noI (KA7.out.set_ 0 (.slice A2 n2 c2)) (viewX_no _ _ _ _)) 1 (.map m2))
            obtain ⟨wS9, hwS⟩ : ∃ wS, World.setCells wS8 (wc5.heap.size) 0 (#[.slice A2 n2 c2, .map m2] : Array Value).toList = wS := ⟨_, rfl⟩
            rw [hwS] at xK xB xA6 xHSE1 xHSE2 ⊢
            replace HBW := Lib.hid xB
            replace KA7 := Lib.hid xK
            replace KA6 := Lib.hid xA6
            replace HSE1 := Lib.hid xHSE1
            replace HSE2 := Lib.hid xHSE2
            clear hwS xK xB xA6 xHSE1 xHSE2
            refine hK.out _ _ ?_ (fun hHeld => ?_)
            · (try dsimp only)
              exact ⟨(KT.out.belowS HBW.out).cellV (i := 0) rfl, (KT.out.belowS HBW.out).cellV (i := 1) rfl, (KP.out.belowS HBW.out).cellV (i := 0) rfl, (K12.out.belowS HBW.out).cellV (i := 0) rfl, (K12.out.belowS HBW.out).cellV (i := 1) rfl⟩
            clear hK K
            refine wpAnyH_done (by kernel_rfl) ?_ _
            refine NoPanic.normal ?_
            go_wp2_with fail
            go_meet
            exact ⟨_, _, A1, n1, c1, m1, A2, n2, c2, m2, og1, og2, rfl, rfl, KA6.out, KA7.out, HSE1.out, HSE2.out, HBW.out⟩
          ·
            go_simp
            have HN6_7 := Lib.hid (Nat.ne_of_lt KA6.out.lt)
            have KA7 := Lib.hid (show Blk (wc2.alloc (.cells #[.slice none 0 0, .map none] 52)) (wc2.heap.size) 52 #[.slice none 0 0, .map none] from Blk.new wc2 52 #[.slice none 0 0, .map none])
            have HL7 := Lib.hid (show Y2.heap.size ≤ wc2.heap.size from HBW.out.size)
            have hbA : Below wc2.heap.size wc2 ((wc2.alloc (.cells #[.slice none 0 0, .map none] 52))) := bal (bre wc2) (.cells #[.slice none 0 0, .map none] 52)
            replace HBW := Lib.hid (bstep HBW.out hbA)
            replace KA6 := Lib.hid (KA6.out.belowS hbA)
            replace HSE1 := Lib.hid (HSE1.out.below hbA)
            clear hbA
            refine hK.out _ _ ?_ (fun hHeld => ?_)
            · (try dsimp only)
              exact ⟨(KT.out.belowS HBW.out).cellV (i := 0) rfl, (KT.out.belowS HBW.out).cellV (i := 1) rfl, (KP.out.belowS HBW.out).cellV (i := 0) rfl, (K12.out.belowS HBW.out).cellV (i := 0) rfl, (K12.out.belowS HBW.out).cellV (i := 1) rfl⟩
            clear hK K
            refine wpAnyH_ready (rs := [5]) (by kernel_rfl) (by simp) ?_
            refine AllReadyH.cons rfl (fun K hK => ?_) AllReadyH.nil
            go_simp
            refine (seenG_of (RW := RW) (RH := RH) (l := l') (ns := cutN (nodesW l') (idW (k : Int))) (bs := bs) (fk := fk2) (nk := nk2) (n := l'.length + 1) _ (HT2.out.below HBW.out) (HM.out.place.below HBW.out) (HM.out.scene.below HBW.out) HCO.out (fun j hj => hasN_sub hj) HDW.out (HLC.out) HRR.out).mono ?_
            rintro e wc5 ⟨v2, og2, rfl, hse, hbA⟩
            obtain ⟨A2, n2, c2, m2, rfl⟩ := hse.form
            have HSE2 := Lib.hid hse
            clear hse
            replace HBW := Lib.hid (bstep HBW.out hbA)
            replace KA6 := Lib.hid (KA6.out.belowS hbA)
            replace KA7 := Lib.hid (KA7.out.belowS hbA)
            replace HSE1 := Lib.hid (HSE1.out.below hbA)
            clear hbA
            go_simp
            refine hK.out _ _ ?_ (fun hHeld => ?_)
            · (try dsimp only)
              exact ⟨(KT.out.belowS HBW.out).cellV (i := 0) rfl, (KT.out.belowS HBW.out).cellV (i := 1) rfl, (KP.out.belowS HBW.out).cellV (i := 0) rfl, (K12.out.belowS HBW.out).cellV (i := 0) rfl, (K12.out.belowS HBW.out).cellV (i := 1) rfl⟩
            clear hK K
            refine wpAnyH_ready (rs := [8]) (by kernel_rfl) (by simp) ?_
            refine AllReadyH.cons rfl (fun K hK => ?_) AllReadyH.nil
            refine Tr.wanted_plain rfl ?_
            refine store_mid0 rfl 52 _ _ rfl (Y2.heap.size) 0 #[.slice A1 n1 c1, .map m1] (by rfl) (by rfl) (by have h := there_blk KA6.out; exact h) Tryz.sizeVx (by simp [Value.oneCell']) ?_
            have xK := blk_puts2 (.slice A1 n1 c1) (.map m1) KA6.out
            have xB := bsets HBW.out HL6.out (#[.slice A1 n1 c1, .map m1] : Array Value).toList 0
            have xA7 := KA7.out.farCells (HN6_7.out.symm) (#[.slice A1 n1 c1, .map m1] : Array Value).toList 0
            have xHSE1 := (show SeenG (World.setCells (wc5) (Y2.heap.size) 0 (#[.slice A1 n1 c1, .map m1] : Array Value).toList) _ RW RH _ _ _ from (HSE1.out.setNo KA6.out (blkX_noI KA6.out (viewX_no _ _ _ _)) 0 (.slice A1 n1 c1)).setNo (KA6.out.set_ 0 (.slice A1 n1 c1)) (blkX_noI (KA6.out.set_ 0 (.slice A1 n1 c1)) (viewX_no _ _ _ _)) 1 (.map m1))
            have xHSE2 := (show SeenG (World.setCells (wc5) (Y2.heap.size) 0 (#[.slice A1 n1 c1, .map m1] : Array Value).toList) _ RW RH _ _ _ from (HSE2.out.setNo KA6.out (blkX_noI KA6.out (viewX_no _ _ _ _)) 0 (.slice A1 n1 c1)).setNo (KA6.out.set_ 0 (.slice A1 n1 c1)) (blkX_noI (KA6.out.set_ 0 (.slice A1 n1 c1)) (viewX_no _ _ _ _)) 1 (.map m1))
            obtain ⟨wS8, hwS⟩ : ∃ wS, World.setCells wc5 (Y2.heap.size) 0 (#[.slice A1 n1 c1, .map m1] : Array Value).toList = wS := ⟨_, rfl⟩
            rw [hwS] at xK xB xA7 xHSE1 xHSE2 ⊢
            replace HBW := Lib.hid xB
            replace KA6 := Lib.hid xK
            replace KA7 := Lib.hid xA7
            replace HSE1 := Lib.hid xHSE1
            replace HSE2 := Lib.hid xHSE2
            clear hwS xK xB xA7 xHSE1 xHSE2
            refine hK.out _ _ ?_ (fun hHeld => ?_)
            · (try dsimp only)
              exact ⟨(KT.out.belowS HBW.out).cellV (i := 0) rfl, (KT.out.belowS HBW.out).cellV (i := 1) rfl, (KP.out.belowS HBW.out).cellV (i := 0) rfl, (K12.out.belowS HBW.out).cellV (i := 0) rfl, (K12.out.belowS HBW.out).cellV (i := 1) rfl⟩
            clear hK K
            refine wpAnyH_ready (rs := [9]) (by kernel_rfl) (by simp) ?_
            refine AllReadyH.cons rfl (fun K hK => ?_) AllReadyH.nil
            refine Tr.wanted_plain rfl ?_
            refine store_mid0 rfl 52 _ _ rfl (wc2.heap.size) 0 #[.slice A2 n2 c2, .map m2] (by rfl) (by rfl) (by have h := there_blk KA7.out; exact h) Tryz.sizeVx (by simp [Value.oneCell']) ?_
            have xK := blk_puts2 (.slice A2 n2 c2) (.map m2) KA7.out
            have xB := bsets HBW.out HL7.out (#[.slice A2 n2 c2, .map m2] : Array Value).toList 0
            have xA6 := KA6.out.farCells (HN6_7.out) (#[.slice A2 n2 c2, .map m2] : Array Value).toList 0
            have xHSE1 := (show SeenG (World.setCells (wS8) (wc2.heap.size) 0 (#[.slice A2 n2 c2, .map m2] : Array Value).toList) _ RW RH _ _ _ from (HSE1.out.setNo KA7.out (blkX_noI KA7.out (viewX_no _ _ _ _)) 0 (.slice A2 n2 c2)).setNo (KA7.out.set_ 0 (.slice A2 n2 c2)) (blkX_noI (KA7.out.set_ 0 (.slice A2 n2 c2)) (viewX_no _ _ _ _)) 1 (.map m2))
            have xHSE2 := (show SeenG (World.setCells (wS8) (wc2.heap.size) 0 (#[.slice A2 n2 c2, .map m2] : Array Value).toList) _ RW RH _ _ _ from (HSE2.out.setNo KA7.out (blkX_noI KA7.out (viewX_no _ _ _ _)) 0 (.slice A2 n2 c2)).setNo (KA7.out.set_ 0 (.slice A2 n2 c2)) (blkX_noI (KA7.out.set_ 0 (.slice A2 n2 c2)) (viewX_no _ _ _ _)) 1 (.map m2))
            obtain ⟨wS9, hwS⟩ : ∃ wS, World.setCells wS8 (wc2.heap.size) 0 (#[.slice A2 n2 c2, .map m2] : Array Value).toList = wS := ⟨_, rfl⟩
            rw [hwS] at xK xB xA6 xHSE1 xHSE2 ⊢
            replace HBW := Lib.hid xB
            replace KA7 := Lib.hid xK
            replace KA6 := Lib.hid xA6
            replace HSE1 := Lib.hid xHSE1
            replace HSE2 := Lib.hid xHSE2
            clear hwS xK xB xA6 xHSE1 xHSE2
            refine hK.out _ _ ?_ (fun hHeld => ?_)
            · (try dsimp only)
              exact ⟨(KT.out.belowS HBW.out).cellV (i := 0) rfl, (KT.out.belowS HBW.out).cellV (i := 1) rfl, (KP.out.belowS HBW.out).cellV (i := 0) rfl, (K12.out.belowS HBW.out).cellV (i := 0) rfl, (K12.out.belowS HBW.out).cellV (i := 1) rfl⟩
            clear hK K
            refine wpAnyH_done (by kernel_rfl) ?_ _
            refine NoPanic.normal ?_
            go_wp2_with fail
            go_meet
            exact ⟨_, _, A1, n1, c1, m1, A2, n2, c2, m2, og1, og2, rfl, rfl, KA6.out, KA7.out, HSE1.out, HSE2.out, HBW.out⟩
        ·
          go_simp
          have HN6_7 := Lib.hid (show Y2.heap.size ≠ Y2.heap.size + 1 from by have h := KA6.out.lt; rw [show ((Y2.alloc (.cells #[.slice none 0 0, .map none] 52)).drew).heap.size = Y2.heap.size + 1 from (show ((Y2.alloc (.cells #[.slice none 0 0, .map none] 52))).heap.size = Y2.heap.size + 1 by simp)] at h; exact Nat.ne_of_lt h)
          have KA7 := Lib.hid (show Blk ((Y2.alloc (.cells #[.slice none 0 0, .map none] 52)).alloc (.cells #[.slice none 0 0, .map none] 52)).drew (Y2.heap.size + 1) 52 #[.slice none 0 0, .map none] from by have h := Blk.new ((Y2.alloc (.cells #[.slice none 0 0, .map none] 52)).drew) 52 #[.slice none 0 0, .map none]; rw [show ((Y2.alloc (.cells #[.slice none 0 0, .map none] 52)).drew).heap.size = Y2.heap.size + 1 from (show ((Y2.alloc (.cells #[.slice none 0 0, .map none] 52))).heap.size = Y2.heap.size + 1 by simp)] at h; exact h)
          have HL7 := Lib.hid (show Y2.heap.size ≤ Y2.heap.size + 1 from by have h := HBW.out.size; rw [show ((Y2.alloc (.cells #[.slice none 0 0, .map none] 52)).drew).heap.size = Y2.heap.size + 1 from (show ((Y2.alloc (.cells #[.slice none 0 0, .map none] 52))).heap.size = Y2.heap.size + 1 by simp)] at h; exact h)
          have hbA : Below (Y2.alloc (.cells #[.slice none 0 0, .map none] 52)).drew.heap.size (Y2.alloc (.cells #[.slice none 0 0, .map none] 52)).drew (((Y2.alloc (.cells #[.slice none 0 0, .map none] 52)).alloc (.cells #[.slice none 0 0, .map none] 52)).drew) := bal (bre (Y2.alloc (.cells #[.slice none 0 0, .map none] 52)).drew) (.cells #[.slice none 0 0, .map none] 52)
          replace HBW := Lib.hid (bstep HBW.out hbA)
          replace KA6 := Lib.hid (KA6.out.belowS hbA)
          clear hbA
          refine hK.out _ _ ?_ (fun hHeld => ?_)
          · (try dsimp only)
            exact ⟨(KT.out.belowS HBW.out).cellV (i := 0) rfl, (KT.out.belowS HBW.out).cellV (i := 1) rfl, (KP.out.belowS HBW.out).cellV (i := 0) rfl, (K12.out.belowS HBW.out).cellV (i := 0) rfl, (K12.out.belowS HBW.out).cellV (i := 1) rfl⟩
          clear hK K
          refine wpAnyH_ready (rs := [2]) (by kernel_rfl) (by simp) ?_
          refine AllReadyH.cons rfl (fun K hK => ?_) AllReadyH.nil
          go_simp
          refine (seenG_of (RW := RW) (RH := RH) (l := l') (ns := nodesW l') (bs := bs) (fk := fk) (nk := nk) (n := l'.length + 1) _ (HM.out.tree.below HBW.out) (HM.out.place.below HBW.out) (HM.out.scene.below HBW.out) HNO.out (fun _ h => h) HDW.out (HLA.out) HRR.out).mono ?_
          rintro e wc2 ⟨v1, og1, rfl, hse, hbA⟩
          obtain ⟨A1, n1, c1, m1, rfl⟩ := hse.form
          have HSE1 := Lib.hid hse
          clear hse
          replace HBW := Lib.hid (bstep HBW.out hbA)
          replace KA6 := Lib.hid (KA6.out.belowS hbA)
          replace KA7 := Lib.hid (KA7.out.belowS hbA)
          clear hbA
          go_simp
          refine hK.out _ _ ?_ (fun hHeld => ?_)
          · (try dsimp only)
            exact ⟨(KT.out.belowS HBW.out).cellV (i := 0) rfl, (KT.out.belowS HBW.out).cellV (i := 1) rfl, (KP.out.belowS HBW.out).cellV (i := 0) rfl, (K12.out.belowS HBW.out).cellV (i := 0) rfl, (K12.out.belowS HBW.out).cellV (i := 1) rfl⟩
          clear hK K
          refine wpAnyH_ready (rs := [5]) (by kernel_rfl) (by simp) ?_
          refine AllReadyH.cons rfl (fun K hK => ?_) AllReadyH.nil
          go_simp
          refine (seenG_of (RW := RW) (RH := RH) (l := l') (ns := cutN (nodesW l') (idW (k : Int))) (bs := bs) (fk := fk2) (nk := nk2) (n := l'.length + 1) _ (HT2.out.below HBW.out) (HM.out.place.below HBW.out) (HM.out.scene.below HBW.out) HCO.out (fun j hj => hasN_sub hj) HDW.out (HLC.out) HRR.out).mono ?_
          rintro e wc5 ⟨v2, og2, rfl, hse, hbA⟩
          obtain ⟨A2, n2, c2, m2, rfl⟩ := hse.form
          have HSE2 := Lib.hid hse
          clear hse
          replace HBW := Lib.hid (bstep HBW.out hbA)
          replace KA6 := Lib.hid (KA6.out.belowS hbA)
          replace KA7 := Lib.hid (KA7.out.belowS hbA)
          replace HSE1 := Lib.hid (HSE1.out.below hbA)
          clear hbA
          go_simp
          refine hK.out _ _ ?_ (fun hHeld => ?_)
          · (try dsimp only)
            exact ⟨(KT.out.belowS HBW.out).cellV (i := 0) rfl, (KT.out.belowS HBW.out).cellV (i := 1) rfl, (KP.out.belowS HBW.out).cellV (i := 0) rfl, (K12.out.belowS HBW.out).cellV (i := 0) rfl, (K12.out.belowS HBW.out).cellV (i := 1) rfl⟩
          clear hK K
          refine wpAnyH_ready (rs := [8]) (by kernel_rfl) (by simp) ?_
          refine AllReadyH.cons rfl (fun K hK => ?_) AllReadyH.nil
          refine Tr.wanted_plain rfl ?_
          refine store_mid0 rfl 52 _ _ rfl (Y2.heap.size) 0 #[.slice A1 n1 c1, .map m1] (by rfl) (by rfl) (by have h := there_blk KA6.out; exact h) Tryz.sizeVx (by simp [Value.oneCell']) ?_
          have xK := blk_puts2 (.slice A1 n1 c1) (.map m1) KA6.out
          have xB := bsets HBW.out HL6.out (#[.slice A1 n1 c1, .map m1] : Array Value).toList 0
          have xA7 := KA7.out.farCells (HN6_7.out.symm) (#[.slice A1 n1 c1, .map m1] : Array Value).toList 0
          have xHSE1 := (show SeenG (World.setCells (wc5) (Y2.heap.size) 0 (#[.slice A1 n1 c1, .map m1] : Array Value).toList) _ RW RH _ _ _ from (HSE1.out.setNo KA6.out (blkX_noI KA6.out (viewX_no _ _ _ _)) 0 (.slice A1 n1 c1)).setNo (KA6.out.set_ 0 (.slice A1 n1 c1)) (blkX_noI (KA6.out.set_ 0 (.slice A1 n1 c1)) (viewX_no _ _ _ _)) 1 (.map m1))
          have xHSE2 := (show SeenG (World.setCells (wc5) (Y2.heap.size) 0 (#[.slice A1 n1 c1, .map m1] : Array Value).toList) _ RW RH _ _ _ from (HSE2.out.setNo KA6.out (blkX_noI KA6.out (viewX_no _ _ _ _)) 0 (.slice A1 n1 c1)).setNo (KA6.out.set_ 0 (.slice A1 n1 c1)) (blkX_noI (KA6.out.set_ 0 (.slice A1 n1 c1)) (viewX_no _ _ _ _)) 1 (.map m1))
          obtain ⟨wS8, hwS⟩ : ∃ wS, World.setCells wc5 (Y2.heap.size) 0 (#[.slice A1 n1 c1, .map m1] : Array Value).toList = wS := ⟨_, rfl⟩
          rw [hwS] at xK xB xA7 xHSE1 xHSE2 ⊢
          replace HBW := Lib.hid xB
          replace KA6 := Lib.hid xK
          replace KA7 := Lib.hid xA7
          replace HSE1 := Lib.hid xHSE1
          replace HSE2 := Lib.hid xHSE2
          clear hwS xK xB xA7 xHSE1 xHSE2
          refine hK.out _ _ ?_ (fun hHeld => ?_)
          · (try dsimp only)
            exact ⟨(KT.out.belowS HBW.out).cellV (i := 0) rfl, (KT.out.belowS HBW.out).cellV (i := 1) rfl, (KP.out.belowS HBW.out).cellV (i := 0) rfl, (K12.out.belowS HBW.out).cellV (i := 0) rfl, (K12.out.belowS HBW.out).cellV (i := 1) rfl⟩
          clear hK K
          refine wpAnyH_ready (rs := [9]) (by kernel_rfl) (by simp) ?_
          refine AllReadyH.cons rfl (fun K hK => ?_) AllReadyH.nil
          refine Tr.wanted_plain rfl ?_
          refine store_mid0 rfl 52 _ _ rfl (Y2.heap.size + 1) 0 #[.slice A2 n2 c2, .map m2] (by rfl) (by rfl) (by have h := there_blk KA7.out; exact h) Tryz.sizeVx (by simp [Value.oneCell']) ?_
          have xK := blk_puts2 (.slice A2 n2 c2) (.map m2) KA7.out
          have xB := bsets HBW.out HL7.out (#[.slice A2 n2 c2, .map m2] : Array Value).toList 0
          have xA6 := KA6.out.farCells (HN6_7.out) (#[.slice A2 n2 c2, .map m2] : Array Value).toList 0
          have xHSE1 := (show SeenG (World.setCells (wS8) (Y2.heap.size + 1) 0 (#[.slice A2 n2 c2, .map m2] : Array Value).toList) _ RW RH _ _ _ from (HSE1.out.setNo KA7.out (blkX_noI KA7.out (viewX_no _ _ _ _)) 0 (.slice A2 n2 c2)).setNo (KA7.out.set_ 0 (.slice A2 n2 c2)) (blkX_noI (KA7.out.set_ 0 (.slice A2 n2 c2)) (viewX_no _ _ _ _)) 1 (.map m2))
          have xHSE2 := (show SeenG (World.setCells (wS8) (Y2.heap.size + 1) 0 (#[.slice A2 n2 c2, .map m2] : Array Value).toList) _ RW RH _ _ _ from (HSE2.out.setNo KA7.out (blkX_noI KA7.out (viewX_no _ _ _ _)) 0 (.slice A2 n2 c2)).setNo (KA7.out.set_ 0 (.slice A2 n2 c2)) (blkX_noI (KA7.out.set_ 0 (.slice A2 n2 c2)) (viewX_no _ _ _ _)) 1 (.map m2))
          obtain ⟨wS9, hwS⟩ : ∃ wS, World.setCells wS8 (Y2.heap.size + 1) 0 (#[.slice A2 n2 c2, .map m2] : Array Value).toList = wS := ⟨_, rfl⟩
          rw [hwS] at xK xB xA6 xHSE1 xHSE2 ⊢
          replace HBW := Lib.hid xB
          replace KA7 := Lib.hid xK
          replace KA6 := Lib.hid xA6
          replace HSE1 := Lib.hid xHSE1
          replace HSE2 := Lib.hid xHSE2
          clear hwS xK xB xA6 xHSE1 xHSE2
          refine hK.out _ _ ?_ (fun hHeld => ?_)
          · (try dsimp only)
            exact ⟨(KT.out.belowS HBW.out).cellV (i := 0) rfl, (KT.out.belowS HBW.out).cellV (i := 1) rfl, (KP.out.belowS HBW.out).cellV (i := 0) rfl, (K12.out.belowS HBW.out).cellV (i := 0) rfl, (K12.out.belowS HBW.out).cellV (i := 1) rfl⟩
          clear hK K
          refine wpAnyH_done (by kernel_rfl) ?_ _
          refine NoPanic.normal ?_
          go_wp2_with fail
          go_meet
          exact ⟨_, _, A1, n1, c1, m1, A2, n2, c2, m2, og1, og2, rfl, rfl, KA6.out, KA7.out, HSE1.out, HSE2.out, HBW.out⟩
      ·
        go_simp
        have KA7 := Lib.hid (show Blk (Y2.alloc (.cells #[.slice none 0 0, .map none] 52)).drew (Y2.heap.size) 52 #[.slice none 0 0, .map none] from Blk.new Y2.drew 52 #[.slice none 0 0, .map none])
        have HL7 := Lib.hid (show Y2.heap.size ≤ Y2.heap.size from HBW.out.size)
        have hbA : Below Y2.drew.heap.size Y2.drew ((Y2.alloc (.cells #[.slice none 0 0, .map none] 52)).drew) := bal (bre Y2.drew) (.cells #[.slice none 0 0, .map none] 52)
        replace HBW := Lib.hid (bstep HBW.out hbA)
        clear hbA
        refine hK.out _ _ ?_ (fun hHeld => ?_)
        · (try dsimp only)
          exact ⟨(KT.out.belowS HBW.out).cellV (i := 0) rfl, (KT.out.belowS HBW.out).cellV (i := 1) rfl, (KP.out.belowS HBW.out).cellV (i := 0) rfl, (K12.out.belowS HBW.out).cellV (i := 0) rfl, (K12.out.belowS HBW.out).cellV (i := 1) rfl⟩
        clear hK K
        refine wpAnyH_ready (rs := [2, 6]) (by kernel_rfl) (by simp) ?_
        refine AllReadyH.cons rfl (fun K hK => ?_) (AllReadyH.cons rfl (fun K hK => ?_) AllReadyH.nil)
        ·
          go_simp
          refine (seenG_of (RW := RW) (RH := RH) (l := l') (ns := nodesW l') (bs := bs) (fk := fk) (nk := nk) (n := l'.length + 1) _ (HM.out.tree.below HBW.out) (HM.out.place.below HBW.out) (HM.out.scene.below HBW.out) HNO.out (fun _ h => h) HDW.out (HLA.out) HRR.out).mono ?_
          rintro e wc2 ⟨v1, og1, rfl, hse, hbA⟩
          obtain ⟨A1, n1, c1, m1, rfl⟩ := hse.form
          have HSE1 := Lib.hid hse
          clear hse
          replace HBW := Lib.hid (bstep HBW.out hbA)
          replace KA7 := Lib.hid (KA7.out.belowS hbA)
          clear hbA
          go_simp
          refine hK.out _ _ ?_ (fun hHeld => ?_)
          · (try dsimp only)
            exact ⟨(KT.out.belowS HBW.out).cellV (i := 0) rfl, (KT.out.belowS HBW.out).cellV (i := 1) rfl, (KP.out.belowS HBW.out).cellV (i := 0) rfl, (K12.out.belowS HBW.out).cellV (i := 0) rfl, (K12.out.belowS HBW.out).cellV (i := 1) rfl⟩
          clear hK K
          refine wpAnyH_ready (rs := [5, 6]) (by kernel_rfl) (by simp) ?_
          refine AllReadyH.cons rfl (fun K hK => ?_) (AllReadyH.cons rfl (fun K hK => ?_) AllReadyH.nil)
          ·
            go_simp
            refine (seenG_of (RW := RW) (RH := RH) (l := l') (ns := cutN (nodesW l') (idW (k : Int))) (bs := bs) (fk := fk2) (nk := nk2) (n := l'.length + 1) _ (HT2.out.below HBW.out) (HM.out.place.below HBW.out) (HM.out.scene.below HBW.out) HCO.out (fun j hj => hasN_sub hj) HDW.out (HLC.out) HRR.out).mono ?_
            rintro e wc5 ⟨v2, og2, rfl, hse, hbA⟩
            obtain ⟨A2, n2, c2, m2, rfl⟩ := hse.form
            have HSE2 := Lib.hid hse
            clear hse
            replace HBW := Lib.hid (bstep HBW.out hbA)
            replace KA7 := Lib.hid (KA7.out.belowS hbA)
            replace HSE1 := Lib.hid (HSE1.out.below hbA)
            clear hbA
            go_simp
            refine hK.out _ _ ?_ (fun hHeld => ?_)
            · (try dsimp only)
              exact ⟨(KT.out.belowS HBW.out).cellV (i := 0) rfl, (KT.out.belowS HBW.out).cellV (i := 1) rfl, (KP.out.belowS HBW.out).cellV (i := 0) rfl, (K12.out.belowS HBW.out).cellV (i := 0) rfl, (K12.out.belowS HBW.out).cellV (i := 1) rfl⟩
            clear hK K
            refine wpAnyH_ready (rs := [6]) (by kernel_rfl) (by simp) ?_
            refine AllReadyH.cons rfl (fun K hK => ?_) AllReadyH.nil
            go_simp
            have HN7_6 := Lib.hid (Nat.ne_of_lt KA7.out.lt)
            have KA6 := Lib.hid (show Blk (wc5.alloc (.cells #[.slice none 0 0, .map none] 52)) (wc5.heap.size) 52 #[.slice none 0 0, .map none] from Blk.new wc5 52 #[.slice none 0 0, .map none])
            have HL6 := Lib.hid (show Y2.heap.size ≤ wc5.heap.size from HBW.out.size)
            have hbA : Below wc5.heap.size wc5 ((wc5.alloc (.cells #[.slice none 0 0, .map none] 52))) := bal (bre wc5) (.cells #[.slice none 0 0, .map none] 52)
            replace HBW := Lib.hid (bstep HBW.out hbA)
            replace KA7 := Lib.hid (KA7.out.belowS hbA)
            replace HSE1 := Lib.hid (HSE1.out.below hbA)
            replace HSE2 := Lib.hid (HSE2.out.below hbA)
            clear hbA
            refine hK.out _ _ ?_ (fun hHeld => ?_)
            · (try dsimp only)
              exact ⟨(KT.out.belowS HBW.out).cellV (i := 0) rfl, (KT.out.belowS HBW.out).cellV (i := 1) rfl, (KP.out.belowS HBW.out).cellV (i := 0) rfl, (K12.out.belowS HBW.out).cellV (i := 0) rfl, (K12.out.belowS HBW.out).cellV (i := 1) rfl⟩
            clear hK K
            refine wpAnyH_ready (rs := [8]) (by kernel_rfl) (by simp) ?_
            refine AllReadyH.cons rfl (fun K hK => ?_) AllReadyH.nil
            refine Tr.wanted_plain rfl ?_
            refine store_mid0 rfl 52 _ _ rfl (wc5.heap.size) 0 #[.slice A1 n1 c1, .map m1] (by rfl) (by rfl) (by have h := there_blk KA6.out; exact h) Tryz.sizeVx (by simp [Value.oneCell']) ?_
            have xK := blk_puts2 (.slice A1 n1 c1) (.map m1) KA6.out
            have xB := bsets HBW.out HL6.out (#[.slice A1 n1 c1, .map m1] : Array Value).toList 0
            have xA7 := KA7.out.farCells (HN7_6.out) (#[.slice A1 n1 c1, .map m1] : Array Value).toList 0
            have xHSE1 := (show SeenG (World.setCells (wc5.alloc (.cells #[.slice none 0 0, .map none] 52)) (wc5.heap.size) 0 (#[.slice A1 n1 c1, .map m1] : Array Value).toList) _ RW RH _ _ _ from (HSE1.out.setNo KA6.out (blkX_noI KA6.out (viewX_no _ _ _ _)) 0 (.slice A1 n1 c1)).setNo (KA6.out.set_ 0 (.slice A1 n1 c1)) (blkX_noI (KA6.out.set_ 0 (.slice A1 n1 c1)) (viewX_no _ _ _ _)) 1 (.map m1))
            have xHSE2 := (show SeenG (World.setCells (wc5.alloc (.cells #[.slice none 0 0, .map none] 52)) (wc5.heap.size) 0 (#[.slice A1 n1 c1, .map m1] : Array Value).toList) _ RW RH _ _ _ from (HSE2.out.setNo KA6.out (blkX_noI KA6.out (viewX_no _ _ _ _)) 0 (.slice A1 n1 c1)).setNo (KA6.out.set_ 0 (.slice A1 n1 c1)) (blkX_noI (KA6.out.set_ 0 (.slice A1 n1 c1)) (viewX_no _ _ _ _)) 1 (.map m1))
            obtain ⟨wS8, hwS⟩ : ∃ wS, World.setCells (wc5.alloc (.cells #[.slice none 0 0, .map none] 52)) (wc5.heap.size) 0 (#[.slice A1 n1 c1, .map m1] : Array Value).toList = wS := ⟨_, rfl⟩
            rw [hwS] at xK xB xA7 xHSE1 xHSE2 ⊢
            replace HBW := Lib.hid xB
            replace KA6 := Lib.hid xK
            replace KA7 := Lib.hid xA7
            replace HSE1 := Lib.hid xHSE1
            replace HSE2 := Lib.hid xHSE2
            clear hwS xK xB xA7 xHSE1 xHSE2
            refine hK.out _ _ ?_ (fun hHeld => ?_)
            · (try dsimp only)
              exact ⟨(KT.out.belowS HBW.out).cellV (i := 0) rfl, (KT.out.belowS HBW.out).cellV (i := 1) rfl, (KP.out.belowS HBW.out).cellV (i := 0) rfl, (K12.out.belowS HBW.out).cellV (i := 0) rfl, (K12.out.belowS HBW.out).cellV (i := 1) rfl⟩
            clear hK K
            refine wpAnyH_ready (rs := [9]) (by kernel_rfl) (by simp) ?_
            refine AllReadyH.cons rfl (fun K hK => ?_) AllReadyH.nil
            refine Tr.wanted_plain rfl ?_
            refine store_mid0 rfl 52 _ _ rfl (Y2.heap.size) 0 #[.slice A2 n2 c2, .map m2] (by rfl) (by rfl) (by have h := there_blk KA7.out; exact h) Tryz.sizeVx (by simp [Value.oneCell']) ?_
            have xK := blk_puts2 (.slice A2 n2 c2) (.map m2) KA7.out
            have xB := bsets HBW.out HL7.out (#[.slice A2 n2 c2, .map m2] : Array Value).toList 0
            have xA6 := KA6.out.farCells (HN7_6.out.symm) (#[.slice A2 n2 c2, .map m2] : Array Value).toList 0
            have xHSE1 := (show SeenG (World.setCells (wS8) (Y2.heap.size) 0 (#[.slice A2 n2 c2, .map m2] : Array Value).toList) _ RW RH _ _ _ from (HSE1.out.setNo KA7.out (blkX_noI KA7.out (viewX_no _ _ _ _)) 0 (.slice A2 n2 c2)).setNo (KA7.out.set_ 0 (.slice A2 n2 c2)) (blkX_noI (KA7.out.set_ 0 (.slice A2 n2 c2)) (viewX_no _ _ _ _)) 1 (.map m2))
            have xHSE2 := (show SeenG (World.setCells (wS8) (Y2.heap.size) 0 (#[.slice A2 n2 c2, .map m2] : Array Value).toList) _ RW RH _ _ _ from (HSE2.out.setNo KA7.out (blkX_noI KA7.out (viewX_no _ _ _ _)) 0 (.slice A2 n2 c2)).setNo (KA7.out.set_ 0 (.slice A2 n2 c2)) (blkX_noI (KA7.out.set_ 0 (.slice A2 n2 c2)) (viewX_no _ _ _ _)) 1 (.map m2))
            obtain ⟨wS9, hwS⟩ : ∃ wS, World.setCells wS8 (Y2.heap.size) 0 (#[.slice A2 n2 c2, .map m2] : Array Value).toList = wS := ⟨_, rfl⟩
            rw [hwS] at xK xB xA6 xHSE1 xHSE2 ⊢
            replace HBW := Lib.hid xB
            replace KA7 := Lib.hid xK
            replace KA6 := Lib.hid xA6
            replace HSE1 := Lib.hid xHSE1
            replace HSE2 := Lib.hid xHSE2
            clear hwS xK xB xA6 xHSE1 xHSE2
            refine hK.out _ _ ?_ (fun hHeld => ?_)
            · (try dsimp only)
              exact ⟨(KT.out.belowS HBW.out).cellV (i := 0) rfl, (KT.out.belowS HBW.out).cellV (i := 1) rfl, (KP.out.belowS HBW.out).cellV (i := 0) rfl, (K12.out.belowS HBW.out).cellV (i := 0) rfl, (K12.out.belowS HBW.out).cellV (i := 1) rfl⟩
            clear hK K
            refine wpAnyH_done (by kernel_rfl) ?_ _
            refine NoPanic.normal ?_
            go_wp2_with fail
            go_meet
            exact ⟨_, _, A1, n1, c1, m1, A2, n2, c2, m2, og1, og2, rfl, rfl, KA6.out, KA7.out, HSE1.out, HSE2.out, HBW.out⟩
          ·
            go_simp
            have HN7_6 := Lib.hid (Nat.ne_of_lt KA7.out.lt)
            have KA6 := Lib.hid (show Blk (wc2.alloc (.cells #[.slice none 0 0, .map none] 52)) (wc2.heap.size) 52 #[.slice none 0 0, .map none] from Blk.new wc2 52 #[.slice none 0 0, .map none])
            have HL6 := Lib.hid (show Y2.heap.size ≤ wc2.heap.size from HBW.out.size)
            have hbA : Below wc2.heap.size wc2 ((wc2.alloc (.cells #[.slice none 0 0, .map none] 52))) := bal (bre wc2) (.cells #[.slice none 0 0, .map none] 52)
            replace HBW := Lib.hid (bstep HBW.out hbA)
            replace KA7 := Lib.hid (KA7.out.belowS hbA)
            replace HSE1 := Lib.hid (HSE1.out.below hbA)
            clear hbA
            refine hK.out _ _ ?_ (fun hHeld => ?_)
            · (try dsimp only)
              exact ⟨(KT.out.belowS HBW.out).cellV (i := 0) rfl, (KT.out.belowS HBW.out).cellV (i := 1) rfl, (KP.out.belowS HBW.out).cellV (i := 0) rfl, (K12.out.belowS HBW.out).cellV (i := 0) rfl, (K12.out.belowS HBW.out).cellV (i := 1) rfl⟩
            clear hK K
            refine wpAnyH_ready (rs := [5]) (by kernel_rfl) (by simp) ?_
            refine AllReadyH.cons rfl (fun K hK => ?_) AllReadyH.nil
            go_simp
            refine (seenG_of (RW := RW) (RH := RH) (l := l') (ns := cutN (nodesW l') (idW (k : Int))) (bs := bs) (fk := fk2) (nk := nk2) (n := l'.length + 1) _ (HT2.out.below HBW.out) (HM.out.place.below HBW.out) (HM.out.scene.below HBW.out) HCO.out (fun j hj => hasN_sub hj) HDW.out (HLC.out) HRR.out).mono ?_
            rintro e wc5 ⟨v2, og2, rfl, hse, hbA⟩
            obtain ⟨A2, n2, c2, m2, rfl⟩ := hse.form
            have HSE2 := Lib.hid hse
            clear hse
            replace HBW := Lib.hid (bstep HBW.out hbA)
            replace KA7 := Lib.hid (KA7.out.belowS hbA)
            replace KA6 := Lib.hid (KA6.out.belowS hbA)
            replace HSE1 := Lib.hid (HSE1.out.below hbA)
            clear hbA
            go_simp
            refine hK.out _ _ ?_ (fun hHeld => ?_)
            · (try dsimp only)
              exact ⟨(KT.out.belowS HBW.out).cellV (i := 0) rfl, (KT.out.belowS HBW.out).cellV (i := 1) rfl, (KP.out.belowS HBW.out).cellV (i := 0) rfl, (K12.out.belowS HBW.out).cellV (i := 0) rfl, (K12.out.belowS HBW.out).cellV (i := 1) rfl⟩
            clear hK K
            refine wpAnyH_ready (rs := [8]) (by kernel_rfl) (by simp) ?_
            refine AllReadyH.cons rfl (fun K hK => ?_) AllReadyH.nil
            refine Tr.wanted_plain rfl ?_
            refine store_mid0 rfl 52 _ _ rfl (wc2.heap.size) 0 #[.slice A1 n1 c1, .map m1] (by rfl) (by rfl) (by have h := there_blk KA6.out; exact h) Tryz.sizeVx (by simp [Value.oneCell']) ?_
            have xK := blk_puts2 (.slice A1 n1 c1) (.map m1) KA6.out
            have xB := bsets HBW.out HL6.out (#[.slice A1 n1 c1, .map m1] : Array Value).toList 0
            have xA7 := KA7.out.farCells (HN7_6.out) (#[.slice A1 n1 c1, .map m1] : Array Value).toList 0
            have xHSE1 := (show SeenG (World.setCells (wc5) (wc2.heap.size) 0 (#[.slice A1 n1 c1, .map m1] : Array Value).toList) _ RW RH _ _ _ from (HSE1.out.setNo KA6.out (blkX_noI KA6.out (viewX_no _ _ _ _)) 0 (.slice A1 n1 c1)).setNo (KA6.out.set_ 0 (.slice A1 n1 c1)) (blkX_noI (KA6.out.set_ 0 (.slice A1 n1 c1)) (viewX_no _ _ _ _)) 1 (.map m1))
            have xHSE2 := (show SeenG (World.setCells (wc5) (wc2.heap.size) 0 (#[.slice A1 n1 c1, .map m1] : Array Value).toList) _ RW RH _ _ _ from (HSE2.out.setNo KA6.out (blkX_noI KA6.out (viewX_no _ _ _ _)) 0 (.slice A1 n1 c1)).setNo (KA6.out.set_ 0 (.slice A1 n1 c1)) (blkX_noI (KA6.out.set_ 0 (.slice A1 n1 c1)) (viewX_no _ _ _ _)) 1 (.map m1))
            obtain ⟨wS8, hwS⟩ : ∃ wS, World.setCells wc5 (wc2.heap.size) 0 (#[.slice A1 n1 c1, .map m1] : Array Value).toList = wS := ⟨_, rfl⟩
            rw [hwS] at xK xB xA7 xHSE1 xHSE2 ⊢
            replace HBW := Lib.hid xB
            replace KA6 := Lib.hid xK
            replace KA7 := Lib.hid xA7
            replace HSE1 := Lib.hid xHSE1
            replace HSE2 := Lib.hid xHSE2
            clear hwS xK xB xA7 xHSE1 xHSE2
            refine hK.out _ _ ?_ (fun hHeld => ?_)
            · (try dsimp only)
              exact ⟨(KT.out.belowS HBW.out).cellV (i := 0) rfl, (KT.out.belowS HBW.out).cellV (i := 1) rfl, (KP.out.belowS HBW.out).cellV (i := 0) rfl, (K12.out.belowS HBW.out).cellV (i := 0) rfl, (K12.out.belowS HBW.out).cellV (i := 1) rfl⟩
            clear hK K
            refine wpAnyH_ready (rs := [9]) (by kernel_rfl) (by simp) ?_
            refine AllReadyH.cons rfl (fun K hK => ?_) AllReadyH.nil
            refine Tr.wanted_plain rfl ?_
            refine store_mid0 rfl 52 _ _ rfl (Y2.heap.size) 0 #[.slice A2 n2 c2, .map m2] (by rfl) (by rfl) (by have h := there_blk KA7.out; exact h) Tryz.sizeVx (by simp [Value.oneCell']) ?_
            have xK := blk_puts2 (.slice A2 n2 c2) (.map m2) KA7.out
            have xB := bsets HBW.out HL7.out (#[.slice A2 n2 c2, .map m2] : Array Value).toList 0
            have xA6 := KA6.out.farCells (HN7_6.out.symm) (#[.slice A2 n2 c2, .map m2] : Array Value).toList 0
            have xHSE1 := (show SeenG (World.setCells (wS8) (Y2.heap.size) 0 (#[.slice A2 n2 c2, .map m2] : Array Value).toList) _ RW RH _ _ _ from (HSE1.out.setNo KA7.out (blkX_noI KA7.out (viewX_no _ _ _ _)) 0 (.slice A2 n2 c2)).setNo (KA7.out.set_ 0 (.slice A2 n2 c2)) (blkX_noI (KA7.out.set_ 0 (.slice A2 n2 c2)) (viewX_no _ _ _ _)) 1 (.map m2))
            have xHSE2 := (show SeenG (World.setCells (wS8) (Y2.heap.size) 0 (#[.slice A2 n2 c2, .map m2] : Array Value).toList) _ RW RH _ _ _ from (HSE2.out.setNo KA7.out (blkX_noI KA7.out (viewX_no _ _ _ _)) 0 (.slice A2 n2 c2)).setNo (KA7.out.set_ 0 (.slice A2 n2 c2)) (blkX_noI (KA7.out.set_ 0 (.slice A2 n2 c2)) (viewX_no _ _ _ _)) 1 (.map m2))
            obtain ⟨wS9, hwS⟩ : ∃ wS, World.setCells wS8 (Y2.heap.size) 0 (#[.slice A2 n2 c2, .map m2] : Array Value).toList = wS := ⟨_, rfl⟩
            rw [hwS] at xK xB xA6 xHSE1 xHSE2 ⊢
            replace HBW := Lib.hid xB
            replace KA7 := Lib.hid xK
            replace KA6 := Lib.hid xA6
            replace HSE1 := Lib.hid xHSE1
            replace HSE2 := Lib.hid xHSE2
            clear hwS xK xB xA6 xHSE1 xHSE2
            refine hK.out _ _ ?_ (fun hHeld => ?_)
            · (try dsimp only)
              exact ⟨(KT.out.belowS HBW.out).cellV (i := 0) rfl, (KT.out.belowS HBW.out).cellV (i := 1) rfl, (KP.out.belowS HBW.out).cellV (i := 0) rfl, (K12.out.belowS HBW.out).cellV (i := 0) rfl, (K12.out.belowS HBW.out).cellV (i := 1) rfl⟩
            clear hK K
            refine wpAnyH_done (by kernel_rfl) ?_ _
            refine NoPanic.normal ?_
            go_wp2_with fail
            go_meet
            exact ⟨_, _, A1, n1, c1, m1, A2, n2, c2, m2, og1, og2, rfl, rfl, KA6.out, KA7.out, HSE1.out, HSE2.out, HBW.out⟩
        ·
          go_simp
          have HN7_6 := Lib.hid (show Y2.heap.size ≠ Y2.heap.size + 1 from by have h := KA7.out.lt; rw [show ((Y2.alloc (.cells #[.slice none 0 0, .map none] 52)).drew).heap.size = Y2.heap.size + 1 from (show ((Y2.alloc (.cells #[.slice none 0 0, .map none] 52))).heap.size = Y2.heap.size + 1 by simp)] at h; exact Nat.ne_of_lt h)
          have KA6 := Lib.hid (show Blk ((Y2.alloc (.cells #[.slice none 0 0, .map none] 52)).alloc (.cells #[.slice none 0 0, .map none] 52)).drew (Y2.heap.size + 1) 52 #[.slice none 0 0, .map none] from by have h := Blk.new ((Y2.alloc (.cells #[.slice none 0 0, .map none] 52)).drew) 52 #[.slice none 0 0, .map none]; rw [show ((Y2.alloc (.cells #[.slice none 0 0, .map none] 52)).drew).heap.size = Y2.heap.size + 1 from (show ((Y2.alloc (.cells #[.slice none 0 0, .map none] 52))).heap.size = Y2.heap.size + 1 by simp)] at h; exact h)
          have HL6 := Lib.hid (show Y2.heap.size ≤ Y2.heap.size + 1 from by have h := HBW.out.size; rw [show ((Y2.alloc (.cells #[.slice none 0 0, .map none] 52)).drew).heap.size = Y2.heap.size + 1 from (show ((Y2.alloc (.cells #[.slice none 0 0, .map none] 52))).heap.size = Y2.heap.size + 1 by simp)] at h; exact h)
          have hbA : Below (Y2.alloc (.cells #[.slice none 0 0, .map none] 52)).drew.heap.size (Y2.alloc (.cells #[.slice none 0 0, .map none] 52)).drew (((Y2.alloc (.cells #[.slice none 0 0, .map none] 52)).alloc (.cells #[.slice none 0 0, .map none] 52)).drew) := bal (bre (Y2.alloc (.cells #[.slice none 0 0, .map none] 52)).drew) (.cells #[.slice none 0 0, .map none] 52)
          replace HBW := Lib.hid (bstep HBW.out hbA)
          replace KA7 := Lib.hid (KA7.out.belowS hbA)
          clear hbA
          refine hK.out _ _ ?_ (fun hHeld => ?_)
          · (try dsimp only)
            exact ⟨(KT.out.belowS HBW.out).cellV (i := 0) rfl, (KT.out.belowS HBW.out).cellV (i := 1) rfl, (KP.out.belowS HBW.out).cellV (i := 0) rfl, (K12.out.belowS HBW.out).cellV (i := 0) rfl, (K12.out.belowS HBW.out).cellV (i := 1) rfl⟩
          clear hK K
          refine wpAnyH_ready (rs := [2]) (by kernel_rfl) (by simp) ?_
          refine AllReadyH.cons rfl (fun K hK => ?_) AllReadyH.nil
          go_simp
          refine (seenG_of (RW := RW) (RH := RH) (l := l') (ns := nodesW l') (bs := bs) (fk := fk) (nk := nk) (n := l'.length + 1) _ (HM.out.tree.below HBW.out) (HM.out.place.below HBW.out) (HM.out.scene.below HBW.out) HNO.out (fun _ h => h) HDW.out (HLA.out) HRR.out).mono ?_
          rintro e wc2 ⟨v1, og1, rfl, hse, hbA⟩
          obtain ⟨A1, n1, c1, m1, rfl⟩ := hse.form
          have HSE1 := Lib.hid hse
          clear hse
          replace HBW := Lib.hid (bstep HBW.out hbA)
          replace KA7 := Lib.hid (KA7.out.belowS hbA)
          replace KA6 := Lib.hid (KA6.out.belowS hbA)
          clear hbA
          go_simp
          refine hK.out _ _ ?_ (fun hHeld => ?_)
          · (try dsimp only)
            exact ⟨(KT.out.belowS HBW.out).cellV (i := 0) rfl, (KT.out.belowS HBW.out).cellV (i := 1) rfl, (KP.out.belowS HBW.out).cellV (i := 0) rfl, (K12.out.belowS HBW.out).cellV (i := 0) rfl, (K12.out.belowS HBW.out).cellV (i := 1) rfl⟩
          clear hK K
          refine wpAnyH_ready (rs := [5]) (by kernel_rfl) (by simp) ?_
          refine AllReadyH.cons rfl (fun K hK => ?_) AllReadyH.nil
          go_simp
          refine (seenG_of (RW := RW) (RH := RH) (l := l') (ns := cutN (nodesW l') (idW (k : Int))) (bs := bs) (fk := fk2) (nk := nk2) (n := l'.length + 1) _ (HT2.out.below HBW.out) (HM.out.place.below HBW.out) (HM.out.scene.below HBW.out) HCO.out (fun j hj => hasN_sub hj) HDW.out (HLC.out) HRR.out).mono ?_
          rintro e wc5 ⟨v2, og2, rfl, hse, hbA⟩
          obtain ⟨A2, n2, c2, m2, rfl⟩ := hse.form
          have HSE2 := Lib.hid hse
          clear hse
          replace HBW := Lib.hid (bstep HBW.out hbA)
          replace KA7 := Lib.hid (KA7.out.belowS hbA)
          replace KA6 := Lib.hid (KA6.out.belowS hbA)
          replace HSE1 := Lib.hid (HSE1.out.below hbA)
          clear hbA
          go_simp
          refine hK.out _ _ ?_ (fun hHeld => ?_)
          · (try dsimp only)
            exact ⟨(KT.out.belowS HBW.out).cellV (i := 0) rfl, (KT.out.belowS HBW.out).cellV (i := 1) rfl, (KP.out.belowS HBW.out).cellV (i := 0) rfl, (K12.out.belowS HBW.out).cellV (i := 0) rfl, (K12.out.belowS HBW.out).cellV (i := 1) rfl⟩
          clear hK K
          refine wpAnyH_ready (rs := [8]) (by kernel_rfl) (by simp) ?_
          refine AllReadyH.cons rfl (fun K hK => ?_) AllReadyH.nil
          refine Tr.wanted_plain rfl ?_
          refine store_mid0 rfl 52 _ _ rfl (Y2.heap.size + 1) 0 #[.slice A1 n1 c1, .map m1] (by rfl) (by rfl) (by have h := there_blk KA6.out; exact h) Tryz.sizeVx (by simp [Value.oneCell']) ?_
          have xK := blk_puts2 (.slice A1 n1 c1) (.map m1) KA6.out
          have xB := bsets HBW.out HL6.out (#[.slice A1 n1 c1, .map m1] : Array Value).toList 0
          have xA7 := KA7.out.farCells (HN7_6.out) (#[.slice A1 n1 c1, .map m1] : Array Value).toList 0
          have xHSE1 := (show SeenG (World.setCells (wc5) (Y2.heap.size + 1) 0 (#[.slice A1 n1 c1, .map m1] : Array Value).toList) _ RW RH _ _ _ from (HSE1.out.setNo KA6.out (blkX_noI KA6.out (viewX_no _ _ _ _)) 0 (.slice A1 n1 c1)).setNo (KA6.out.set_ 0 (.slice A1 n1 c1)) (blkX_noI (KA6.out.set_ 0 (.slice A1 n1 c1)) (viewX_no _ _ _ _)) 1 (.map m1))
          have xHSE2 := (show SeenG (World.setCells (wc5) (Y2.heap.size + 1) 0 (#[.slice A1 n1 c1, .map m1] : Array Value).toList) _ RW RH _ _ _ from (HSE2.out.setNo KA6.out (blkX_noI KA6.out (viewX_no _ _ _ _)) 0 (.slice A1 n1 c1)).setNo (KA6.out.set_ 0 (.slice A1 n1 c1)) (blkX_noI (KA6.out.set_ 0 (.slice A1 n1 c1)) (viewX_no _ _ _ _)) 1 (.map m1))
          obtain ⟨wS8, hwS⟩ : ∃ wS, World.setCells wc5 (Y2.heap.size + 1) 0 (#[.slice A1 n1 c1, .map m1] : Array Value).toList = wS := ⟨_, rfl⟩
          rw [hwS] at xK xB xA7 xHSE1 xHSE2 ⊢
          replace HBW := Lib.hid xB
          replace KA6 := Lib.hid xK
          replace KA7 := Lib.hid xA7
          replace HSE1 := Lib.hid xHSE1
          replace HSE2 := Lib.hid xHSE2
          clear hwS xK xB xA7 xHSE1 xHSE2
          refine hK.out _ _ ?_ (fun hHeld => ?_)
          · (try dsimp only)
            exact ⟨(KT.out.belowS HBW.out).cellV (i := 0) rfl, (KT.out.belowS HBW.out).cellV (i := 1) rfl, (KP.out.belowS HBW.out).cellV (i := 0) rfl, (K12.out.belowS HBW.out).cellV (i := 0) rfl, (K12.out.belowS HBW.out).cellV (i := 1) rfl⟩
          clear hK K
          refine wpAnyH_ready (rs := [9]) (by kernel_rfl) (by simp) ?_
          refine AllReadyH.cons rfl (fun K hK => ?_) AllReadyH.nil
          refine Tr.wanted_plain rfl ?_
          refine store_mid0 rfl 52 _ _ rfl (Y2.heap.size) 0 #[.slice A2 n2 c2, .map m2] (by rfl) (by rfl) (by have h := there_blk KA7.out; exact h) Tryz.sizeVx (by simp [Value.oneCell']) ?_
          have xK := blk_puts2 (.slice A2 n2 c2) (.map m2) KA7.out
          have xB := bsets HBW.out HL7.out (#[.slice A2 n2 c2, .map m2] : Array Value).toList 0
          have xA6 := KA6.out.farCells (HN7_6.out.symm) (#[.slice A2 n2 c2, .map m2] : Array Value).toList 0
          have xHSE1 := (show SeenG (World.setCells (wS8) (Y2.heap.size) 0 (#[.slice A2 n2 c2, .map m2] : Array Value).toList) _ RW RH _ _ _ from (HSE1.out.setNo KA7.out (blkX_noI KA7.out (viewX_no _ _ _ _)) 0 (.slice A2 n2 c2)).setNo (KA7.out.set_ 0 (.slice A2 n2 c2)) (blkX_noI (KA7.out.set_ 0 (.slice A2 n2 c2)) (viewX_no _ _ _ _)) 1 (.map m2))
          have xHSE2 := (show SeenG (World.setCells (wS8) (Y2.heap.size) 0 (#[.slice A2 n2 c2, .map m2] : Array Value).toList) _ RW RH _ _ _ from (HSE2.out.setNo KA7.out (blkX_noI KA7.out (viewX_no _ _ _ _)) 0 (.slice A2 n2 c2)).setNo (KA7.out.set_ 0 (.slice A2 n2 c2)) (blkX_noI (KA7.out.set_ 0 (.slice A2 n2 c2)) (viewX_no _ _ _ _)) 1 (.map m2))
          obtain ⟨wS9, hwS⟩ : ∃ wS, World.setCells wS8 (Y2.heap.size) 0 (#[.slice A2 n2 c2, .map m2] : Array Value).toList = wS := ⟨_, rfl⟩
          rw [hwS] at xK xB xA6 xHSE1 xHSE2 ⊢
          replace HBW := Lib.hid xB
          replace KA7 := Lib.hid xK
          replace KA6 := Lib.hid xA6
          replace HSE1 := Lib.hid xHSE1
          replace HSE2 := Lib.hid xHSE2
          clear hwS xK xB xA6 xHSE1 xHSE2
          refine hK.out _ _ ?_ (fun hHeld => ?_)
          · (try dsimp only)
            exact ⟨(KT.out.belowS HBW.out).cellV (i := 0) rfl, (KT.out.belowS HBW.out).cellV (i := 1) rfl, (KP.out.belowS HBW.out).cellV (i := 0) rfl, (K12.out.belowS HBW.out).cellV (i := 0) rfl, (K12.out.belowS HBW.out).cellV (i := 1) rfl⟩
          clear hK K
          refine wpAnyH_done (by kernel_rfl) ?_ _
          refine NoPanic.normal ?_
          go_wp2_with fail
          go_meet
          exact ⟨_, _, A1, n1, c1, m1, A2, n2, c2, m2, og1, og2, rfl, rfl, KA6.out, KA7.out, HSE1.out, HSE2.out, HBW.out⟩
  obtain ⟨g1, g2, A1, n1, c1, m1, A2, n2, c2, m2, og1, og2, rfl, rfl, hk1, hk2, hs1, hs2, hbc⟩ := hcut
  have K19 := Lib.hid hk1
  have K20 := Lib.hid hk2
  have HS1 := Lib.hid hs1
  have HS2 := Lib.hid hs2
  replace HB := Lib.hid (bstep HB.out hbc)
  clear hk1 hk2 hs1 hs2 hbc HM HT2 KT KP K12
  obtain ⟨Z, hZ⟩ : ∃ Z, Z = wc := ⟨_, rfl⟩
  subst hZ
  obtain ⟨od, hod⟩ : ∃ od, ordW (nodesW l') (bxS RW RH l') 1 = od := ⟨_, rfl⟩
  have hod2 := cut_ord (bx := bxS RW RH l') (nodesW_ok HUP.out) HHK.out HK1.out HAC.out
  rw [hod] at hod2
  have HWI := Lib.hid (fun W (hW : Below Z.heap.size Z W) => show Calls Tryz.prog 26 #[.agg #[.slice A1 n1 c1, .map m1]] W (fun e w' => ∃ u, e = .returned u ∧ w'.ownsRow W.heap.size 48 1 u od.length (U32 od) ∧ Below W.heap.size W w') by
    obtain ⟨Av, nv, cv, mv, nm, f, hv⟩ := (HS1.out.below hW).is
    rw [hod] at hv
    have hl := hv.order.1
    rw [U32_len] at hl
    rw [hl]
    exact vwindows_any hv)
  have HWJ := Lib.hid (fun W (hW : Below Z.heap.size Z W) => show Calls Tryz.prog 26 #[.agg #[.slice A2 n2 c2, .map m2]] W (fun e w' => ∃ u, e = .returned u ∧ w'.ownsRow W.heap.size 48 1 u od.length (U32 od) ∧ Below W.heap.size W w') by
    obtain ⟨Av, nv, cv, mv, nm, f, hv⟩ := (HS2.out.below hW).is
    rw [hod2] at hv
    have hl := hv.order.1
    rw [U32_len] at hl
    rw [hl]
    exact vwindows_any hv)
  have HOB := Lib.hid (fun i (hi : i ∈ od) => show (0 ≤ i ∧ i ≤ 4294967295) ∧ hasN (nodesW l') i = true ∧ vw (nodesW l') (bxS RW RH l') i = true ∧ i ∉ belowAt (nodesW l') (idW (k : Int)) by
    obtain ⟨Av, nv, cv, mv, nm, f, hv⟩ := HS1.out.is
    have h1 := hv.ids i (by rw [hod]; exact hi)
    exact ⟨h1, ord_out (bx := bxS RW RH l') (nodesW_ok HUP.out) HHK.out HK1.out HAC.out (by rw [hod]; exact hi)⟩)
  have hodn : od.length ≤ 1001 := by
    obtain ⟨Av, nv, cv, mv, nm, f, hv⟩ := HS1.out.is
    have h1 := hv.order.1
    have h2 := hv.few
    rw [hod, U32_len] at h1
    omega
  clear hod hod2
  go_upto_region 14 with fail
  go_cut [17, 18] (fun s17 s18 wx => ∃ (A7 : Option Addr) (c7 : Nat) (A8 : Option Addr) (c8 : Nat), s17 = .slice A7 od.length c7 ∧ s18 = .slice A8 od.length c8 ∧ Rd wx A7 od.length (U32 od) ∧ Rd wx A8 od.length (U32 od) ∧ Below Z.heap.size Z wx)
  case first =>
    as_aux_lemma =>
      have HBW := Lib.hid (show Below Z.heap.size Z Z.drew from (bre Z).drew)
      refine wp_region_noPanic ?_
      refine wp_region_held_drew (S := (fun w' => w'.cell? ⟨g1, 0, none⟩ = some (.slice A1 n1 c1) ∧ w'.cell? ⟨g1, 1, none⟩ = some (.map m1) ∧ w'.cell? ⟨g2, 0, none⟩ = some (.slice A2 n2 c2) ∧ w'.cell? ⟨g2, 1, none⟩ = some (.map m2))) (by kernel_rfl) ?_ (fun hHeld => ?_)
      · (try dsimp only)
        exact ⟨(K19.out.belowS HBW.out).cellV (i := 0) rfl, (K19.out.belowS HBW.out).cellV (i := 1) rfl, (K20.out.belowS HBW.out).cellV (i := 0) rfl, (K20.out.belowS HBW.out).cellV (i := 1) rfl⟩
      refine Tr.take_at 0 71 (.agg #[.slice A1 n1 c1, .map m1]) rfl rfl (by kernel_rfl) (by kernel_rfl) (by kernel_rfl) (fun _ _ _ h => h) (Or.inl ⟨by rfl, ?_⟩) (by assumption) ?_
      · intro W0 hSw
        (try dsimp only at hSw)
        go_simp
      simp only [List.set_cons_zero, List.set_cons_succ]
      refine Tr.take_at 2 73 (.agg #[.slice A2 n2 c2, .map m2]) rfl rfl (by kernel_rfl) (by kernel_rfl) (by kernel_rfl) (fun _ _ _ h => h) (Or.inl ⟨by rfl, ?_⟩) (by assumption) ?_
      · intro W0 hSw
        (try dsimp only at hSw)
        go_simp
      simp only [List.set_cons_zero, List.set_cons_succ]
      refine wpAnyH_ready (rs := [1]) (by kernel_rfl) (by simp) ?_
      refine AllReadyH.cons rfl (fun K hK => ?_) AllReadyH.nil
      go_simp
      refine (HWI.out _ HBW.out).mono ?_
      rintro e wd1 ⟨u1, rfl, ho, hbA⟩
      obtain ⟨A7, c7, rfl, _⟩ := own_form ho
      have HR7 := Lib.hid (Rd.of_own ho)
      clear ho
      replace HBW := Lib.hid (bstep HBW.out hbA)
      clear hbA
      go_simp
      refine hK.out _ _ ?_ (fun hHeld => ?_)
      · (try dsimp only)
        exact ⟨(K19.out.belowS HBW.out).cellV (i := 0) rfl, (K19.out.belowS HBW.out).cellV (i := 1) rfl, (K20.out.belowS HBW.out).cellV (i := 0) rfl, (K20.out.belowS HBW.out).cellV (i := 1) rfl⟩
      clear hK K
      refine wpAnyH_ready (rs := [3]) (by kernel_rfl) (by simp) ?_
      refine AllReadyH.cons rfl (fun K hK => ?_) AllReadyH.nil
      go_simp
      refine (HWJ.out _ HBW.out).mono ?_
      rintro e wd3 ⟨u3, rfl, ho, hbA⟩
      obtain ⟨A8, c8, rfl, _⟩ := own_form ho
      have HR8 := Lib.hid (Rd.of_own ho)
      clear ho
      replace HBW := Lib.hid (bstep HBW.out hbA)
      replace HR7 := Lib.hid (HR7.out.below hbA)
      clear hbA
      go_simp
      refine hK.out _ _ ?_ (fun hHeld => ?_)
      · (try dsimp only)
        exact ⟨(K19.out.belowS HBW.out).cellV (i := 0) rfl, (K19.out.belowS HBW.out).cellV (i := 1) rfl, (K20.out.belowS HBW.out).cellV (i := 0) rfl, (K20.out.belowS HBW.out).cellV (i := 1) rfl⟩
      clear hK K
      refine Tr.take_at 4 17 (.slice A7 od.length c7) rfl rfl (by kernel_rfl) (by kernel_rfl) (by kernel_rfl) (fun _ _ _ h => h) (Or.inl ⟨by rfl, ?_⟩) (by assumption) ?_
      · intro W0 hSw
        (try dsimp only at hSw)
        go_simp
      simp only [List.set_cons_zero, List.set_cons_succ]
      refine Tr.take_at 5 18 (.slice A8 od.length c8) rfl rfl (by kernel_rfl) (by kernel_rfl) (by kernel_rfl) (fun _ _ _ h => h) (Or.inl ⟨by rfl, ?_⟩) (by assumption) ?_
      · intro W0 hSw
        (try dsimp only at hSw)
        go_simp
      simp only [List.set_cons_zero, List.set_cons_succ]
      refine wpAnyH_done (by kernel_rfl) ?_ _
      refine NoPanic.normal ?_
      go_wp2_with fail
      go_meet
      exact ⟨A7, c7, A8, c8, rfl, rfl, HR7.out, HR8.out, HBW.out⟩
  obtain ⟨A7, c7, A8, c8, rfl, rfl, hr7, hr8, hbc⟩ := hcut
  have HR7 := Lib.hid hr7
  have HR8 := Lib.hid hr8
  replace HB := Lib.hid (bstep HB.out hbc)
  replace K19 := Lib.hid (K19.out.belowS hbc)
  replace K20 := Lib.hid (K20.out.belowS hbc)
  replace HS1 := Lib.hid (HS1.out.below hbc)
  replace HS2 := Lib.hid (HS2.out.below hbc)
  clear hr7 hr8 hbc HWI HWJ
  obtain ⟨V, hV⟩ : ∃ Z, Z = wc := ⟨_, rfl⟩
  subst hV
  obtain ⟨m9, hm9⟩ : ∃ m, od.length = m := ⟨_, rfl⟩
  rw [hm9] at HR7 HR8 hodn ⊢
  have HM9 := Lib.hid hm9
  clear hm9
  go_wp2_with fail
  go_loopw [19] (fun i wr => ∃ j : Nat, i = .int .i64 j ∧ j ≤ m9 ∧ Below V.heap.size V wr) (fun i _ => m9 - (intOf i).toNat)
  case atStart => exact ⟨0, rfl, by omega, bre V⟩
  case round =>
    obtain ⟨j, rfl, hj, hbw⟩ := hrel
    have HBZ := Lib.hid hbw
    clear hbw
    by_cases hlt : j < m9
    · have k1 : (j : Int) < (m9 : Int) := by omega
      have k0 : (0 : Int) ≤ (j : Int) := by omega
      obtain ⟨i, hi⟩ : ∃ i, od[j]? = some i := ⟨_, List.getElem?_eq_getElem (by rw [HM9.out]; exact hlt)⟩
      obtain ⟨b7, o7, rfl, hb7, hc7⟩ := HR7.out.2 (by omega)
      obtain ⟨b8, o8, rfl, hb8, hc8⟩ := HR8.out.2 (by omega)
      have HC7 := Lib.hid (hc7 j _ (U32_at hi))
      have HC8 := Lib.hid (hc8 j _ (U32_at hi))
      have HB7 := Lib.hid hb7
      have HB8 := Lib.hid hb8
      have hfi := HOB.out i (List.mem_of_getElem? hi)
      have HII := Lib.hid hfi.1
      have HSM := Lib.hid (fun x y => show shG RW RH (nodesW l') (bxS RW RH l') (x + (ogG (nodesW l') (bxS RW RH l') i).1) (y + (ogG (nodesW l') (bxS RW RH l') i).2) i = shG RW RH (cutN (nodesW l') (idW (k : Int))) (bxS RW RH l') (x + (ogG (cutN (nodesW l') (idW (k : Int))) (bxS RW RH l') i).1) (y + (ogG (cutN (nodesW l') (idW (k : Int))) (bxS RW RH l') i).2) i by
        have h1 := cut_top (bx := bxS RW RH l') (nodesW_ok HUP.out) HHK.out HK1.out HAC.out
        have h2 : ogG (cutN (nodesW l') (idW (k : Int))) (bxS RW RH l') i = ogG (nodesW l') (bxS RW RH l') i := by
          unfold ogG
          rw [cut_has (nodesW_ok HUP.out) hfi.2.2.2, cut_vw (nodesW_ok HUP.out) HHK.out HK1.out hfi.2.1 hfi.2.2.2, cut_org (nodesW_ok HUP.out) HHK.out HK1.out hfi.2.1 hfi.2.2.2]
        rw [h2]
        unfold shG
        rw [h1])
      clear hc7 hc8 hi hfi hb7 hb8
      go_upto_region 20 with fail
      have HBW := Lib.hid (show Below wr.heap.size wr wr.drew from (bre wr).drew)
      refine wp_region_noPanic ?_
      refine wp_region_held_drew (S := (fun w' => w'.cell? ⟨b7, o7 + j, none⟩ = some (.int .u32 i) ∧ w'.cell? ⟨b8, o8 + j, none⟩ = some (.int .u32 i) ∧ w'.cell? ⟨g1, 0, none⟩ = some (.slice A1 n1 c1) ∧ w'.cell? ⟨g1, 1, none⟩ = some (.map m1) ∧ w'.cell? ⟨g2, 0, none⟩ = some (.slice A2 n2 c2) ∧ w'.cell? ⟨g2, 1, none⟩ = some (.map m2))) (by kernel_rfl) ?_ (fun hHeld => ?_)
      · (try dsimp only)
        exact ⟨cell_keep (bstep HBZ.out HBW.out) HB7.out HC7.out, cell_keep (bstep HBZ.out HBW.out) HB8.out HC8.out, ((K19.out.belowS HBZ.out).belowS HBW.out).cellV (i := 0) rfl, ((K19.out.belowS HBZ.out).belowS HBW.out).cellV (i := 1) rfl, ((K20.out.belowS HBZ.out).belowS HBW.out).cellV (i := 0) rfl, ((K20.out.belowS HBZ.out).belowS HBW.out).cellV (i := 1) rfl⟩
      refine Tr.take_at 0 86 (.slice (some ⟨b7, o7, none⟩) m9 c7) rfl rfl (by kernel_rfl) (by kernel_rfl) (by kernel_rfl) (fun _ _ _ h => h) (Or.inl ⟨by rfl, ?_⟩) (by assumption) ?_
      · intro W0 hSw
        (try dsimp only at hSw)
        go_simp
      simp only [List.set_cons_zero, List.set_cons_succ]
      refine Tr.take_at 1 87 (.int .i64 j) rfl rfl (by kernel_rfl) (by kernel_rfl) (by kernel_rfl) (fun _ _ _ h => h) (Or.inl ⟨by rfl, ?_⟩) (by assumption) ?_
      · intro W0 hSw
        (try dsimp only at hSw)
        go_simp
      simp only [List.set_cons_zero, List.set_cons_succ]
      refine Tr.take_at 2 88 (.pointer (some ⟨b7, o7 + j, none⟩)) rfl rfl (by kernel_rfl) (by kernel_rfl) (by kernel_rfl) (fun _ _ _ h => h) (Or.inl ⟨by rfl, ?_⟩) (by assumption) ?_
      · intro W0 hSw
        (try dsimp only at hSw)
        go_simp
      simp only [List.set_cons_zero, List.set_cons_succ]
      refine Tr.take_at 3 89 (.int .u32 i) rfl rfl (by kernel_rfl) (by kernel_rfl) (by kernel_rfl) (fun _ _ _ h => h) (Or.inl ⟨by rfl, ?_⟩) (by assumption) ?_
      · intro W0 hSw
        (try dsimp only at hSw)
        go_simp
      simp only [List.set_cons_zero, List.set_cons_succ]
      refine Tr.take_at 4 90 (.slice (some ⟨b8, o8, none⟩) m9 c8) rfl rfl (by kernel_rfl) (by kernel_rfl) (by kernel_rfl) (fun _ _ _ h => h) (Or.inl ⟨by rfl, ?_⟩) (by assumption) ?_
      · intro W0 hSw
        (try dsimp only at hSw)
        go_simp
      simp only [List.set_cons_zero, List.set_cons_succ]
      refine Tr.take_at 5 91 (.int .i64 j) rfl rfl (by kernel_rfl) (by kernel_rfl) (by kernel_rfl) (fun _ _ _ h => h) (Or.inl ⟨by rfl, ?_⟩) (by assumption) ?_
      · intro W0 hSw
        (try dsimp only at hSw)
        go_simp
      simp only [List.set_cons_zero, List.set_cons_succ]
      refine Tr.take_at 6 92 (.pointer (some ⟨b8, o8 + j, none⟩)) rfl rfl (by kernel_rfl) (by kernel_rfl) (by kernel_rfl) (fun _ _ _ h => h) (Or.inl ⟨by rfl, ?_⟩) (by assumption) ?_
      · intro W0 hSw
        (try dsimp only at hSw)
        go_simp
      simp only [List.set_cons_zero, List.set_cons_succ]
      refine Tr.take_at 7 93 (.int .u32 i) rfl rfl (by kernel_rfl) (by kernel_rfl) (by kernel_rfl) (fun _ _ _ h => h) (Or.inl ⟨by rfl, ?_⟩) (by assumption) ?_
      · intro W0 hSw
        (try dsimp only at hSw)
        go_simp
      simp only [List.set_cons_zero, List.set_cons_succ]
      refine Tr.take_at 8 94 (.bool false) rfl rfl (by kernel_rfl) (by kernel_rfl) (by kernel_rfl) (fun _ _ _ h => h) (Or.inl ⟨by rfl, ?_⟩) (by assumption) ?_
      · intro W0 hSw
        (try dsimp only at hSw)
        go_simp
      simp only [List.set_cons_zero, List.set_cons_succ]
      refine Tr.take_at 9 95 (.bool false) rfl rfl (by kernel_rfl) (by kernel_rfl) (by kernel_rfl) (fun _ _ _ h => h) (Or.inl ⟨by rfl, ?_⟩) (by assumption) ?_
      · intro W0 hSw
        (try dsimp only at hSw)
        go_simp
      simp only [List.set_cons_zero, List.set_cons_succ]
      refine Tr.take_at 10 96 (.agg #[.slice A1 n1 c1, .map m1]) rfl rfl (by kernel_rfl) (by kernel_rfl) (by kernel_rfl) (fun _ _ _ h => h) (Or.inl ⟨by rfl, ?_⟩) (by assumption) ?_
      · intro W0 hSw
        (try dsimp only at hSw)
        go_simp
      simp only [List.set_cons_zero, List.set_cons_succ]
      refine Tr.take_at 11 97 (.slice (some ⟨b7, o7, none⟩) m9 c7) rfl rfl (by kernel_rfl) (by kernel_rfl) (by kernel_rfl) (fun _ _ _ h => h) (Or.inl ⟨by rfl, ?_⟩) (by assumption) ?_
      · intro W0 hSw
        (try dsimp only at hSw)
        go_simp
      simp only [List.set_cons_zero, List.set_cons_succ]
      refine Tr.take_at 12 98 (.int .i64 j) rfl rfl (by kernel_rfl) (by kernel_rfl) (by kernel_rfl) (fun _ _ _ h => h) (Or.inl ⟨by rfl, ?_⟩) (by assumption) ?_
      · intro W0 hSw
        (try dsimp only at hSw)
        go_simp
      simp only [List.set_cons_zero, List.set_cons_succ]
      refine Tr.take_at 13 99 (.pointer (some ⟨b7, o7 + j, none⟩)) rfl rfl (by kernel_rfl) (by kernel_rfl) (by kernel_rfl) (fun _ _ _ h => h) (Or.inl ⟨by rfl, ?_⟩) (by assumption) ?_
      · intro W0 hSw
        (try dsimp only at hSw)
        go_simp
      simp only [List.set_cons_zero, List.set_cons_succ]
      refine Tr.take_at 14 100 (.int .u32 i) rfl rfl (by kernel_rfl) (by kernel_rfl) (by kernel_rfl) (fun _ _ _ h => h) (Or.inl ⟨by rfl, ?_⟩) (by assumption) ?_
      · intro W0 hSw
        (try dsimp only at hSw)
        go_simp
      simp only [List.set_cons_zero, List.set_cons_succ]
      refine Tr.take_at 16 102 (.agg #[.slice A2 n2 c2, .map m2]) rfl rfl (by kernel_rfl) (by kernel_rfl) (by kernel_rfl) (fun _ _ _ h => h) (Or.inl ⟨by rfl, ?_⟩) (by assumption) ?_
      · intro W0 hSw
        (try dsimp only at hSw)
        go_simp
      simp only [List.set_cons_zero, List.set_cons_succ]
      refine Tr.take_at 17 103 (.slice (some ⟨b7, o7, none⟩) m9 c7) rfl rfl (by kernel_rfl) (by kernel_rfl) (by kernel_rfl) (fun _ _ _ h => h) (Or.inl ⟨by rfl, ?_⟩) (by assumption) ?_
      · intro W0 hSw
        (try dsimp only at hSw)
        go_simp
      simp only [List.set_cons_zero, List.set_cons_succ]
      refine Tr.take_at 18 104 (.int .i64 j) rfl rfl (by kernel_rfl) (by kernel_rfl) (by kernel_rfl) (fun _ _ _ h => h) (Or.inl ⟨by rfl, ?_⟩) (by assumption) ?_
      · intro W0 hSw
        (try dsimp only at hSw)
        go_simp
      simp only [List.set_cons_zero, List.set_cons_succ]
      refine Tr.take_at 19 105 (.pointer (some ⟨b7, o7 + j, none⟩)) rfl rfl (by kernel_rfl) (by kernel_rfl) (by kernel_rfl) (fun _ _ _ h => h) (Or.inl ⟨by rfl, ?_⟩) (by assumption) ?_
      · intro W0 hSw
        (try dsimp only at hSw)
        go_simp
      simp only [List.set_cons_zero, List.set_cons_succ]
      refine Tr.take_at 20 106 (.int .u32 i) rfl rfl (by kernel_rfl) (by kernel_rfl) (by kernel_rfl) (fun _ _ _ h => h) (Or.inl ⟨by rfl, ?_⟩) (by assumption) ?_
      · intro W0 hSw
        (try dsimp only at hSw)
        go_simp
      simp only [List.set_cons_zero, List.set_cons_succ]
      refine wpAnyH_ready (rs := [15]) (by kernel_rfl) (by simp) ?_
      refine AllReadyH.cons rfl (fun K hK => ?_) AllReadyH.nil
      go_simp
      refine (((HS1.out.below HBZ.out).below HBW.out).visible HNO.out i HII.out).mono ?_
      rintro e wd15 ⟨u15, out15, rfl, hro, hpo, hao, hln, hbA⟩
      obtain ⟨Ao15, co15, rfl, hrd, hcan, _, hcnt⟩ := hro
      have HRD15 := Lib.hid hrd
      have HLN15 := Lib.hid hln
      have HPO15 := Lib.hid hpo
      have HCA15 := Lib.hid hcan
      clear hrd hcan hcnt hpo hao hln
      replace HBW := Lib.hid (bstep HBW.out hbA)
      clear hbA
      go_simp
      refine hK.out _ _ ?_ (fun hHeld => ?_)
      · (try dsimp only)
        exact ⟨cell_keep (bstep HBZ.out HBW.out) HB7.out HC7.out, cell_keep (bstep HBZ.out HBW.out) HB8.out HC8.out, ((K19.out.belowS HBZ.out).belowS HBW.out).cellV (i := 0) rfl, ((K19.out.belowS HBZ.out).belowS HBW.out).cellV (i := 1) rfl, ((K20.out.belowS HBZ.out).belowS HBW.out).cellV (i := 0) rfl, ((K20.out.belowS HBZ.out).belowS HBW.out).cellV (i := 1) rfl⟩
      clear hK K
      refine wpAnyH_ready (rs := [21]) (by kernel_rfl) (by simp) ?_
      refine AllReadyH.cons rfl (fun K hK => ?_) AllReadyH.nil
      go_simp
      refine (((HS2.out.below HBZ.out).below HBW.out).visible HCO.out i HII.out).mono ?_
      rintro e wd21 ⟨u21, out21, rfl, hro, hpo, hao, hln, hbA⟩
      obtain ⟨Ao21, co21, rfl, hrd, hcan, _, hcnt⟩ := hro
      have HRD21 := Lib.hid hrd
      have HLN21 := Lib.hid hln
      have HPO21 := Lib.hid hpo
      have HCA21 := Lib.hid hcan
      clear hrd hcan hcnt hpo hao hln
      replace HBW := Lib.hid (bstep HBW.out hbA)
      replace HRD15 := Lib.hid (HRD15.out.below hbA)
      clear hbA
      go_simp
      refine hK.out _ _ ?_ (fun hHeld => ?_)
      · (try dsimp only)
        exact ⟨cell_keep (bstep HBZ.out HBW.out) HB7.out HC7.out, cell_keep (bstep HBZ.out HBW.out) HB8.out HC8.out, ((K19.out.belowS HBZ.out).belowS HBW.out).cellV (i := 0) rfl, ((K19.out.belowS HBZ.out).belowS HBW.out).cellV (i := 1) rfl, ((K20.out.belowS HBZ.out).belowS HBW.out).cellV (i := 0) rfl, ((K20.out.belowS HBZ.out).belowS HBW.out).cellV (i := 1) rfl⟩
      clear hK K
      refine wpAnyH_ready (rs := [22]) (by kernel_rfl) (by simp) ?_
      refine AllReadyH.cons rfl (fun K hK => ?_) AllReadyH.nil
      go_simp
      have heq : out21 = out15 := canon_uniq HCA21.out HCA15.out (fun x y => by
        rw [← inB_iff, ← inB_iff, HPO21.out, HPO15.out, HSM.out x y])
      subst heq
      refine (bandSame_eq Ao15 Ao21 out21.length co15 co21 out21 _ (by have := HLN15.out; omega) HRD15.out HRD21.out).mono ?_
      rintro e wd22 ⟨rfl, hbA⟩
      replace HBW := Lib.hid (bstep HBW.out hbA)
      replace HRD15 := Lib.hid (HRD15.out.below hbA)
      replace HRD21 := Lib.hid (HRD21.out.below hbA)
      clear hbA
      go_simp
      refine hK.out _ _ ?_ (fun hHeld => ?_)
      · (try dsimp only)
        exact ⟨cell_keep (bstep HBZ.out HBW.out) HB7.out HC7.out, cell_keep (bstep HBZ.out HBW.out) HB8.out HC8.out, ((K19.out.belowS HBZ.out).belowS HBW.out).cellV (i := 0) rfl, ((K19.out.belowS HBZ.out).belowS HBW.out).cellV (i := 1) rfl, ((K20.out.belowS HBZ.out).belowS HBW.out).cellV (i := 0) rfl, ((K20.out.belowS HBZ.out).belowS HBW.out).cellV (i := 1) rfl⟩
      clear hK K
      refine Tr.take_at 23 109 (.bool false) rfl rfl (by kernel_rfl) (by kernel_rfl) (by kernel_rfl) (fun _ _ _ h => h) (Or.inl ⟨by rfl, ?_⟩) (by assumption) ?_
      · intro W0 hSw
        (try dsimp only at hSw)
        go_simp
      simp only [List.set_cons_zero, List.set_cons_succ]
      refine Tr.take_at 24 110 (.bool false) rfl rfl (by kernel_rfl) (by kernel_rfl) (by kernel_rfl) (fun _ _ _ h => h) (Or.inl ⟨by rfl, ?_⟩) (by assumption) ?_
      · intro W0 hSw
        (try dsimp only at hSw)
        go_simp
      simp only [List.set_cons_zero, List.set_cons_succ]
      refine wpAnyH_done (by kernel_rfl) ?_ _
      refine NoPanic.normal ?_
      go_wp2_with fail
      go_roundw
      case rel => exact ⟨j + 1, by go_num, by omega, bstep HBZ.out HBW.out⟩
      case measure => simp [intOf]; omega
    · obtain rfl : j = m9 := by omega
      have k1 : ¬ (j : Int) < (j : Int) := by omega
      go_wp2_with fail
      refine (awake31_any _).mono ?_
      rintro e w22 ⟨rfl, hb22⟩
      have HB2 := Lib.hid (bstep (bstep HB.out HBZ.out) hb22)
      clear hb22
      go_wp2_with fail
      go_ret
      exact ⟨rfl, HB2.out⟩
end Go.Proofs.YtdaedkolpfkdjaaGreat
end
