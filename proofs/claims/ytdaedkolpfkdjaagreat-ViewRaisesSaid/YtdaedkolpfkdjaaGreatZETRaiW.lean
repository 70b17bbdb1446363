/-
  The walk of the law ViewRaises.
-/
import Derived.Test.YtdaedkolpfkdjaaGreatZE34
import Derived.Test.YtdaedkolpfkdjaaGreatZE35
section
namespace Go.Proofs.YtdaedkolpfkdjaaGreat
open Go.RowKit Go.Maps Go.Shelf

set_option maxRecDepth 100000 in
theorem Tryz.sizeRgX : (Tryz.prog.info? 57).map (·.size) = some 1 := by kernel_rfl
set_option maxRecDepth 100000 in
set_option maxHeartbeats 8000000 in
theorem viewRaises_any (a b q : Int) (A : Option Addr) (n c : Nat) (ps : List PN) (w : World) (ha : 0 ≤ a ∧ a ≤ 255) (hb : 0 ≤ b ∧ b ≤ 255) (hq : 0 ≤ q ∧ q ≤ 255) (hn : n ≤ maxLen) (hr : RdF PN.cells 14 w A n ps) (hok : ∀ p ∈ ps, p.ok) :
 Calls Tryz.prog 4 #[.agg #[.int .u8 a, .int .u8 b, .slice A n c], .int .u8 q] w fun e w' => e = .returned (.bool true) ∧ Below w.heap.size w w' := by
 obtain ⟨RW, hRW⟩ : ∃ RW : Nat, (RW : Int) = 1 + a % 16 := ⟨(1 + a % 16).toNat, by omega⟩
 obtain ⟨RH, hRH⟩ : ∃ RH : Nat, (RH : Int) = 1 + b % 12 := ⟨(1 + b % 12).toNat, by omega⟩
 have HRR := Lib.hid (show (1 ≤ RW ∧ RW ≤ 128) ∧ 1 ≤ RH ∧ RH ≤ 128 by omega)
 have HSZ := Lib.hid (fun W => by have h := size_any31 a b A n c W ha hb; rw [← hRW, ← hRH] at h; exact h)
 have HR := Lib.hid hr
 have HOK := Lib.hid hok
 have HN := Lib.hid hn
 have HQ := Lib.hid hq
 have hn9 : n ≤ 9223372036854775807 := by simp only [maxLen] at hn; omega
 clear hr hok ha hb hRW hRH hn
 go_enter Tryz.func4, Tryz.ntmps4
 go_upto_region 1 with fail
 have xK := Blk.new w 24 #[.int .u8 a, .int .u8 b, .slice A n c]
 have xB := bal (bre w) (.cells #[.int .u8 a, .int .u8 b, .slice A n c] 24)
 obtain ⟨X0, hX0⟩ : ∃ X0, w.alloc (.cells #[.int .u8 a, .int .u8 b, .slice A n c] 24) = X0 := ⟨_, rfl⟩
 rw [hX0] at xK xB ⊢
 have K4 := Lib.hid xK
 have HB := Lib.hid xB
 have q0 := xK.cellV (i := 0) (v := .int .u8 a) rfl
 have q1 := xK.cellV (i := 1) (v := .int .u8 b) rfl
 have q2 := xK.cellV (i := 2) (v := .slice A n c) rfl
 clear xK xB hX0
 go_wp2_with fail
 refine (great_any a b A n c _ HN.out).mono ?_
 rintro e w1 ⟨rfl, hb1⟩
 replace HB := Lib.hid (bstep HB.out hb1)
 replace K4 := Lib.hid (K4.out.belowS hb1)
 clear hb1 q0 q1 q2
 have q2 := K4.out.cellV (i := 2) (v := .slice A n c) rfl
 by_cases h7 : 7 < n
 ·
  rw [decide_eq_true h7]
  as_aux_lemma =>
   go_wp2_with fail
   refine (awake31_any _).mono ?_
   rintro e w2 ⟨rfl, hb2⟩
   have HB2 := Lib.hid (bstep HB.out hb2)
   clear hb2
   go_wp2_with fail
   go_ret
   exact ⟨rfl, HB2.out⟩
 rw [decide_eq_false h7]
 by_cases h0 : n = 0
 ·
  subst h0
  as_aux_lemma =>
   go_wp2_with fail
   refine (awake31_any _).mono ?_
   rintro e w2 ⟨rfl, hb2⟩
   have HB2 := Lib.hid (bstep HB.out hb2)
   clear hb2
   go_wp2_with fail
   go_ret
   exact ⟨rfl, HB2.out⟩
 have h60 : n ≤ 60 := by omega
 have z0 : ((n : Int) == 0) = false := by rw [beq_eq_false_iff_ne]; omega
 have q0 := K4.out.cellV (i := 0) (v := .int .u8 a) rfl
 have q1 := K4.out.cellV (i := 1) (v := .int .u8 b) rfl
 go_wp2_with fail
 refine (HSZ.out _).mono ?_
 rintro e w2 ⟨rfl, hb2⟩
 replace HB := Lib.hid (bstep HB.out hb2)
 replace K4 := Lib.hid (K4.out.belowS hb2)
 clear hb2 q0 q1 q2
 have q0 := K4.out.cellV (i := 0) (v := .int .u8 a) rfl
 have q1 := K4.out.cellV (i := 1) (v := .int .u8 b) rfl
 have q2 := K4.out.cellV (i := 2) (v := .slice A n c) rfl
 go_wp2_with fail
 refine (windows31_any a b A n c ps _ h60 (HR.out.below HB.out) HOK.out).mono ?_
 rintro e w3 ⟨v, l, rfl, hl, hat, hb3⟩
 have HL7 := Lib.hid (show l.length ≤ 7 by omega)
 have hpos : 0 < l.length := by omega
 obtain ⟨gw, cl, rest, rfl, hgb, hblk⟩ := own_blkN hat.own hpos
 obtain ⟨k, hkk⟩ : ∃ k : Nat, (k : Int) = q % (l.length : Int) := ⟨(q % (l.length : Int)).toNat, Int.toNat_of_nonneg (Int.emod_nonneg _ (by omega))⟩
 have hkl : k < l.length := by have := Int.emod_lt_of_pos q (show 0 < (l.length : Int) by omega); omega
 have t0 : q.tmod (l.length : Int) = (k : Int) := by rw [Int.tmod_eq_emod_of_nonneg HQ.out.1]; exact hkk.symm
 have t1 : IntKind.i64.wrap q = q := IntWalk.i64_in _ (by have := HQ.out; omega)
 have t2 : IntKind.i64.wrap (k : Int) = (k : Int) := IntWalk.i64_in _ (by have := HL7.out; omega)
 have z1 : ((l.length : Int) == 0) = false := by rw [beq_eq_false_iff_ne]; omega
 have z2 : ¬ ((l.length : Int) = 0) := by omega
 have k0 : (0 : Int) ≤ (k : Int) := by omega
 have k1 : (k : Int) < (l.length : Int) := by omega
 have HKL := Lib.hid hkl
 have HG5 := Lib.hid (Nat.le_trans (HB.out.size) (Nat.le_trans (Nat.le_succ _) hgb))
 replace HB := Lib.hid (bstep HB.out hb3)
 clear hb3 hl q0 q1 q2 K4 z0 hkk hpos
 have HL := Lib.hid (show RdWs w3 (some ⟨gw, 0, none⟩) l.length l from ⟨RdF.of_blkR DW.cells_len hblk rfl, hat.sh⟩)
 have HUP := Lib.hid hat.up
 have HDW := Lib.hid hat.ok
 obtain ⟨d, hd⟩ : ∃ d, l[k]? = some d := ⟨_, List.getElem?_eq_getElem hkl⟩
 have HKD := Lib.hid hd
 clear hblk hat hd HG5 hgb
 go_wp2_with fail
 refine (built31_any (some ⟨gw, 0, none⟩) l.length cl l RW RH _ HL.out (by have := HL7.out; omega) HUP.out HDW.out (by have := HRR.out; omega)).mono ?_
 rintro e w4 ⟨mk, mu, mp, nk, fk, bs, rfl, hm, hb4⟩
 have HM := Lib.hid hm
 replace HL := Lib.hid (HL.out.below hb4)
 replace HB := Lib.hid (bstep HB.out hb4)
 clear hm hb4
 go_upto_region 9 with fail
 have hba := bal (bal (bre w4) (.cells #[.map mk, .map mu] 37)) (.cells #[.map mp] 40)
 have xM := HM.out.below hba
 have xL := HL.out.below hba
 have xK2 := (Blk.new w4 37 #[.map mk, .map mu]).alloc (.cells #[.map mp] 40)
 have xK3 := blk_new2 w4 (.cells #[.map mk, .map mu] 37) 40 #[.map mp]
 have xB := bal (bal HB.out (.cells #[.map mk, .map mu] 37)) (.cells #[.map mp] 40)
 have xs : (w4.alloc (.cells #[.map mk, .map mu] 37)).heap.size = w4.heap.size + 1 := World.size_alloc _ _
 obtain ⟨gt, hgt⟩ : ∃ g, w4.heap.size = g := ⟨_, rfl⟩
 rw [hgt] at xK2 xK3 ⊢
 obtain ⟨X1, hX1⟩ : ∃ X1, (w4.alloc (.cells #[.map mk, .map mu] 37)).alloc (.cells #[.map mp] 40) = X1 := ⟨_, rfl⟩
 rw [hX1] at xM xL xK2 xK3 xB hba ⊢
 replace HM := Lib.hid xM
 replace HL := Lib.hid xL
 have KT := Lib.hid xK2
 have KP := Lib.hid xK3
 replace HB := Lib.hid xB
 clear xM xL xK2 xK3 xB hX1 hba hgt xs
 have hids : -1 ≤ (k : Int) ∧ (k : Int) ≤ 1000000 := by have := HL7.out; omega
 have HIW := Lib.hid (idW_bd hids)
 have hdp := HUP.out k d HKD.out
 have hidp : -1 ≤ d.P ∧ d.P ≤ 1000000 := by have := HL7.out; omega
 have HIP := Lib.hid (idW_bd hidp)
 have HPU := Lib.hid (show upOf (nodesW l) (idW (k : Int)) = some (idW d.P) from upOf_mem (nodesW_nodup l) (nodesW_mem.2 ⟨k, _, HKD.out, rfl⟩))
 have HK1 := Lib.hid (show idW (k : Int) ≠ 1 by rw [idW_nat]; omega)
 have HHK := Lib.hid (show hasN (nodesW l) (idW (k : Int)) = true from hasN_iff.2 (.inr ⟨_, HPU.out⟩))
 obtain ⟨kn, hkn⟩ : ∃ kn, (kidsOf (nodesW l) (idW d.P)).length = kn := ⟨_, rfl⟩
 obtain ⟨n1, hn1⟩ : ∃ n1, kn = n1 + 1 := by
  have h9 : 0 < (kidsOf (nodesW l) (idW d.P)).length := List.length_pos_of_mem (kids_mem.2 (upOf_some HPU.out))
  exact ⟨kn - 1, by omega⟩
 have HKN := Lib.hid hkn
 have HN1 := Lib.hid (hkn.trans hn1)
 have hknl : kn ≤ 1000 := by rw [← hkn]; exact kids_len HM.out.tree.few _
 have tw : IntKind.i64.wrap ((kn : Int) - 1) = (n1 : Int) := by rw [hn1, show (((n1 + 1 : Nat) : Int) - 1) = (n1 : Int) by omega]; exact IntWalk.i64_in _ (by omega)
 have HLA := Lib.hid (show (nodesW l).length ≤ 1000 by rw [nodesW_len]; have := HL7.out; omega)
 have HNO := Lib.hid (nodesW_ok HUP.out)
 have HMM := Lib.hid (upOf_some HPU.out)
 have HTO := Lib.hid (topmost_ok HNO.out HMM.out)
 have HLC := Lib.hid (show (topmost (nodesW l) (idW (k : Int)) (idW d.P)).length ≤ 1000 by rw [topmost_len HNO.out HMM.out]; exact HLA.out)
 obtain ⟨b8, o8, e8, hb8, hc8⟩ := HL.out.at_ (by omega)
 cases e8
 obtain ⟨⟨q8, _⟩, _⟩ := hc8 k d HKD.out
 rw [Nat.zero_add] at q8
 have HQ8 := Lib.hid q8
 clear hkn hn1 hdp hb8 hc8 q8
 go_cut [12, 13] (fun s12 s13 wx => ∃ (g12 kb ub nk2 : Nat) (fk2 : Int → Option Value), s12 = .pointer (some ⟨g12, 0, none⟩) ∧ s13 = .int .i64 0 ∧ Blk wx g12 37 #[.map (some kb), .map (some ub)] ∧ TreeIs wx (.agg #[.map (some kb), .map (some ub)]) (topmost (nodesW l) (idW (k : Int)) (idW d.P)) (some kb) (some ub) nk2 fk2 ∧ Below X1.heap.size X1 wx)
 case first =>
  as_aux_lemma =>
   have HBW := Lib.hid (show Below X1.heap.size X1 X1.drew from (bre X1).drew)
   have KW := Lib.hid (fun (W' : World) (h : Below X1.heap.size X1 W') => show (fun w' => w'.cell? ⟨gt, 0, none⟩ = some (.map mk) ∧ w'.cell? ⟨gt, 1, none⟩ = some (.map mu) ∧ w'.cell? ⟨gw, k * 8, none⟩ = some (.int .i64 d.P)) W' from ⟨(KT.out.belowS h).cellV (i := 0) rfl, (KT.out.belowS h).cellV (i := 1) rfl, cell_keep h (block_lt_of_cell HQ8.out) HQ8.out⟩)
   refine wp_region_noPanic ?_
   refine wp_region_held_drew (S := (fun w' => w'.cell? ⟨gt, 0, none⟩ = some (.map mk) ∧ w'.cell? ⟨gt, 1, none⟩ = some (.map mu) ∧ w'.cell? ⟨gw, k * 8, none⟩ = some (.int .i64 d.P))) (by kernel_rfl) ?_ (fun _ => ?_)
   ·
    (try dsimp only)
    exact ⟨(KT.out.belowS HBW.out).cellV (i := 0) rfl, (KT.out.belowS HBW.out).cellV (i := 1) rfl, cell_keep HBW.out (block_lt_of_cell HQ8.out) HQ8.out⟩
   refine Tr.take_at 0 53 (.agg #[.map mk, .map mu]) rfl rfl (by kernel_rfl) (by kernel_rfl) (by kernel_rfl) (fun _ _ _ h => h) (Or.inl ⟨by rfl, ?_⟩) (by assumption) ?_
   ·
    intro W0 hSw
    (try dsimp only at hSw)
    go_simp
   simp only [List.set_cons_zero, List.set_cons_succ]
   refine Tr.take_at 1 54 (.int .i64 k) rfl rfl (by kernel_rfl) (by kernel_rfl) (by kernel_rfl) (fun _ _ _ h => h) (Or.inl ⟨by rfl, ?_⟩) (by assumption) ?_
   ·
    intro W0 hSw
    (try dsimp only at hSw)
    go_simp
   simp only [List.set_cons_zero, List.set_cons_succ]
   refine Tr.take_at 3 56 (.agg #[.map mk, .map mu]) rfl rfl (by kernel_rfl) (by kernel_rfl) (by kernel_rfl) (fun _ _ _ h => h) (Or.inl ⟨by rfl, ?_⟩) (by assumption) ?_
   ·
    intro W0 hSw
    (try dsimp only at hSw)
    go_simp
   simp only [List.set_cons_zero, List.set_cons_succ]
   refine Tr.take_at 4 57 (.slice (some ⟨gw, 0, none⟩) l.length cl) rfl rfl (by kernel_rfl) (by kernel_rfl) (by kernel_rfl) (fun _ _ _ h => h) (Or.inl ⟨by rfl, ?_⟩) (by assumption) ?_
   ·
    intro W0 hSw
    (try dsimp only at hSw)
    go_simp
   simp only [List.set_cons_zero, List.set_cons_succ]
   refine Tr.take_at 5 58 (.int .i64 k) rfl rfl (by kernel_rfl) (by kernel_rfl) (by kernel_rfl) (fun _ _ _ h => h) (Or.inl ⟨by rfl, ?_⟩) (by assumption) ?_
   ·
    intro W0 hSw
    (try dsimp only at hSw)
    go_simp
   simp only [List.set_cons_zero, List.set_cons_succ]
   refine Tr.take_at 6 59 (.pointer (some ⟨gw, k * 8, none⟩)) rfl rfl (by kernel_rfl) (by kernel_rfl) (by kernel_rfl) (fun _ _ _ h => h) (Or.inl ⟨by rfl, ?_⟩) (by assumption) ?_
   ·
    intro W0 hSw
    (try dsimp only at hSw)
    go_simp
   simp only [List.set_cons_zero, List.set_cons_succ]
   refine Tr.take_at 7 60 (.pointer (some ⟨gw, k * 8, none⟩)) rfl rfl (by kernel_rfl) (by kernel_rfl) (by kernel_rfl) (fun _ _ _ h => h) (Or.inl ⟨by rfl, ?_⟩) (by assumption) ?_
   ·
    intro W0 hSw
    (try dsimp only at hSw)
    go_simp
   simp only [List.set_cons_zero, List.set_cons_succ]
   refine Tr.take_at 8 61 (.int .i64 d.P) rfl rfl (by kernel_rfl) (by kernel_rfl) (by kernel_rfl) (fun _ _ _ h => h) (Or.inl ⟨by rfl, ?_⟩) (by assumption) ?_
   ·
    intro W0 hSw
    (try dsimp only at hSw)
    go_simp
   simp only [List.set_cons_zero, List.set_cons_succ]
   refine wpAnyH_ready (rs := [2, 17]) (by kernel_rfl) (by simp) ?_
   refine AllReadyH.cons rfl (fun K hK => ?_) (AllReadyH.cons rfl (fun K hK => ?_) AllReadyH.nil)
   ·
    go_simp
    refine (id_b (k) _ hids).mono ?_
    rintro e wd2 ⟨rfl, hbA⟩
    replace HBW := Lib.hid (bstep HBW.out hbA); clear hbA; go_simp
    refine hK.out _ _ (KW.out _ HBW.out) (fun _ => ?_); clear hK K
    refine wpAnyH_ready (rs := [9, 17]) (by kernel_rfl) (by simp) ?_
    refine AllReadyH.cons rfl (fun K hK => ?_) (AllReadyH.cons rfl (fun K hK => ?_) AllReadyH.nil)
    ·
     go_simp
     refine (id_b (d.P) _ hidp).mono ?_
     rintro e wd9 ⟨rfl, hbA⟩
     replace HBW := Lib.hid (bstep HBW.out hbA); clear hbA; go_simp
     refine hK.out _ _ (KW.out _ HBW.out) (fun _ => ?_); clear hK K
     refine wpAnyH_ready (rs := [10, 17]) (by kernel_rfl) (by simp) ?_
     refine AllReadyH.cons rfl (fun K hK => ?_) (AllReadyH.cons rfl (fun K hK => ?_) AllReadyH.nil)
     ·
      go_simp
      refine (kids_any _ (nodesW l) mk mu nk fk (idW d.P) _ HIP.out (HM.out.tree.below HBW.out)).mono ?_
      rw [HKN.out]
      rintro e wd10 ⟨u10, rfl, ho10, hbA⟩
      obtain ⟨A10, c10, rfl, _⟩ := own_form ho10
      clear ho10
      replace HBW := Lib.hid (bstep HBW.out hbA); clear hbA; go_simp
      refine hK.out _ _ (KW.out _ HBW.out) (fun _ => ?_); clear hK K
      refine Tr.take_at 11 64 (.int .i64 kn) rfl rfl (by kernel_rfl) (by kernel_rfl) (by kernel_rfl) (fun _ _ _ h => h) (Or.inl ⟨by rfl, ?_⟩) (by assumption) ?_
      ·
       intro W0 hSw
       (try dsimp only at hSw)
       go_simp
      simp only [List.set_cons_zero, List.set_cons_succ]
      refine Tr.take_at 12 65 (.int .i64 n1) rfl rfl (by kernel_rfl) (by kernel_rfl) (by kernel_rfl) (fun _ _ _ h => h) (Or.inl ⟨by rfl, ?_⟩) (by assumption) ?_
      ·
       intro W0 hSw
       (try dsimp only at hSw)
       go_simp
      simp only [List.set_cons_zero, List.set_cons_succ]
      refine wpAnyH_ready (rs := [13, 17]) (by kernel_rfl) (by simp) ?_
      refine AllReadyH.cons rfl (fun K hK => ?_) (AllReadyH.cons rfl (fun K hK => ?_) AllReadyH.nil)
      ·
       go_simp
       refine (tplace_any _ (nodesW l) mk mu nk fk (idW (k : Int)) (idW d.P) n1 _ HIW.out (HM.out.tree.below HBW.out) HNO.out HPU.out HN1.out).mono ?_
       rintro e wd13 ⟨⟨kb, ub, nk2, fk2, rfl, hto⟩, hbA⟩
       have HTR := Lib.hid hto.tree
       clear hto
       replace HBW := Lib.hid (bstep HBW.out hbA); clear hbA; go_simp
       refine hK.out _ _ (KW.out _ HBW.out) (fun _ => ?_); clear hK K
       refine Tr.take_at 14 52 (.tuple #[.agg #[.map (some kb), .map (some ub)], .int .i64 0]) rfl rfl (by kernel_rfl) (by kernel_rfl) (by kernel_rfl) (fun _ _ _ h => h) (Or.inl ⟨by rfl, ?_⟩) (by assumption) ?_
       ·
        intro W0 hSw
        (try dsimp only at hSw)
        go_simp
       simp only [List.set_cons_zero, List.set_cons_succ]
       refine Tr.take_at 15 67 (.agg #[.map (some kb), .map (some ub)]) rfl rfl (by kernel_rfl) (by kernel_rfl) (by kernel_rfl) (fun _ _ _ h => h) (Or.inl ⟨by rfl, ?_⟩) (by assumption) ?_
       ·
        intro W0 hSw
        (try dsimp only at hSw)
        go_simp
       simp only [List.set_cons_zero, List.set_cons_succ]
       refine Tr.take_at 16 68 (.int .i64 0) rfl rfl (by kernel_rfl) (by kernel_rfl) (by kernel_rfl) (fun _ _ _ h => h) (Or.inl ⟨by rfl, ?_⟩) (by assumption) ?_
       ·
        intro W0 hSw
        (try dsimp only at hSw)
        go_simp
       simp only [List.set_cons_zero, List.set_cons_succ]
       refine wpAnyH_ready (rs := [17]) (by kernel_rfl) (by simp) ?_
       refine AllReadyH.cons rfl (fun K hK => ?_) AllReadyH.nil; go_simp
       have KA17 := Lib.hid (show Blk (wd13.alloc (.cells #[.map none, .map none] 37)) (wd13.heap.size) 37 #[.map none, .map none] from Blk.new wd13 37 #[.map none, .map none])
       have HL17 := Lib.hid (show X1.heap.size ≤ wd13.heap.size from HBW.out.size)
       have hbA : Below wd13.heap.size wd13 ((wd13.alloc (.cells #[.map none, .map none] 37))) := bal (bre wd13) (.cells #[.map none, .map none] 37)
       replace HBW := Lib.hid (bstep HBW.out hbA)
       replace HTR := Lib.hid (HTR.out.below hbA); clear hbA
       refine hK.out _ _ (KW.out _ HBW.out) (fun _ => ?_); clear hK K
       refine wpAnyH_ready (rs := [18]) (by kernel_rfl) (by simp) ?_
       refine AllReadyH.cons rfl (fun K hK => ?_) AllReadyH.nil
       refine Tr.wanted_plain rfl ?_
       refine store_mid0 rfl 37 _ _ rfl (wd13.heap.size) 0 #[.map (some kb), .map (some ub)] (by rfl) (by rfl) (by have h := there_blk KA17.out; exact h) Tryz.sizeTr (by simp [Value.oneCell']) ?_
       have xK := blk_puts2 (.map (some kb)) (.map (some ub)) KA17.out
       have xB := bsets HBW.out HL17.out (#[.map (some kb), .map (some ub)] : Array Value).toList 0
       have xHTR := (show TreeIs (World.setCells (wd13.alloc (.cells #[.map none, .map none] 37)) (wd13.heap.size) 0 (#[.map (some kb), .map (some ub)] : Array Value).toList) _ _ _ _ _ _ from (HTR.out.setBlk KA17.out (maps_no _ _) 0 (.map (some kb))).setBlk (KA17.out.set_ 0 (.map (some kb))) (maps_no _ _) 1 (.map (some ub)))
       obtain ⟨wS18, hwS⟩ : ∃ wS, World.setCells (wd13.alloc (.cells #[.map none, .map none] 37)) (wd13.heap.size) 0 (#[.map (some kb), .map (some ub)] : Array Value).toList = wS := ⟨_, rfl⟩
       rw [hwS] at xK xB xHTR ⊢
       replace HBW := Lib.hid xB
       replace KA17 := Lib.hid xK
       replace HTR := Lib.hid xHTR
       clear hwS xK xB xHTR
       refine hK.out _ _ (KW.out _ HBW.out) (fun _ => ?_); clear hK K
       refine Tr.take_at 19 13 (.int .i64 0) rfl rfl (by kernel_rfl) (by kernel_rfl) (by kernel_rfl) (fun _ _ _ h => h) (Or.inl ⟨by rfl, ?_⟩) (by assumption) ?_
       ·
        intro W0 hSw
        (try dsimp only at hSw)
        go_simp
       simp only [List.set_cons_zero, List.set_cons_succ]
       refine wpAnyH_done (by kernel_rfl) ?_ _
       refine NoPanic.normal ?_
       go_wp2_with fail
       go_meet
       exact ⟨_, kb, ub, nk2, fk2, rfl, rfl, KA17.out, HTR.out, HBW.out⟩
      ·
       go_simp
       have KA17 := Lib.hid (show Blk (wd10.alloc (.cells #[.map none, .map none] 37)) (wd10.heap.size) 37 #[.map none, .map none] from Blk.new wd10 37 #[.map none, .map none])
       have HL17 := Lib.hid (show X1.heap.size ≤ wd10.heap.size from HBW.out.size)
       have hbA : Below wd10.heap.size wd10 ((wd10.alloc (.cells #[.map none, .map none] 37))) := bal (bre wd10) (.cells #[.map none, .map none] 37)
       replace HBW := Lib.hid (bstep HBW.out hbA); clear hbA
       refine hK.out _ _ (KW.out _ HBW.out) (fun _ => ?_); clear hK K
       refine wpAnyH_ready (rs := [13]) (by kernel_rfl) (by simp) ?_
       refine AllReadyH.cons rfl (fun K hK => ?_) AllReadyH.nil; go_simp
       refine (tplace_any _ (nodesW l) mk mu nk fk (idW (k : Int)) (idW d.P) n1 _ HIW.out (HM.out.tree.below HBW.out) HNO.out HPU.out HN1.out).mono ?_
       rintro e wd13 ⟨⟨kb, ub, nk2, fk2, rfl, hto⟩, hbA⟩
       have HTR := Lib.hid hto.tree
       clear hto
       replace HBW := Lib.hid (bstep HBW.out hbA)
       replace KA17 := Lib.hid (KA17.out.belowS hbA); clear hbA; go_simp
       refine hK.out _ _ (KW.out _ HBW.out) (fun _ => ?_); clear hK K
       refine Tr.take_at 14 52 (.tuple #[.agg #[.map (some kb), .map (some ub)], .int .i64 0]) rfl rfl (by kernel_rfl) (by kernel_rfl) (by kernel_rfl) (fun _ _ _ h => h) (Or.inl ⟨by rfl, ?_⟩) (by assumption) ?_
       ·
        intro W0 hSw
        (try dsimp only at hSw)
        go_simp
       simp only [List.set_cons_zero, List.set_cons_succ]
       refine Tr.take_at 15 67 (.agg #[.map (some kb), .map (some ub)]) rfl rfl (by kernel_rfl) (by kernel_rfl) (by kernel_rfl) (fun _ _ _ h => h) (Or.inl ⟨by rfl, ?_⟩) (by assumption) ?_
       ·
        intro W0 hSw
        (try dsimp only at hSw)
        go_simp
       simp only [List.set_cons_zero, List.set_cons_succ]
       refine Tr.take_at 16 68 (.int .i64 0) rfl rfl (by kernel_rfl) (by kernel_rfl) (by kernel_rfl) (fun _ _ _ h => h) (Or.inl ⟨by rfl, ?_⟩) (by assumption) ?_
       ·
        intro W0 hSw
        (try dsimp only at hSw)
        go_simp
       simp only [List.set_cons_zero, List.set_cons_succ]
       refine wpAnyH_ready (rs := [18]) (by kernel_rfl) (by simp) ?_
       refine AllReadyH.cons rfl (fun K hK => ?_) AllReadyH.nil
       refine Tr.wanted_plain rfl ?_
       refine store_mid0 rfl 37 _ _ rfl (wd10.heap.size) 0 #[.map (some kb), .map (some ub)] (by rfl) (by rfl) (by have h := there_blk KA17.out; exact h) Tryz.sizeTr (by simp [Value.oneCell']) ?_
       have xK := blk_puts2 (.map (some kb)) (.map (some ub)) KA17.out
       have xB := bsets HBW.out HL17.out (#[.map (some kb), .map (some ub)] : Array Value).toList 0
       have xHTR := (show TreeIs (World.setCells (wd13) (wd10.heap.size) 0 (#[.map (some kb), .map (some ub)] : Array Value).toList) _ _ _ _ _ _ from (HTR.out.setBlk KA17.out (maps_no _ _) 0 (.map (some kb))).setBlk (KA17.out.set_ 0 (.map (some kb))) (maps_no _ _) 1 (.map (some ub)))
       obtain ⟨wS18, hwS⟩ : ∃ wS, World.setCells wd13 (wd10.heap.size) 0 (#[.map (some kb), .map (some ub)] : Array Value).toList = wS := ⟨_, rfl⟩
       rw [hwS] at xK xB xHTR ⊢
       replace HBW := Lib.hid xB
       replace KA17 := Lib.hid xK
       replace HTR := Lib.hid xHTR
       clear hwS xK xB xHTR
       refine hK.out _ _ (KW.out _ HBW.out) (fun _ => ?_); clear hK K
       refine Tr.take_at 19 13 (.int .i64 0) rfl rfl (by kernel_rfl) (by kernel_rfl) (by kernel_rfl) (fun _ _ _ h => h) (Or.inl ⟨by rfl, ?_⟩) (by assumption) ?_
       ·
        intro W0 hSw
        (try dsimp only at hSw)
        go_simp
       simp only [List.set_cons_zero, List.set_cons_succ]
       refine wpAnyH_done (by kernel_rfl) ?_ _
       refine NoPanic.normal ?_
       go_wp2_with fail
       go_meet
       exact ⟨_, kb, ub, nk2, fk2, rfl, rfl, KA17.out, HTR.out, HBW.out⟩
     ·
      go_simp
      have KA17 := Lib.hid (show Blk (wd9.alloc (.cells #[.map none, .map none] 37)) (wd9.heap.size) 37 #[.map none, .map none] from Blk.new wd9 37 #[.map none, .map none])
      have HL17 := Lib.hid (show X1.heap.size ≤ wd9.heap.size from HBW.out.size)
      have hbA : Below wd9.heap.size wd9 ((wd9.alloc (.cells #[.map none, .map none] 37))) := bal (bre wd9) (.cells #[.map none, .map none] 37)
      replace HBW := Lib.hid (bstep HBW.out hbA); clear hbA
      refine hK.out _ _ (KW.out _ HBW.out) (fun _ => ?_); clear hK K
      refine wpAnyH_ready (rs := [10]) (by kernel_rfl) (by simp) ?_
      refine AllReadyH.cons rfl (fun K hK => ?_) AllReadyH.nil; go_simp
      refine (kids_any _ (nodesW l) mk mu nk fk (idW d.P) _ HIP.out (HM.out.tree.below HBW.out)).mono ?_
      rw [HKN.out]
      rintro e wd10 ⟨u10, rfl, ho10, hbA⟩
      obtain ⟨A10, c10, rfl, _⟩ := own_form ho10
      clear ho10
      replace HBW := Lib.hid (bstep HBW.out hbA)
      replace KA17 := Lib.hid (KA17.out.belowS hbA); clear hbA; go_simp
      refine hK.out _ _ (KW.out _ HBW.out) (fun _ => ?_); clear hK K
      refine Tr.take_at 11 64 (.int .i64 kn) rfl rfl (by kernel_rfl) (by kernel_rfl) (by kernel_rfl) (fun _ _ _ h => h) (Or.inl ⟨by rfl, ?_⟩) (by assumption) ?_
      ·
       intro W0 hSw
       (try dsimp only at hSw)
       go_simp
      simp only [List.set_cons_zero, List.set_cons_succ]
      refine Tr.take_at 12 65 (.int .i64 n1) rfl rfl (by kernel_rfl) (by kernel_rfl) (by kernel_rfl) (fun _ _ _ h => h) (Or.inl ⟨by rfl, ?_⟩) (by assumption) ?_
      ·
       intro W0 hSw
       (try dsimp only at hSw)
       go_simp
      simp only [List.set_cons_zero, List.set_cons_succ]
      refine wpAnyH_ready (rs := [13]) (by kernel_rfl) (by simp) ?_
      refine AllReadyH.cons rfl (fun K hK => ?_) AllReadyH.nil; go_simp
      refine (tplace_any _ (nodesW l) mk mu nk fk (idW (k : Int)) (idW d.P) n1 _ HIW.out (HM.out.tree.below HBW.out) HNO.out HPU.out HN1.out).mono ?_
      rintro e wd13 ⟨⟨kb, ub, nk2, fk2, rfl, hto⟩, hbA⟩
      have HTR := Lib.hid hto.tree
      clear hto
      replace HBW := Lib.hid (bstep HBW.out hbA)
      replace KA17 := Lib.hid (KA17.out.belowS hbA); clear hbA; go_simp
      refine hK.out _ _ (KW.out _ HBW.out) (fun _ => ?_); clear hK K
      refine Tr.take_at 14 52 (.tuple #[.agg #[.map (some kb), .map (some ub)], .int .i64 0]) rfl rfl (by kernel_rfl) (by kernel_rfl) (by kernel_rfl) (fun _ _ _ h => h) (Or.inl ⟨by rfl, ?_⟩) (by assumption) ?_
      ·
       intro W0 hSw
       (try dsimp only at hSw)
       go_simp
      simp only [List.set_cons_zero, List.set_cons_succ]
      refine Tr.take_at 15 67 (.agg #[.map (some kb), .map (some ub)]) rfl rfl (by kernel_rfl) (by kernel_rfl) (by kernel_rfl) (fun _ _ _ h => h) (Or.inl ⟨by rfl, ?_⟩) (by assumption) ?_
      ·
       intro W0 hSw
       (try dsimp only at hSw)
       go_simp
      simp only [List.set_cons_zero, List.set_cons_succ]
      refine Tr.take_at 16 68 (.int .i64 0) rfl rfl (by kernel_rfl) (by kernel_rfl) (by kernel_rfl) (fun _ _ _ h => h) (Or.inl ⟨by rfl, ?_⟩) (by assumption) ?_
      ·
       intro W0 hSw
       (try dsimp only at hSw)
       go_simp
      simp only [List.set_cons_zero, List.set_cons_succ]
      refine wpAnyH_ready (rs := [18]) (by kernel_rfl) (by simp) ?_
      refine AllReadyH.cons rfl (fun K hK => ?_) AllReadyH.nil
      refine Tr.wanted_plain rfl ?_
      refine store_mid0 rfl 37 _ _ rfl (wd9.heap.size) 0 #[.map (some kb), .map (some ub)] (by rfl) (by rfl) (by have h := there_blk KA17.out; exact h) Tryz.sizeTr (by simp [Value.oneCell']) ?_
      have xK := blk_puts2 (.map (some kb)) (.map (some ub)) KA17.out
      have xB := bsets HBW.out HL17.out (#[.map (some kb), .map (some ub)] : Array Value).toList 0
      have xHTR := (show TreeIs (World.setCells (wd13) (wd9.heap.size) 0 (#[.map (some kb), .map (some ub)] : Array Value).toList) _ _ _ _ _ _ from (HTR.out.setBlk KA17.out (maps_no _ _) 0 (.map (some kb))).setBlk (KA17.out.set_ 0 (.map (some kb))) (maps_no _ _) 1 (.map (some ub)))
      obtain ⟨wS18, hwS⟩ : ∃ wS, World.setCells wd13 (wd9.heap.size) 0 (#[.map (some kb), .map (some ub)] : Array Value).toList = wS := ⟨_, rfl⟩
      rw [hwS] at xK xB xHTR ⊢
      replace HBW := Lib.hid xB
      replace KA17 := Lib.hid xK
      replace HTR := Lib.hid xHTR
      clear hwS xK xB xHTR
      refine hK.out _ _ (KW.out _ HBW.out) (fun _ => ?_); clear hK K
      refine Tr.take_at 19 13 (.int .i64 0) rfl rfl (by kernel_rfl) (by kernel_rfl) (by kernel_rfl) (fun _ _ _ h => h) (Or.inl ⟨by rfl, ?_⟩) (by assumption) ?_
      ·
       intro W0 hSw
       (try dsimp only at hSw)
       go_simp
      simp only [List.set_cons_zero, List.set_cons_succ]
      refine wpAnyH_done (by kernel_rfl) ?_ _
      refine NoPanic.normal ?_
      go_wp2_with fail
      go_meet
      exact ⟨_, kb, ub, nk2, fk2, rfl, rfl, KA17.out, HTR.out, HBW.out⟩
    ·
     go_simp
     have KA17 := Lib.hid (show Blk (wd2.alloc (.cells #[.map none, .map none] 37)) (wd2.heap.size) 37 #[.map none, .map none] from Blk.new wd2 37 #[.map none, .map none])
     have HL17 := Lib.hid (show X1.heap.size ≤ wd2.heap.size from HBW.out.size)
     have hbA : Below wd2.heap.size wd2 ((wd2.alloc (.cells #[.map none, .map none] 37))) := bal (bre wd2) (.cells #[.map none, .map none] 37)
     replace HBW := Lib.hid (bstep HBW.out hbA); clear hbA
     refine hK.out _ _ (KW.out _ HBW.out) (fun _ => ?_); clear hK K
     refine wpAnyH_ready (rs := [9]) (by kernel_rfl) (by simp) ?_
     refine AllReadyH.cons rfl (fun K hK => ?_) AllReadyH.nil; go_simp
     refine (id_b (d.P) _ hidp).mono ?_
     rintro e wd9 ⟨rfl, hbA⟩
     replace HBW := Lib.hid (bstep HBW.out hbA)
     replace KA17 := Lib.hid (KA17.out.belowS hbA); clear hbA; go_simp
     refine hK.out _ _ (KW.out _ HBW.out) (fun _ => ?_); clear hK K
     refine wpAnyH_ready (rs := [10]) (by kernel_rfl) (by simp) ?_
     refine AllReadyH.cons rfl (fun K hK => ?_) AllReadyH.nil; go_simp
     refine (kids_any _ (nodesW l) mk mu nk fk (idW d.P) _ HIP.out (HM.out.tree.below HBW.out)).mono ?_
     rw [HKN.out]
     rintro e wd10 ⟨u10, rfl, ho10, hbA⟩
     obtain ⟨A10, c10, rfl, _⟩ := own_form ho10
     clear ho10
     replace HBW := Lib.hid (bstep HBW.out hbA)
     replace KA17 := Lib.hid (KA17.out.belowS hbA); clear hbA; go_simp
     refine hK.out _ _ (KW.out _ HBW.out) (fun _ => ?_); clear hK K
     refine Tr.take_at 11 64 (.int .i64 kn) rfl rfl (by kernel_rfl) (by kernel_rfl) (by kernel_rfl) (fun _ _ _ h => h) (Or.inl ⟨by rfl, ?_⟩) (by assumption) ?_
     ·
      intro W0 hSw
      (try dsimp only at hSw)
      go_simp
     simp only [List.set_cons_zero, List.set_cons_succ]
     refine Tr.take_at 12 65 (.int .i64 n1) rfl rfl (by kernel_rfl) (by kernel_rfl) (by kernel_rfl) (fun _ _ _ h => h) (Or.inl ⟨by rfl, ?_⟩) (by assumption) ?_
     ·
      intro W0 hSw
      (try dsimp only at hSw)
      go_simp
     simp only [List.set_cons_zero, List.set_cons_succ]
     refine wpAnyH_ready (rs := [13]) (by kernel_rfl) (by simp) ?_
     refine AllReadyH.cons rfl (fun K hK => ?_) AllReadyH.nil; go_simp
     refine (tplace_any _ (nodesW l) mk mu nk fk (idW (k : Int)) (idW d.P) n1 _ HIW.out (HM.out.tree.below HBW.out) HNO.out HPU.out HN1.out).mono ?_
     rintro e wd13 ⟨⟨kb, ub, nk2, fk2, rfl, hto⟩, hbA⟩
     have HTR := Lib.hid hto.tree
     clear hto
     replace HBW := Lib.hid (bstep HBW.out hbA)
     replace KA17 := Lib.hid (KA17.out.belowS hbA); clear hbA; go_simp
     refine hK.out _ _ (KW.out _ HBW.out) (fun _ => ?_); clear hK K
     refine Tr.take_at 14 52 (.tuple #[.agg #[.map (some kb), .map (some ub)], .int .i64 0]) rfl rfl (by kernel_rfl) (by kernel_rfl) (by kernel_rfl) (fun _ _ _ h => h) (Or.inl ⟨by rfl, ?_⟩) (by assumption) ?_
     ·
      intro W0 hSw
      (try dsimp only at hSw)
      go_simp
     simp only [List.set_cons_zero, List.set_cons_succ]
     refine Tr.take_at 15 67 (.agg #[.map (some kb), .map (some ub)]) rfl rfl (by kernel_rfl) (by kernel_rfl) (by kernel_rfl) (fun _ _ _ h => h) (Or.inl ⟨by rfl, ?_⟩) (by assumption) ?_
     ·
      intro W0 hSw
      (try dsimp only at hSw)
      go_simp
     simp only [List.set_cons_zero, List.set_cons_succ]
     refine Tr.take_at 16 68 (.int .i64 0) rfl rfl (by kernel_rfl) (by kernel_rfl) (by kernel_rfl) (fun _ _ _ h => h) (Or.inl ⟨by rfl, ?_⟩) (by assumption) ?_
     ·
      intro W0 hSw
      (try dsimp only at hSw)
      go_simp
     simp only [List.set_cons_zero, List.set_cons_succ]
     refine wpAnyH_ready (rs := [18]) (by kernel_rfl) (by simp) ?_
     refine AllReadyH.cons rfl (fun K hK => ?_) AllReadyH.nil
     refine Tr.wanted_plain rfl ?_
     refine store_mid0 rfl 37 _ _ rfl (wd2.heap.size) 0 #[.map (some kb), .map (some ub)] (by rfl) (by rfl) (by have h := there_blk KA17.out; exact h) Tryz.sizeTr (by simp [Value.oneCell']) ?_
     have xK := blk_puts2 (.map (some kb)) (.map (some ub)) KA17.out
     have xB := bsets HBW.out HL17.out (#[.map (some kb), .map (some ub)] : Array Value).toList 0
     have xHTR := (show TreeIs (World.setCells (wd13) (wd2.heap.size) 0 (#[.map (some kb), .map (some ub)] : Array Value).toList) _ _ _ _ _ _ from (HTR.out.setBlk KA17.out (maps_no _ _) 0 (.map (some kb))).setBlk (KA17.out.set_ 0 (.map (some kb))) (maps_no _ _) 1 (.map (some ub)))
     obtain ⟨wS18, hwS⟩ : ∃ wS, World.setCells wd13 (wd2.heap.size) 0 (#[.map (some kb), .map (some ub)] : Array Value).toList = wS := ⟨_, rfl⟩
     rw [hwS] at xK xB xHTR ⊢
     replace HBW := Lib.hid xB
     replace KA17 := Lib.hid xK
     replace HTR := Lib.hid xHTR
     clear hwS xK xB xHTR
     refine hK.out _ _ (KW.out _ HBW.out) (fun _ => ?_); clear hK K
     refine Tr.take_at 19 13 (.int .i64 0) rfl rfl (by kernel_rfl) (by kernel_rfl) (by kernel_rfl) (fun _ _ _ h => h) (Or.inl ⟨by rfl, ?_⟩) (by assumption) ?_
     ·
      intro W0 hSw
      (try dsimp only at hSw)
      go_simp
     simp only [List.set_cons_zero, List.set_cons_succ]
     refine wpAnyH_done (by kernel_rfl) ?_ _
     refine NoPanic.normal ?_
     go_wp2_with fail
     go_meet
     exact ⟨_, kb, ub, nk2, fk2, rfl, rfl, KA17.out, HTR.out, HBW.out⟩
   ·
    go_simp
    have KA17 := Lib.hid (show Blk (X1.alloc (.cells #[.map none, .map none] 37)).drew (X1.heap.size) 37 #[.map none, .map none] from Blk.new X1.drew 37 #[.map none, .map none])
    have HL17 := Lib.hid (show X1.heap.size ≤ X1.heap.size from HBW.out.size)
    have hbA : Below X1.drew.heap.size X1.drew ((X1.alloc (.cells #[.map none, .map none] 37)).drew) := bal (bre X1.drew) (.cells #[.map none, .map none] 37)
    replace HBW := Lib.hid (bstep HBW.out hbA); clear hbA
    refine hK.out _ _ (KW.out _ HBW.out) (fun _ => ?_); clear hK K
    refine wpAnyH_ready (rs := [2]) (by kernel_rfl) (by simp) ?_
    refine AllReadyH.cons rfl (fun K hK => ?_) AllReadyH.nil; go_simp
    refine (id_b (k) _ hids).mono ?_
    rintro e wd2 ⟨rfl, hbA⟩
    replace HBW := Lib.hid (bstep HBW.out hbA)
    replace KA17 := Lib.hid (KA17.out.belowS hbA); clear hbA; go_simp
    refine hK.out _ _ (KW.out _ HBW.out) (fun _ => ?_); clear hK K
    refine wpAnyH_ready (rs := [9]) (by kernel_rfl) (by simp) ?_
    refine AllReadyH.cons rfl (fun K hK => ?_) AllReadyH.nil; go_simp
    refine (id_b (d.P) _ hidp).mono ?_
    rintro e wd9 ⟨rfl, hbA⟩
    replace HBW := Lib.hid (bstep HBW.out hbA)
    replace KA17 := Lib.hid (KA17.out.belowS hbA); clear hbA; go_simp
    refine hK.out _ _ (KW.out _ HBW.out) (fun _ => ?_); clear hK K
    refine wpAnyH_ready (rs := [10]) (by kernel_rfl) (by simp) ?_
    refine AllReadyH.cons rfl (fun K hK => ?_) AllReadyH.nil; go_simp
    refine (kids_any _ (nodesW l) mk mu nk fk (idW d.P) _ HIP.out (HM.out.tree.below HBW.out)).mono ?_
    rw [HKN.out]
    rintro e wd10 ⟨u10, rfl, ho10, hbA⟩
    obtain ⟨A10, c10, rfl, _⟩ := own_form ho10
    clear ho10
    replace HBW := Lib.hid (bstep HBW.out hbA)
    replace KA17 := Lib.hid (KA17.out.belowS hbA); clear hbA; go_simp
    refine hK.out _ _ (KW.out _ HBW.out) (fun _ => ?_); clear hK K
    refine Tr.take_at 11 64 (.int .i64 kn) rfl rfl (by kernel_rfl) (by kernel_rfl) (by kernel_rfl) (fun _ _ _ h => h) (Or.inl ⟨by rfl, ?_⟩) (by assumption) ?_
    ·
     intro W0 hSw
     (try dsimp only at hSw)
     go_simp
    simp only [List.set_cons_zero, List.set_cons_succ]
    refine Tr.take_at 12 65 (.int .i64 n1) rfl rfl (by kernel_rfl) (by kernel_rfl) (by kernel_rfl) (fun _ _ _ h => h) (Or.inl ⟨by rfl, ?_⟩) (by assumption) ?_
    ·
     intro W0 hSw
     (try dsimp only at hSw)
     go_simp
    simp only [List.set_cons_zero, List.set_cons_succ]
    refine wpAnyH_ready (rs := [13]) (by kernel_rfl) (by simp) ?_
    refine AllReadyH.cons rfl (fun K hK => ?_) AllReadyH.nil; go_simp
    refine (tplace_any _ (nodesW l) mk mu nk fk (idW (k : Int)) (idW d.P) n1 _ HIW.out (HM.out.tree.below HBW.out) HNO.out HPU.out HN1.out).mono ?_
    rintro e wd13 ⟨⟨kb, ub, nk2, fk2, rfl, hto⟩, hbA⟩
    have HTR := Lib.hid hto.tree
    clear hto
    replace HBW := Lib.hid (bstep HBW.out hbA)
    replace KA17 := Lib.hid (KA17.out.belowS hbA); clear hbA; go_simp
    refine hK.out _ _ (KW.out _ HBW.out) (fun _ => ?_); clear hK K
    refine Tr.take_at 14 52 (.tuple #[.agg #[.map (some kb), .map (some ub)], .int .i64 0]) rfl rfl (by kernel_rfl) (by kernel_rfl) (by kernel_rfl) (fun _ _ _ h => h) (Or.inl ⟨by rfl, ?_⟩) (by assumption) ?_
    ·
     intro W0 hSw
     (try dsimp only at hSw)
     go_simp
    simp only [List.set_cons_zero, List.set_cons_succ]
    refine Tr.take_at 15 67 (.agg #[.map (some kb), .map (some ub)]) rfl rfl (by kernel_rfl) (by kernel_rfl) (by kernel_rfl) (fun _ _ _ h => h) (Or.inl ⟨by rfl, ?_⟩) (by assumption) ?_
    ·
     intro W0 hSw
     (try dsimp only at hSw)
     go_simp
    simp only [List.set_cons_zero, List.set_cons_succ]
    refine Tr.take_at 16 68 (.int .i64 0) rfl rfl (by kernel_rfl) (by kernel_rfl) (by kernel_rfl) (fun _ _ _ h => h) (Or.inl ⟨by rfl, ?_⟩) (by assumption) ?_
    ·
     intro W0 hSw
     (try dsimp only at hSw)
     go_simp
    simp only [List.set_cons_zero, List.set_cons_succ]
    refine wpAnyH_ready (rs := [18]) (by kernel_rfl) (by simp) ?_
    refine AllReadyH.cons rfl (fun K hK => ?_) AllReadyH.nil
    refine Tr.wanted_plain rfl ?_
    refine store_mid0 rfl 37 _ _ rfl (X1.heap.size) 0 #[.map (some kb), .map (some ub)] (by rfl) (by rfl) (by have h := there_blk KA17.out; exact h) Tryz.sizeTr (by simp [Value.oneCell']) ?_
    have xK := blk_puts2 (.map (some kb)) (.map (some ub)) KA17.out
    have xB := bsets HBW.out HL17.out (#[.map (some kb), .map (some ub)] : Array Value).toList 0
    have xHTR := (show TreeIs (World.setCells (wd13) (X1.heap.size) 0 (#[.map (some kb), .map (some ub)] : Array Value).toList) _ _ _ _ _ _ from (HTR.out.setBlk KA17.out (maps_no _ _) 0 (.map (some kb))).setBlk (KA17.out.set_ 0 (.map (some kb))) (maps_no _ _) 1 (.map (some ub)))
    obtain ⟨wS18, hwS⟩ : ∃ wS, World.setCells wd13 (X1.heap.size) 0 (#[.map (some kb), .map (some ub)] : Array Value).toList = wS := ⟨_, rfl⟩
    rw [hwS] at xK xB xHTR ⊢
    replace HBW := Lib.hid xB
    replace KA17 := Lib.hid xK
    replace HTR := Lib.hid xHTR
    clear hwS xK xB xHTR
    refine hK.out _ _ (KW.out _ HBW.out) (fun _ => ?_); clear hK K
    refine Tr.take_at 19 13 (.int .i64 0) rfl rfl (by kernel_rfl) (by kernel_rfl) (by kernel_rfl) (fun _ _ _ h => h) (Or.inl ⟨by rfl, ?_⟩) (by assumption) ?_
    ·
     intro W0 hSw
     (try dsimp only at hSw)
     go_simp
    simp only [List.set_cons_zero, List.set_cons_succ]
    refine wpAnyH_done (by kernel_rfl) ?_ _
    refine NoPanic.normal ?_
    go_wp2_with fail
    go_meet
    exact ⟨_, kb, ub, nk2, fk2, rfl, rfl, KA17.out, HTR.out, HBW.out⟩
 obtain ⟨g12, kb, ub, nk2, fk2, rfl, rfl, hk12, ht2, hbc⟩ := hcut
 have K12 := Lib.hid hk12
 have HT2 := Lib.hid ht2
 replace HB := Lib.hid (bstep HB.out hbc)
 replace KT := Lib.hid (KT.out.belowS hbc)
 replace KP := Lib.hid (KP.out.belowS hbc)
 replace HM := Lib.hid (HM.out.below hbc)
 replace HL := Lib.hid (HL.out.below hbc)
 clear hk12 ht2 hbc tw hknl HQ8 HN1 HKN
 obtain ⟨Y2, hY2⟩ : ∃ Z, Z = wc := ⟨_, rfl⟩
 subst hY2
 go_upto_region 12 with fail
 go_cut [14, 15] (fun s15 s16 wx => ∃ (g1 g2 : Nat) (A1 : Option Addr) (n1 c1 : Nat) (m1 : Option Nat) (A2 : Option Addr) (n2 c2 : Nat) (m2 : Option Nat) (og1 og2 : Int → Int × Int), s15 = .pointer (some ⟨g1, 0, none⟩) ∧ s16 = .pointer (some ⟨g2, 0, none⟩) ∧ Blk wx g1 52 #[.slice A1 n1 c1, .map m1] ∧ Blk wx g2 52 #[.slice A2 n2 c2, .map m2] ∧ SeenG wx (.agg #[.slice A1 n1 c1, .map m1]) RW RH (nodesW l) (bxS RW RH l) og1 ∧ SeenG wx (.agg #[.slice A2 n2 c2, .map m2]) RW RH (topmost (nodesW l) (idW (k : Int)) (idW d.P)) (bxS RW RH l) og2 ∧ Below Y2.heap.size Y2 wx)
 case first =>
  as_aux_lemma =>
   have HBW := Lib.hid (show Below Y2.heap.size Y2 Y2.drew from (bre Y2).drew)
   have KW := Lib.hid (fun (W' : World) (h : Below Y2.heap.size Y2 W') => show (fun w' => w'.cell? ⟨gt, 0, none⟩ = some (.map mk) ∧ w'.cell? ⟨gt, 1, none⟩ = some (.map mu) ∧ w'.cell? ⟨gt + 1, 0, none⟩ = some (.map mp) ∧ w'.cell? ⟨g12, 0, none⟩ = some (.map (some kb)) ∧ w'.cell? ⟨g12, 1, none⟩ = some (.map (some ub))) W' from ⟨(KT.out.belowS h).cellV (i := 0) rfl, (KT.out.belowS h).cellV (i := 1) rfl, (KP.out.belowS h).cellV (i := 0) rfl, (K12.out.belowS h).cellV (i := 0) rfl, (K12.out.belowS h).cellV (i := 1) rfl⟩)
   refine wp_region_noPanic ?_
   refine wp_region_held_drew (S := (fun w' => w'.cell? ⟨gt, 0, none⟩ = some (.map mk) ∧ w'.cell? ⟨gt, 1, none⟩ = some (.map mu) ∧ w'.cell? ⟨gt + 1, 0, none⟩ = some (.map mp) ∧ w'.cell? ⟨g12, 0, none⟩ = some (.map (some kb)) ∧ w'.cell? ⟨g12, 1, none⟩ = some (.map (some ub)))) (by kernel_rfl) ?_ (fun _ => ?_)
   ·
    (try dsimp only)
    exact ⟨(KT.out.belowS HBW.out).cellV (i := 0) rfl, (KT.out.belowS HBW.out).cellV (i := 1) rfl, (KP.out.belowS HBW.out).cellV (i := 0) rfl, (K12.out.belowS HBW.out).cellV (i := 0) rfl, (K12.out.belowS HBW.out).cellV (i := 1) rfl⟩
   refine Tr.take_at 0 71 (.agg #[.map mk, .map mu]) rfl rfl (by kernel_rfl) (by kernel_rfl) (by kernel_rfl) (fun _ _ _ h => h) (Or.inl ⟨by rfl, ?_⟩) (by assumption) ?_
   ·
    intro W0 hSw
    (try dsimp only at hSw)
    go_simp
   simp only [List.set_cons_zero, List.set_cons_succ]
   refine Tr.take_at 1 72 (.agg #[.map mp]) rfl rfl (by kernel_rfl) (by kernel_rfl) (by kernel_rfl) (fun _ _ _ h => h) (Or.inl ⟨by rfl, ?_⟩) (by assumption) ?_
   ·
    intro W0 hSw
    (try dsimp only at hSw)
    go_simp
   simp only [List.set_cons_zero, List.set_cons_succ]
   refine Tr.take_at 3 74 (.agg #[.map (some kb), .map (some ub)]) rfl rfl (by kernel_rfl) (by kernel_rfl) (by kernel_rfl) (fun _ _ _ h => h) (Or.inl ⟨by rfl, ?_⟩) (by assumption) ?_
   ·
    intro W0 hSw
    (try dsimp only at hSw)
    go_simp
   simp only [List.set_cons_zero, List.set_cons_succ]
   refine Tr.take_at 4 75 (.agg #[.map mp]) rfl rfl (by kernel_rfl) (by kernel_rfl) (by kernel_rfl) (fun _ _ _ h => h) (Or.inl ⟨by rfl, ?_⟩) (by assumption) ?_
   ·
    intro W0 hSw
    (try dsimp only at hSw)
    go_simp
   simp only [List.set_cons_zero, List.set_cons_succ]
   refine wpAnyH_ready (rs := [2, 6, 7]) (by kernel_rfl) (by simp) ?_
   refine AllReadyH.cons rfl (fun K hK => ?_) (AllReadyH.cons rfl (fun K hK => ?_) (AllReadyH.cons rfl (fun K hK => ?_) AllReadyH.nil))
   ·
    go_simp
    refine (seenG_of (RW := RW) (RH := RH) (l := l) (ns := nodesW l) (bs := bs) (fk := fk) (nk := nk) (n := l.length + 1) _ (HM.out.tree.below HBW.out) (HM.out.place.below HBW.out) (HM.out.scene.below HBW.out) HNO.out (fun _ h => h) HDW.out (HLA.out) HRR.out).mono ?_
    rintro e wc2 ⟨v1, og1, rfl, hse, hbA⟩
    obtain ⟨A1, n1, c1, m1, rfl⟩ := hse.form
    have HSE1 := Lib.hid hse
    clear hse
    replace HBW := Lib.hid (bstep HBW.out hbA); clear hbA; go_simp
    refine hK.out _ _ (KW.out _ HBW.out) (fun _ => ?_); clear hK K
    refine wpAnyH_ready (rs := [5, 6, 7]) (by kernel_rfl) (by simp) ?_
    refine AllReadyH.cons rfl (fun K hK => ?_) (AllReadyH.cons rfl (fun K hK => ?_) (AllReadyH.cons rfl (fun K hK => ?_) AllReadyH.nil))
    ·
     go_simp
     refine (seenG_of (RW := RW) (RH := RH) (l := l) (ns := topmost (nodesW l) (idW (k : Int)) (idW d.P)) (bs := bs) (fk := fk2) (nk := nk2) (n := l.length + 1) _ (HT2.out.below HBW.out) (HM.out.place.below HBW.out) (HM.out.scene.below HBW.out) HTO.out (fun j hj => by rw [topmost_has HNO.out HMM.out] at hj; exact hj) HDW.out (HLC.out) HRR.out).mono ?_
     rintro e wc5 ⟨v2, og2, rfl, hse, hbA⟩
     obtain ⟨A2, n2, c2, m2, rfl⟩ := hse.form
     have HSE2 := Lib.hid hse
     clear hse
     replace HBW := Lib.hid (bstep HBW.out hbA)
     replace HSE1 := Lib.hid (HSE1.out.below hbA); clear hbA; go_simp
     refine hK.out _ _ (KW.out _ HBW.out) (fun _ => ?_); clear hK K
     refine wpAnyH_ready (rs := [6, 7]) (by kernel_rfl) (by simp) ?_
     refine AllReadyH.cons rfl (fun K hK => ?_) (AllReadyH.cons rfl (fun K hK => ?_) AllReadyH.nil)
     ·
      go_simp
      have KA6 := Lib.hid (show Blk (wc5.alloc (.cells #[.slice none 0 0, .map none] 52)) (wc5.heap.size) 52 #[.slice none 0 0, .map none] from Blk.new wc5 52 #[.slice none 0 0, .map none])
      have HL6 := Lib.hid (show Y2.heap.size ≤ wc5.heap.size from HBW.out.size)
      have hbA : Below wc5.heap.size wc5 ((wc5.alloc (.cells #[.slice none 0 0, .map none] 52))) := bal (bre wc5) (.cells #[.slice none 0 0, .map none] 52)
      replace HBW := Lib.hid (bstep HBW.out hbA)
      replace HSE1 := Lib.hid (HSE1.out.below hbA)
      replace HSE2 := Lib.hid (HSE2.out.below hbA); clear hbA
      refine hK.out _ _ (KW.out _ HBW.out) (fun _ => ?_); clear hK K
      refine wpAnyH_ready (rs := [7]) (by kernel_rfl) (by simp) ?_
      refine AllReadyH.cons rfl (fun K hK => ?_) AllReadyH.nil; go_simp
      have HN6_7 := Lib.hid (show wc5.heap.size ≠ wc5.heap.size + 1 from by have h := KA6.out.lt; rw [show ((wc5.alloc (.cells #[.slice none 0 0, .map none] 52))).heap.size = wc5.heap.size + 1 from (show ((wc5.alloc (.cells #[.slice none 0 0, .map none] 52))).heap.size = wc5.heap.size + 1 by simp)] at h; exact Nat.ne_of_lt h)
      have KA7 := Lib.hid (show Blk ((wc5.alloc (.cells #[.slice none 0 0, .map none] 52)).alloc (.cells #[.slice none 0 0, .map none] 52)) (wc5.heap.size + 1) 52 #[.slice none 0 0, .map none] from by have h := Blk.new ((wc5.alloc (.cells #[.slice none 0 0, .map none] 52))) 52 #[.slice none 0 0, .map none]; rw [show ((wc5.alloc (.cells #[.slice none 0 0, .map none] 52))).heap.size = wc5.heap.size + 1 from (show ((wc5.alloc (.cells #[.slice none 0 0, .map none] 52))).heap.size = wc5.heap.size + 1 by simp)] at h; exact h)
      have HL7 := Lib.hid (show Y2.heap.size ≤ wc5.heap.size + 1 from by have h := HBW.out.size; rw [show ((wc5.alloc (.cells #[.slice none 0 0, .map none] 52))).heap.size = wc5.heap.size + 1 from (show ((wc5.alloc (.cells #[.slice none 0 0, .map none] 52))).heap.size = wc5.heap.size + 1 by simp)] at h; exact h)
      have hbA : Below (wc5.alloc (.cells #[.slice none 0 0, .map none] 52)).heap.size (wc5.alloc (.cells #[.slice none 0 0, .map none] 52)) (((wc5.alloc (.cells #[.slice none 0 0, .map none] 52)).alloc (.cells #[.slice none 0 0, .map none] 52))) := bal (bre (wc5.alloc (.cells #[.slice none 0 0, .map none] 52))) (.cells #[.slice none 0 0, .map none] 52)
      replace HBW := Lib.hid (bstep HBW.out hbA)
      replace KA6 := Lib.hid (KA6.out.belowS hbA)
      replace HSE1 := Lib.hid (HSE1.out.below hbA)
      replace HSE2 := Lib.hid (HSE2.out.below hbA); clear hbA
      refine hK.out _ _ (KW.out _ HBW.out) (fun _ => ?_); clear hK K
      refine wpAnyH_ready (rs := [8]) (by kernel_rfl) (by simp) ?_
      refine AllReadyH.cons rfl (fun K hK => ?_) AllReadyH.nil
      refine Tr.wanted_plain rfl ?_
      refine store_mid0 rfl 52 _ _ rfl (wc5.heap.size) 0 #[.slice A1 n1 c1, .map m1] (by rfl) (by rfl) (by have h := there_blk KA6.out; exact h) Tryz.sizeVx (by simp [Value.oneCell']) ?_
      have xK := blk_puts2 (.slice A1 n1 c1) (.map m1) KA6.out
      have xB := bsets HBW.out HL6.out (#[.slice A1 n1 c1, .map m1] : Array Value).toList 0
      have xA7 := KA7.out.farCells (HN6_7.out.symm) (#[.slice A1 n1 c1, .map m1] : Array Value).toList 0
      have xHSE1 := (HSE1.out.putS KA6.out A1 n1 c1 m1)
      have xHSE2 := (HSE2.out.putS KA6.out A1 n1 c1 m1)
      obtain ⟨wS8, hwS⟩ : ∃ wS, World.setCells ((wc5.alloc (.cells #[.slice none 0 0, .map none] 52)).alloc (.cells #[.slice none 0 0, .map none] 52)) (wc5.heap.size) 0 (#[.slice A1 n1 c1, .map m1] : Array Value).toList = wS := ⟨_, rfl⟩
      rw [hwS] at xK xB xA7 xHSE1 xHSE2 ⊢
      replace HBW := Lib.hid xB
      replace KA6 := Lib.hid xK
      replace KA7 := Lib.hid xA7
      replace HSE1 := Lib.hid xHSE1
      replace HSE2 := Lib.hid xHSE2
      clear hwS xK xB xA7 xHSE1 xHSE2
      refine hK.out _ _ (KW.out _ HBW.out) (fun _ => ?_); clear hK K
      refine wpAnyH_ready (rs := [9]) (by kernel_rfl) (by simp) ?_
      refine AllReadyH.cons rfl (fun K hK => ?_) AllReadyH.nil
      refine Tr.wanted_plain rfl ?_
      refine store_mid0 rfl 52 _ _ rfl (wc5.heap.size + 1) 0 #[.slice A2 n2 c2, .map m2] (by rfl) (by rfl) (by have h := there_blk KA7.out; exact h) Tryz.sizeVx (by simp [Value.oneCell']) ?_
      have xK := blk_puts2 (.slice A2 n2 c2) (.map m2) KA7.out
      have xB := bsets HBW.out HL7.out (#[.slice A2 n2 c2, .map m2] : Array Value).toList 0
      have xA6 := KA6.out.farCells (HN6_7.out) (#[.slice A2 n2 c2, .map m2] : Array Value).toList 0
      have xHSE1 := (HSE1.out.putS KA7.out A2 n2 c2 m2)
      have xHSE2 := (HSE2.out.putS KA7.out A2 n2 c2 m2)
      obtain ⟨wS9, hwS⟩ : ∃ wS, World.setCells wS8 (wc5.heap.size + 1) 0 (#[.slice A2 n2 c2, .map m2] : Array Value).toList = wS := ⟨_, rfl⟩
      rw [hwS] at xK xB xA6 xHSE1 xHSE2 ⊢
      replace HBW := Lib.hid xB
      replace KA7 := Lib.hid xK
      replace KA6 := Lib.hid xA6
      replace HSE1 := Lib.hid xHSE1
      replace HSE2 := Lib.hid xHSE2
      clear hwS xK xB xA6 xHSE1 xHSE2
      refine hK.out _ _ (KW.out _ HBW.out) (fun _ => ?_); clear hK K
      refine wpAnyH_done (by kernel_rfl) ?_ _
      refine NoPanic.normal ?_
      go_wp2_with fail
      go_meet
      exact ⟨_, _, A1, n1, c1, m1, A2, n2, c2, m2, og1, og2, rfl, rfl, KA6.out, KA7.out, HSE1.out, HSE2.out, HBW.out⟩
     ·
      go_simp
      have KA7 := Lib.hid (show Blk (wc5.alloc (.cells #[.slice none 0 0, .map none] 52)) (wc5.heap.size) 52 #[.slice none 0 0, .map none] from Blk.new wc5 52 #[.slice none 0 0, .map none])
      have HL7 := Lib.hid (show Y2.heap.size ≤ wc5.heap.size from HBW.out.size)
      have hbA : Below wc5.heap.size wc5 ((wc5.alloc (.cells #[.slice none 0 0, .map none] 52))) := bal (bre wc5) (.cells #[.slice none 0 0, .map none] 52)
      replace HBW := Lib.hid (bstep HBW.out hbA)
      replace HSE1 := Lib.hid (HSE1.out.below hbA)
      replace HSE2 := Lib.hid (HSE2.out.below hbA); clear hbA
      refine hK.out _ _ (KW.out _ HBW.out) (fun _ => ?_); clear hK K
      refine wpAnyH_ready (rs := [6]) (by kernel_rfl) (by simp) ?_
      refine AllReadyH.cons rfl (fun K hK => ?_) AllReadyH.nil; go_simp
      have HN7_6 := Lib.hid (show wc5.heap.size ≠ wc5.heap.size + 1 from by have h := KA7.out.lt; rw [show ((wc5.alloc (.cells #[.slice none 0 0, .map none] 52))).heap.size = wc5.heap.size + 1 from (show ((wc5.alloc (.cells #[.slice none 0 0, .map none] 52))).heap.size = wc5.heap.size + 1 by simp)] at h; exact Nat.ne_of_lt h)
      have KA6 := Lib.hid (show Blk ((wc5.alloc (.cells #[.slice none 0 0, .map none] 52)).alloc (.cells #[.slice none 0 0, .map none] 52)) (wc5.heap.size + 1) 52 #[.slice none 0 0, .map none] from by have h := Blk.new ((wc5.alloc (.cells #[.slice none 0 0, .map none] 52))) 52 #[.slice none 0 0, .map none]; rw [show ((wc5.alloc (.cells #[.slice none 0 0, .map none] 52))).heap.size = wc5.heap.size + 1 from (show ((wc5.alloc (.cells #[.slice none 0 0, .map none] 52))).heap.size = wc5.heap.size + 1 by simp)] at h; exact h)
      have HL6 := Lib.hid (show Y2.heap.size ≤ wc5.heap.size + 1 from by have h := HBW.out.size; rw [show ((wc5.alloc (.cells #[.slice none 0 0, .map none] 52))).heap.size = wc5.heap.size + 1 from (show ((wc5.alloc (.cells #[.slice none 0 0, .map none] 52))).heap.size = wc5.heap.size + 1 by simp)] at h; exact h)
      have hbA : Below (wc5.alloc (.cells #[.slice none 0 0, .map none] 52)).heap.size (wc5.alloc (.cells #[.slice none 0 0, .map none] 52)) (((wc5.alloc (.cells #[.slice none 0 0, .map none] 52)).alloc (.cells #[.slice none 0 0, .map none] 52))) := bal (bre (wc5.alloc (.cells #[.slice none 0 0, .map none] 52))) (.cells #[.slice none 0 0, .map none] 52)
      replace HBW := Lib.hid (bstep HBW.out hbA)
      replace KA7 := Lib.hid (KA7.out.belowS hbA)
      replace HSE1 := Lib.hid (HSE1.out.below hbA)
      replace HSE2 := Lib.hid (HSE2.out.below hbA); clear hbA
      refine hK.out _ _ (KW.out _ HBW.out) (fun _ => ?_); clear hK K
      refine wpAnyH_ready (rs := [8]) (by kernel_rfl) (by simp) ?_
      refine AllReadyH.cons rfl (fun K hK => ?_) AllReadyH.nil
      refine Tr.wanted_plain rfl ?_
      refine store_mid0 rfl 52 _ _ rfl (wc5.heap.size + 1) 0 #[.slice A1 n1 c1, .map m1] (by rfl) (by rfl) (by have h := there_blk KA6.out; exact h) Tryz.sizeVx (by simp [Value.oneCell']) ?_
      have xK := blk_puts2 (.slice A1 n1 c1) (.map m1) KA6.out
      have xB := bsets HBW.out HL6.out (#[.slice A1 n1 c1, .map m1] : Array Value).toList 0
      have xA7 := KA7.out.farCells (HN7_6.out) (#[.slice A1 n1 c1, .map m1] : Array Value).toList 0
      have xHSE1 := (HSE1.out.putS KA6.out A1 n1 c1 m1)
      have xHSE2 := (HSE2.out.putS KA6.out A1 n1 c1 m1)
      obtain ⟨wS8, hwS⟩ : ∃ wS, World.setCells ((wc5.alloc (.cells #[.slice none 0 0, .map none] 52)).alloc (.cells #[.slice none 0 0, .map none] 52)) (wc5.heap.size + 1) 0 (#[.slice A1 n1 c1, .map m1] : Array Value).toList = wS := ⟨_, rfl⟩
      rw [hwS] at xK xB xA7 xHSE1 xHSE2 ⊢
      replace HBW := Lib.hid xB
      replace KA6 := Lib.hid xK
      replace KA7 := Lib.hid xA7
      replace HSE1 := Lib.hid xHSE1
      replace HSE2 := Lib.hid xHSE2
      clear hwS xK xB xA7 xHSE1 xHSE2
      refine hK.out _ _ (KW.out _ HBW.out) (fun _ => ?_); clear hK K
      refine wpAnyH_ready (rs := [9]) (by kernel_rfl) (by simp) ?_
      refine AllReadyH.cons rfl (fun K hK => ?_) AllReadyH.nil
      refine Tr.wanted_plain rfl ?_
      refine store_mid0 rfl 52 _ _ rfl (wc5.heap.size) 0 #[.slice A2 n2 c2, .map m2] (by rfl) (by rfl) (by have h := there_blk KA7.out; exact h) Tryz.sizeVx (by simp [Value.oneCell']) ?_
      have xK := blk_puts2 (.slice A2 n2 c2) (.map m2) KA7.out
      have xB := bsets HBW.out HL7.out (#[.slice A2 n2 c2, .map m2] : Array Value).toList 0
      have xA6 := KA6.out.farCells (HN7_6.out.symm) (#[.slice A2 n2 c2, .map m2] : Array Value).toList 0
      have xHSE1 := (HSE1.out.putS KA7.out A2 n2 c2 m2)
      have xHSE2 := (HSE2.out.putS KA7.out A2 n2 c2 m2)
      obtain ⟨wS9, hwS⟩ : ∃ wS, World.setCells wS8 (wc5.heap.size) 0 (#[.slice A2 n2 c2, .map m2] : Array Value).toList = wS := ⟨_, rfl⟩
      rw [hwS] at xK xB xA6 xHSE1 xHSE2 ⊢
      replace HBW := Lib.hid xB
      replace KA7 := Lib.hid xK
      replace KA6 := Lib.hid xA6
      replace HSE1 := Lib.hid xHSE1
      replace HSE2 := Lib.hid xHSE2
      clear hwS xK xB xA6 xHSE1 xHSE2
      refine hK.out _ _ (KW.out _ HBW.out) (fun _ => ?_); clear hK K
      refine wpAnyH_done (by kernel_rfl) ?_ _
      refine NoPanic.normal ?_
      go_wp2_with fail
      go_meet
      exact ⟨_, _, A1, n1, c1, m1, A2, n2, c2, m2, og1, og2, rfl, rfl, KA6.out, KA7.out, HSE1.out, HSE2.out, HBW.out⟩
    ·
     go_simp
     have KA6 := Lib.hid (show Blk (wc2.alloc (.cells #[.slice none 0 0, .map none] 52)) (wc2.heap.size) 52 #[.slice none 0 0, .map none] from Blk.new wc2 52 #[.slice none 0 0, .map none])
     have HL6 := Lib.hid (show Y2.heap.size ≤ wc2.heap.size from HBW.out.size)
     have hbA : Below wc2.heap.size wc2 ((wc2.alloc (.cells #[.slice none 0 0, .map none] 52))) := bal (bre wc2) (.cells #[.slice none 0 0, .map none] 52)
     replace HBW := Lib.hid (bstep HBW.out hbA)
     replace HSE1 := Lib.hid (HSE1.out.below hbA); clear hbA
     refine hK.out _ _ (KW.out _ HBW.out) (fun _ => ?_); clear hK K
     refine wpAnyH_ready (rs := [5, 7]) (by kernel_rfl) (by simp) ?_
     refine AllReadyH.cons rfl (fun K hK => ?_) (AllReadyH.cons rfl (fun K hK => ?_) AllReadyH.nil)
     ·
      go_simp
      refine (seenG_of (RW := RW) (RH := RH) (l := l) (ns := topmost (nodesW l) (idW (k : Int)) (idW d.P)) (bs := bs) (fk := fk2) (nk := nk2) (n := l.length + 1) _ (HT2.out.below HBW.out) (HM.out.place.below HBW.out) (HM.out.scene.below HBW.out) HTO.out (fun j hj => by rw [topmost_has HNO.out HMM.out] at hj; exact hj) HDW.out (HLC.out) HRR.out).mono ?_
      rintro e wc5 ⟨v2, og2, rfl, hse, hbA⟩
      obtain ⟨A2, n2, c2, m2, rfl⟩ := hse.form
      have HSE2 := Lib.hid hse
      clear hse
      replace HBW := Lib.hid (bstep HBW.out hbA)
      replace KA6 := Lib.hid (KA6.out.belowS hbA)
      replace HSE1 := Lib.hid (HSE1.out.below hbA); clear hbA; go_simp
      refine hK.out _ _ (KW.out _ HBW.out) (fun _ => ?_); clear hK K
      refine wpAnyH_ready (rs := [7]) (by kernel_rfl) (by simp) ?_
      refine AllReadyH.cons rfl (fun K hK => ?_) AllReadyH.nil; go_simp
      have HN6_7 := Lib.hid (Nat.ne_of_lt KA6.out.lt)
      have KA7 := Lib.hid (show Blk (wc5.alloc (.cells #[.slice none 0 0, .map none] 52)) (wc5.heap.size) 52 #[.slice none 0 0, .map none] from Blk.new wc5 52 #[.slice none 0 0, .map none])
      have HL7 := Lib.hid (show Y2.heap.size ≤ wc5.heap.size from HBW.out.size)
      have hbA : Below wc5.heap.size wc5 ((wc5.alloc (.cells #[.slice none 0 0, .map none] 52))) := bal (bre wc5) (.cells #[.slice none 0 0, .map none] 52)
      replace HBW := Lib.hid (bstep HBW.out hbA)
      replace KA6 := Lib.hid (KA6.out.belowS hbA)
      replace HSE1 := Lib.hid (HSE1.out.below hbA)
      replace HSE2 := Lib.hid (HSE2.out.below hbA); clear hbA
      refine hK.out _ _ (KW.out _ HBW.out) (fun _ => ?_); clear hK K
      refine wpAnyH_ready (rs := [8]) (by kernel_rfl) (by simp) ?_
      refine AllReadyH.cons rfl (fun K hK => ?_) AllReadyH.nil
      refine Tr.wanted_plain rfl ?_
      refine store_mid0 rfl 52 _ _ rfl (wc2.heap.size) 0 #[.slice A1 n1 c1, .map m1] (by rfl) (by rfl) (by have h := there_blk KA6.out; exact h) Tryz.sizeVx (by simp [Value.oneCell']) ?_
      have xK := blk_puts2 (.slice A1 n1 c1) (.map m1) KA6.out
      have xB := bsets HBW.out HL6.out (#[.slice A1 n1 c1, .map m1] : Array Value).toList 0
      have xA7 := KA7.out.farCells (HN6_7.out.symm) (#[.slice A1 n1 c1, .map m1] : Array Value).toList 0
      have xHSE1 := (HSE1.out.putS KA6.out A1 n1 c1 m1)
      have xHSE2 := (HSE2.out.putS KA6.out A1 n1 c1 m1)
      obtain ⟨wS8, hwS⟩ : ∃ wS, World.setCells (wc5.alloc (.cells #[.slice none 0 0, .map none] 52)) (wc2.heap.size) 0 (#[.slice A1 n1 c1, .map m1] : Array Value).toList = wS := ⟨_, rfl⟩
      rw [hwS] at xK xB xA7 xHSE1 xHSE2 ⊢
      replace HBW := Lib.hid xB
      replace KA6 := Lib.hid xK
      replace KA7 := Lib.hid xA7
      replace HSE1 := Lib.hid xHSE1
      replace HSE2 := Lib.hid xHSE2
      clear hwS xK xB xA7 xHSE1 xHSE2
      refine hK.out _ _ (KW.out _ HBW.out) (fun _ => ?_); clear hK K
      refine wpAnyH_ready (rs := [9]) (by kernel_rfl) (by simp) ?_
      refine AllReadyH.cons rfl (fun K hK => ?_) AllReadyH.nil
      refine Tr.wanted_plain rfl ?_
      refine store_mid0 rfl 52 _ _ rfl (wc5.heap.size) 0 #[.slice A2 n2 c2, .map m2] (by rfl) (by rfl) (by have h := there_blk KA7.out; exact h) Tryz.sizeVx (by simp [Value.oneCell']) ?_
      have xK := blk_puts2 (.slice A2 n2 c2) (.map m2) KA7.out
      have xB := bsets HBW.out HL7.out (#[.slice A2 n2 c2, .map m2] : Array Value).toList 0
      have xA6 := KA6.out.farCells (HN6_7.out) (#[.slice A2 n2 c2, .map m2] : Array Value).toList 0
      have xHSE1 := (HSE1.out.putS KA7.out A2 n2 c2 m2)
      have xHSE2 := (HSE2.out.putS KA7.out A2 n2 c2 m2)
      obtain ⟨wS9, hwS⟩ : ∃ wS, World.setCells wS8 (wc5.heap.size) 0 (#[.slice A2 n2 c2, .map m2] : Array Value).toList = wS := ⟨_, rfl⟩
      rw [hwS] at xK xB xA6 xHSE1 xHSE2 ⊢
      replace HBW := Lib.hid xB
      replace KA7 := Lib.hid xK
      replace KA6 := Lib.hid xA6
      replace HSE1 := Lib.hid xHSE1
      replace HSE2 := Lib.hid xHSE2
      clear hwS xK xB xA6 xHSE1 xHSE2
      refine hK.out _ _ (KW.out _ HBW.out) (fun _ => ?_); clear hK K
      refine wpAnyH_done (by kernel_rfl) ?_ _
      refine NoPanic.normal ?_
      go_wp2_with fail
      go_meet
      exact ⟨_, _, A1, n1, c1, m1, A2, n2, c2, m2, og1, og2, rfl, rfl, KA6.out, KA7.out, HSE1.out, HSE2.out, HBW.out⟩
     ·
      go_simp
      have HN6_7 := Lib.hid (show wc2.heap.size ≠ wc2.heap.size + 1 from by have h := KA6.out.lt; rw [show ((wc2.alloc (.cells #[.slice none 0 0, .map none] 52))).heap.size = wc2.heap.size + 1 from (show ((wc2.alloc (.cells #[.slice none 0 0, .map none] 52))).heap.size = wc2.heap.size + 1 by simp)] at h; exact Nat.ne_of_lt h)
      have KA7 := Lib.hid (show Blk ((wc2.alloc (.cells #[.slice none 0 0, .map none] 52)).alloc (.cells #[.slice none 0 0, .map none] 52)) (wc2.heap.size + 1) 52 #[.slice none 0 0, .map none] from by have h := Blk.new ((wc2.alloc (.cells #[.slice none 0 0, .map none] 52))) 52 #[.slice none 0 0, .map none]; rw [show ((wc2.alloc (.cells #[.slice none 0 0, .map none] 52))).heap.size = wc2.heap.size + 1 from (show ((wc2.alloc (.cells #[.slice none 0 0, .map none] 52))).heap.size = wc2.heap.size + 1 by simp)] at h; exact h)
      have HL7 := Lib.hid (show Y2.heap.size ≤ wc2.heap.size + 1 from by have h := HBW.out.size; rw [show ((wc2.alloc (.cells #[.slice none 0 0, .map none] 52))).heap.size = wc2.heap.size + 1 from (show ((wc2.alloc (.cells #[.slice none 0 0, .map none] 52))).heap.size = wc2.heap.size + 1 by simp)] at h; exact h)
      have hbA : Below (wc2.alloc (.cells #[.slice none 0 0, .map none] 52)).heap.size (wc2.alloc (.cells #[.slice none 0 0, .map none] 52)) (((wc2.alloc (.cells #[.slice none 0 0, .map none] 52)).alloc (.cells #[.slice none 0 0, .map none] 52))) := bal (bre (wc2.alloc (.cells #[.slice none 0 0, .map none] 52))) (.cells #[.slice none 0 0, .map none] 52)
      replace HBW := Lib.hid (bstep HBW.out hbA)
      replace KA6 := Lib.hid (KA6.out.belowS hbA)
      replace HSE1 := Lib.hid (HSE1.out.below hbA); clear hbA
      refine hK.out _ _ (KW.out _ HBW.out) (fun _ => ?_); clear hK K
      refine wpAnyH_ready (rs := [5]) (by kernel_rfl) (by simp) ?_
      refine AllReadyH.cons rfl (fun K hK => ?_) AllReadyH.nil; go_simp
      refine (seenG_of (RW := RW) (RH := RH) (l := l) (ns := topmost (nodesW l) (idW (k : Int)) (idW d.P)) (bs := bs) (fk := fk2) (nk := nk2) (n := l.length + 1) _ (HT2.out.below HBW.out) (HM.out.place.below HBW.out) (HM.out.scene.below HBW.out) HTO.out (fun j hj => by rw [topmost_has HNO.out HMM.out] at hj; exact hj) HDW.out (HLC.out) HRR.out).mono ?_
      rintro e wc5 ⟨v2, og2, rfl, hse, hbA⟩
      obtain ⟨A2, n2, c2, m2, rfl⟩ := hse.form
      have HSE2 := Lib.hid hse
      clear hse
      replace HBW := Lib.hid (bstep HBW.out hbA)
      replace KA6 := Lib.hid (KA6.out.belowS hbA)
      replace KA7 := Lib.hid (KA7.out.belowS hbA)
      replace HSE1 := Lib.hid (HSE1.out.below hbA); clear hbA; go_simp
      refine hK.out _ _ (KW.out _ HBW.out) (fun _ => ?_); clear hK K
      refine wpAnyH_ready (rs := [8]) (by kernel_rfl) (by simp) ?_
      refine AllReadyH.cons rfl (fun K hK => ?_) AllReadyH.nil
      refine Tr.wanted_plain rfl ?_
      refine store_mid0 rfl 52 _ _ rfl (wc2.heap.size) 0 #[.slice A1 n1 c1, .map m1] (by rfl) (by rfl) (by have h := there_blk KA6.out; exact h) Tryz.sizeVx (by simp [Value.oneCell']) ?_
      have xK := blk_puts2 (.slice A1 n1 c1) (.map m1) KA6.out
      have xB := bsets HBW.out HL6.out (#[.slice A1 n1 c1, .map m1] : Array Value).toList 0
      have xA7 := KA7.out.farCells (HN6_7.out.symm) (#[.slice A1 n1 c1, .map m1] : Array Value).toList 0
      have xHSE1 := (HSE1.out.putS KA6.out A1 n1 c1 m1)
      have xHSE2 := (HSE2.out.putS KA6.out A1 n1 c1 m1)
      obtain ⟨wS8, hwS⟩ : ∃ wS, World.setCells wc5 (wc2.heap.size) 0 (#[.slice A1 n1 c1, .map m1] : Array Value).toList = wS := ⟨_, rfl⟩
      rw [hwS] at xK xB xA7 xHSE1 xHSE2 ⊢
      replace HBW := Lib.hid xB
      replace KA6 := Lib.hid xK
      replace KA7 := Lib.hid xA7
      replace HSE1 := Lib.hid xHSE1
      replace HSE2 := Lib.hid xHSE2
      clear hwS xK xB xA7 xHSE1 xHSE2
      refine hK.out _ _ (KW.out _ HBW.out) (fun _ => ?_); clear hK K
      refine wpAnyH_ready (rs := [9]) (by kernel_rfl) (by simp) ?_
      refine AllReadyH.cons rfl (fun K hK => ?_) AllReadyH.nil
      refine Tr.wanted_plain rfl ?_
      refine store_mid0 rfl 52 _ _ rfl (wc2.heap.size + 1) 0 #[.slice A2 n2 c2, .map m2] (by rfl) (by rfl) (by have h := there_blk KA7.out; exact h) Tryz.sizeVx (by simp [Value.oneCell']) ?_
      have xK := blk_puts2 (.slice A2 n2 c2) (.map m2) KA7.out
      have xB := bsets HBW.out HL7.out (#[.slice A2 n2 c2, .map m2] : Array Value).toList 0
      have xA6 := KA6.out.farCells (HN6_7.out) (#[.slice A2 n2 c2, .map m2] : Array Value).toList 0
      have xHSE1 := (HSE1.out.putS KA7.out A2 n2 c2 m2)
      have xHSE2 := (HSE2.out.putS KA7.out A2 n2 c2 m2)
      obtain ⟨wS9, hwS⟩ : ∃ wS, World.setCells wS8 (wc2.heap.size + 1) 0 (#[.slice A2 n2 c2, .map m2] : Array Value).toList = wS := ⟨_, rfl⟩
      rw [hwS] at xK xB xA6 xHSE1 xHSE2 ⊢
      replace HBW := Lib.hid xB
      replace KA7 := Lib.hid xK
      replace KA6 := Lib.hid xA6
      replace HSE1 := Lib.hid xHSE1
      replace HSE2 := Lib.hid xHSE2
      clear hwS xK xB xA6 xHSE1 xHSE2
      refine hK.out _ _ (KW.out _ HBW.out) (fun _ => ?_); clear hK K
      refine wpAnyH_done (by kernel_rfl) ?_ _
      refine NoPanic.normal ?_
      go_wp2_with fail
      go_meet
      exact ⟨_, _, A1, n1, c1, m1, A2, n2, c2, m2, og1, og2, rfl, rfl, KA6.out, KA7.out, HSE1.out, HSE2.out, HBW.out⟩
    ·
     go_simp
     have KA7 := Lib.hid (show Blk (wc2.alloc (.cells #[.slice none 0 0, .map none] 52)) (wc2.heap.size) 52 #[.slice none 0 0, .map none] from Blk.new wc2 52 #[.slice none 0 0, .map none])
     have HL7 := Lib.hid (show Y2.heap.size ≤ wc2.heap.size from HBW.out.size)
     have hbA : Below wc2.heap.size wc2 ((wc2.alloc (.cells #[.slice none 0 0, .map none] 52))) := bal (bre wc2) (.cells #[.slice none 0 0, .map none] 52)
     replace HBW := Lib.hid (bstep HBW.out hbA)
     replace HSE1 := Lib.hid (HSE1.out.below hbA); clear hbA
     refine hK.out _ _ (KW.out _ HBW.out) (fun _ => ?_); clear hK K
     refine wpAnyH_ready (rs := [5, 6]) (by kernel_rfl) (by simp) ?_
     refine AllReadyH.cons rfl (fun K hK => ?_) (AllReadyH.cons rfl (fun K hK => ?_) AllReadyH.nil)
     ·
      go_simp
      refine (seenG_of (RW := RW) (RH := RH) (l := l) (ns := topmost (nodesW l) (idW (k : Int)) (idW d.P)) (bs := bs) (fk := fk2) (nk := nk2) (n := l.length + 1) _ (HT2.out.below HBW.out) (HM.out.place.below HBW.out) (HM.out.scene.below HBW.out) HTO.out (fun j hj => by rw [topmost_has HNO.out HMM.out] at hj; exact hj) HDW.out (HLC.out) HRR.out).mono ?_
      rintro e wc5 ⟨v2, og2, rfl, hse, hbA⟩
      obtain ⟨A2, n2, c2, m2, rfl⟩ := hse.form
      have HSE2 := Lib.hid hse
      clear hse
      replace HBW := Lib.hid (bstep HBW.out hbA)
      replace KA7 := Lib.hid (KA7.out.belowS hbA)
      replace HSE1 := Lib.hid (HSE1.out.below hbA); clear hbA; go_simp
      refine hK.out _ _ (KW.out _ HBW.out) (fun _ => ?_); clear hK K
      refine wpAnyH_ready (rs := [6]) (by kernel_rfl) (by simp) ?_
      refine AllReadyH.cons rfl (fun K hK => ?_) AllReadyH.nil; go_simp
      have HN7_6 := Lib.hid (Nat.ne_of_lt KA7.out.lt)
      have KA6 := Lib.hid (show Blk (wc5.alloc (.cells #[.slice none 0 0, .map none] 52)) (wc5.heap.size) 52 #[.slice none 0 0, .map none] from Blk.new wc5 52 #[.slice none 0 0, .map none])
      have HL6 := Lib.hid (show Y2.heap.size ≤ wc5.heap.size from HBW.out.size)
      have hbA : Below wc5.heap.size wc5 ((wc5.alloc (.cells #[.slice none 0 0, .map none] 52))) := bal (bre wc5) (.cells #[.slice none 0 0, .map none] 52)
      replace HBW := Lib.hid (bstep HBW.out hbA)
      replace KA7 := Lib.hid (KA7.out.belowS hbA)
      replace HSE1 := Lib.hid (HSE1.out.below hbA)
      replace HSE2 := Lib.hid (HSE2.out.below hbA); clear hbA
      refine hK.out _ _ (KW.out _ HBW.out) (fun _ => ?_); clear hK K
      refine wpAnyH_ready (rs := [8]) (by kernel_rfl) (by simp) ?_
      refine AllReadyH.cons rfl (fun K hK => ?_) AllReadyH.nil
      refine Tr.wanted_plain rfl ?_
      refine store_mid0 rfl 52 _ _ rfl (wc5.heap.size) 0 #[.slice A1 n1 c1, .map m1] (by rfl) (by rfl) (by have h := there_blk KA6.out; exact h) Tryz.sizeVx (by simp [Value.oneCell']) ?_
      have xK := blk_puts2 (.slice A1 n1 c1) (.map m1) KA6.out
      have xB := bsets HBW.out HL6.out (#[.slice A1 n1 c1, .map m1] : Array Value).toList 0
      have xA7 := KA7.out.farCells (HN7_6.out) (#[.slice A1 n1 c1, .map m1] : Array Value).toList 0
      have xHSE1 := (HSE1.out.putS KA6.out A1 n1 c1 m1)
      have xHSE2 := (HSE2.out.putS KA6.out A1 n1 c1 m1)
      obtain ⟨wS8, hwS⟩ : ∃ wS, World.setCells (wc5.alloc (.cells #[.slice none 0 0, .map none] 52)) (wc5.heap.size) 0 (#[.slice A1 n1 c1, .map m1] : Array Value).toList = wS := ⟨_, rfl⟩
      rw [hwS] at xK xB xA7 xHSE1 xHSE2 ⊢
      replace HBW := Lib.hid xB
      replace KA6 := Lib.hid xK
      replace KA7 := Lib.hid xA7
      replace HSE1 := Lib.hid xHSE1
      replace HSE2 := Lib.hid xHSE2
      clear hwS xK xB xA7 xHSE1 xHSE2
      refine hK.out _ _ (KW.out _ HBW.out) (fun _ => ?_); clear hK K
      refine wpAnyH_ready (rs := [9]) (by kernel_rfl) (by simp) ?_
      refine AllReadyH.cons rfl (fun K hK => ?_) AllReadyH.nil
      refine Tr.wanted_plain rfl ?_
      refine store_mid0 rfl 52 _ _ rfl (wc2.heap.size) 0 #[.slice A2 n2 c2, .map m2] (by rfl) (by rfl) (by have h := there_blk KA7.out; exact h) Tryz.sizeVx (by simp [Value.oneCell']) ?_
      have xK := blk_puts2 (.slice A2 n2 c2) (.map m2) KA7.out
      have xB := bsets HBW.out HL7.out (#[.slice A2 n2 c2, .map m2] : Array Value).toList 0
      have xA6 := KA6.out.farCells (HN7_6.out.symm) (#[.slice A2 n2 c2, .map m2] : Array Value).toList 0
      have xHSE1 := (HSE1.out.putS KA7.out A2 n2 c2 m2)
      have xHSE2 := (HSE2.out.putS KA7.out A2 n2 c2 m2)
      obtain ⟨wS9, hwS⟩ : ∃ wS, World.setCells wS8 (wc2.heap.size) 0 (#[.slice A2 n2 c2, .map m2] : Array Value).toList = wS := ⟨_, rfl⟩
      rw [hwS] at xK xB xA6 xHSE1 xHSE2 ⊢
      replace HBW := Lib.hid xB
      replace KA7 := Lib.hid xK
      replace KA6 := Lib.hid xA6
      replace HSE1 := Lib.hid xHSE1
      replace HSE2 := Lib.hid xHSE2
      clear hwS xK xB xA6 xHSE1 xHSE2
      refine hK.out _ _ (KW.out _ HBW.out) (fun _ => ?_); clear hK K
      refine wpAnyH_done (by kernel_rfl) ?_ _
      refine NoPanic.normal ?_
      go_wp2_with fail
      go_meet
      exact ⟨_, _, A1, n1, c1, m1, A2, n2, c2, m2, og1, og2, rfl, rfl, KA6.out, KA7.out, HSE1.out, HSE2.out, HBW.out⟩
     ·
      go_simp
      have HN7_6 := Lib.hid (show wc2.heap.size ≠ wc2.heap.size + 1 from by have h := KA7.out.lt; rw [show ((wc2.alloc (.cells #[.slice none 0 0, .map none] 52))).heap.size = wc2.heap.size + 1 from (show ((wc2.alloc (.cells #[.slice none 0 0, .map none] 52))).heap.size = wc2.heap.size + 1 by simp)] at h; exact Nat.ne_of_lt h)
      have KA6 := Lib.hid (show Blk ((wc2.alloc (.cells #[.slice none 0 0, .map none] 52)).alloc (.cells #[.slice none 0 0, .map none] 52)) (wc2.heap.size + 1) 52 #[.slice none 0 0, .map none] from by have h := Blk.new ((wc2.alloc (.cells #[.slice none 0 0, .map none] 52))) 52 #[.slice none 0 0, .map none]; rw [show ((wc2.alloc (.cells #[.slice none 0 0, .map none] 52))).heap.size = wc2.heap.size + 1 from (show ((wc2.alloc (.cells #[.slice none 0 0, .map none] 52))).heap.size = wc2.heap.size + 1 by simp)] at h; exact h)
      have HL6 := Lib.hid (show Y2.heap.size ≤ wc2.heap.size + 1 from by have h := HBW.out.size; rw [show ((wc2.alloc (.cells #[.slice none 0 0, .map none] 52))).heap.size = wc2.heap.size + 1 from (show ((wc2.alloc (.cells #[.slice none 0 0, .map none] 52))).heap.size = wc2.heap.size + 1 by simp)] at h; exact h)
      have hbA : Below (wc2.alloc (.cells #[.slice none 0 0, .map none] 52)).heap.size (wc2.alloc (.cells #[.slice none 0 0, .map none] 52)) (((wc2.alloc (.cells #[.slice none 0 0, .map none] 52)).alloc (.cells #[.slice none 0 0, .map none] 52))) := bal (bre (wc2.alloc (.cells #[.slice none 0 0, .map none] 52))) (.cells #[.slice none 0 0, .map none] 52)
      replace HBW := Lib.hid (bstep HBW.out hbA)
      replace KA7 := Lib.hid (KA7.out.belowS hbA)
      replace HSE1 := Lib.hid (HSE1.out.below hbA); clear hbA
      refine hK.out _ _ (KW.out _ HBW.out) (fun _ => ?_); clear hK K
      refine wpAnyH_ready (rs := [5]) (by kernel_rfl) (by simp) ?_
      refine AllReadyH.cons rfl (fun K hK => ?_) AllReadyH.nil; go_simp
      refine (seenG_of (RW := RW) (RH := RH) (l := l) (ns := topmost (nodesW l) (idW (k : Int)) (idW d.P)) (bs := bs) (fk := fk2) (nk := nk2) (n := l.length + 1) _ (HT2.out.below HBW.out) (HM.out.place.below HBW.out) (HM.out.scene.below HBW.out) HTO.out (fun j hj => by rw [topmost_has HNO.out HMM.out] at hj; exact hj) HDW.out (HLC.out) HRR.out).mono ?_
      rintro e wc5 ⟨v2, og2, rfl, hse, hbA⟩
      obtain ⟨A2, n2, c2, m2, rfl⟩ := hse.form
      have HSE2 := Lib.hid hse
      clear hse
      replace HBW := Lib.hid (bstep HBW.out hbA)
      replace KA7 := Lib.hid (KA7.out.belowS hbA)
      replace KA6 := Lib.hid (KA6.out.belowS hbA)
      replace HSE1 := Lib.hid (HSE1.out.below hbA); clear hbA; go_simp
      refine hK.out _ _ (KW.out _ HBW.out) (fun _ => ?_); clear hK K
      refine wpAnyH_ready (rs := [8]) (by kernel_rfl) (by simp) ?_
      refine AllReadyH.cons rfl (fun K hK => ?_) AllReadyH.nil
      refine Tr.wanted_plain rfl ?_
      refine store_mid0 rfl 52 _ _ rfl (wc2.heap.size + 1) 0 #[.slice A1 n1 c1, .map m1] (by rfl) (by rfl) (by have h := there_blk KA6.out; exact h) Tryz.sizeVx (by simp [Value.oneCell']) ?_
      have xK := blk_puts2 (.slice A1 n1 c1) (.map m1) KA6.out
      have xB := bsets HBW.out HL6.out (#[.slice A1 n1 c1, .map m1] : Array Value).toList 0
      have xA7 := KA7.out.farCells (HN7_6.out) (#[.slice A1 n1 c1, .map m1] : Array Value).toList 0
      have xHSE1 := (HSE1.out.putS KA6.out A1 n1 c1 m1)
      have xHSE2 := (HSE2.out.putS KA6.out A1 n1 c1 m1)
      obtain ⟨wS8, hwS⟩ : ∃ wS, World.setCells wc5 (wc2.heap.size + 1) 0 (#[.slice A1 n1 c1, .map m1] : Array Value).toList = wS := ⟨_, rfl⟩
      rw [hwS] at xK xB xA7 xHSE1 xHSE2 ⊢
      replace HBW := Lib.hid xB
      replace KA6 := Lib.hid xK
      replace KA7 := Lib.hid xA7
      replace HSE1 := Lib.hid xHSE1
      replace HSE2 := Lib.hid xHSE2
      clear hwS xK xB xA7 xHSE1 xHSE2
      refine hK.out _ _ (KW.out _ HBW.out) (fun _ => ?_); clear hK K
      refine wpAnyH_ready (rs := [9]) (by kernel_rfl) (by simp) ?_
      refine AllReadyH.cons rfl (fun K hK => ?_) AllReadyH.nil
      refine Tr.wanted_plain rfl ?_
      refine store_mid0 rfl 52 _ _ rfl (wc2.heap.size) 0 #[.slice A2 n2 c2, .map m2] (by rfl) (by rfl) (by have h := there_blk KA7.out; exact h) Tryz.sizeVx (by simp [Value.oneCell']) ?_
      have xK := blk_puts2 (.slice A2 n2 c2) (.map m2) KA7.out
      have xB := bsets HBW.out HL7.out (#[.slice A2 n2 c2, .map m2] : Array Value).toList 0
      have xA6 := KA6.out.farCells (HN7_6.out.symm) (#[.slice A2 n2 c2, .map m2] : Array Value).toList 0
      have xHSE1 := (HSE1.out.putS KA7.out A2 n2 c2 m2)
      have xHSE2 := (HSE2.out.putS KA7.out A2 n2 c2 m2)
      obtain ⟨wS9, hwS⟩ : ∃ wS, World.setCells wS8 (wc2.heap.size) 0 (#[.slice A2 n2 c2, .map m2] : Array Value).toList = wS := ⟨_, rfl⟩
      rw [hwS] at xK xB xA6 xHSE1 xHSE2 ⊢
      replace HBW := Lib.hid xB
      replace KA7 := Lib.hid xK
      replace KA6 := Lib.hid xA6
      replace HSE1 := Lib.hid xHSE1
      replace HSE2 := Lib.hid xHSE2
      clear hwS xK xB xA6 xHSE1 xHSE2
      refine hK.out _ _ (KW.out _ HBW.out) (fun _ => ?_); clear hK K
      refine wpAnyH_done (by kernel_rfl) ?_ _
      refine NoPanic.normal ?_
      go_wp2_with fail
      go_meet
      exact ⟨_, _, A1, n1, c1, m1, A2, n2, c2, m2, og1, og2, rfl, rfl, KA6.out, KA7.out, HSE1.out, HSE2.out, HBW.out⟩
   ·
    go_simp
    have KA6 := Lib.hid (show Blk (Y2.alloc (.cells #[.slice none 0 0, .map none] 52)).drew (Y2.heap.size) 52 #[.slice none 0 0, .map none] from Blk.new Y2.drew 52 #[.slice none 0 0, .map none])
    have HL6 := Lib.hid (show Y2.heap.size ≤ Y2.heap.size from HBW.out.size)
    have hbA : Below Y2.drew.heap.size Y2.drew ((Y2.alloc (.cells #[.slice none 0 0, .map none] 52)).drew) := bal (bre Y2.drew) (.cells #[.slice none 0 0, .map none] 52)
    replace HBW := Lib.hid (bstep HBW.out hbA); clear hbA
    refine hK.out _ _ (KW.out _ HBW.out) (fun _ => ?_); clear hK K
    refine wpAnyH_ready (rs := [2, 7]) (by kernel_rfl) (by simp) ?_
    refine AllReadyH.cons rfl (fun K hK => ?_) (AllReadyH.cons rfl (fun K hK => ?_) AllReadyH.nil)
    ·
     go_simp
     refine (seenG_of (RW := RW) (RH := RH) (l := l) (ns := nodesW l) (bs := bs) (fk := fk) (nk := nk) (n := l.length + 1) _ (HM.out.tree.below HBW.out) (HM.out.place.below HBW.out) (HM.out.scene.below HBW.out) HNO.out (fun _ h => h) HDW.out (HLA.out) HRR.out).mono ?_
     rintro e wc2 ⟨v1, og1, rfl, hse, hbA⟩
     obtain ⟨A1, n1, c1, m1, rfl⟩ := hse.form
     have HSE1 := Lib.hid hse
     clear hse
     replace HBW := Lib.hid (bstep HBW.out hbA)
     replace KA6 := Lib.hid (KA6.out.belowS hbA); clear hbA; go_simp
     refine hK.out _ _ (KW.out _ HBW.out) (fun _ => ?_); clear hK K
     refine wpAnyH_ready (rs := [5, 7]) (by kernel_rfl) (by simp) ?_
     refine AllReadyH.cons rfl (fun K hK => ?_) (AllReadyH.cons rfl (fun K hK => ?_) AllReadyH.nil)
     ·
      go_simp
      refine (seenG_of (RW := RW) (RH := RH) (l := l) (ns := topmost (nodesW l) (idW (k : Int)) (idW d.P)) (bs := bs) (fk := fk2) (nk := nk2) (n := l.length + 1) _ (HT2.out.below HBW.out) (HM.out.place.below HBW.out) (HM.out.scene.below HBW.out) HTO.out (fun j hj => by rw [topmost_has HNO.out HMM.out] at hj; exact hj) HDW.out (HLC.out) HRR.out).mono ?_
      rintro e wc5 ⟨v2, og2, rfl, hse, hbA⟩
      obtain ⟨A2, n2, c2, m2, rfl⟩ := hse.form
      have HSE2 := Lib.hid hse
      clear hse
      replace HBW := Lib.hid (bstep HBW.out hbA)
      replace KA6 := Lib.hid (KA6.out.belowS hbA)
      replace HSE1 := Lib.hid (HSE1.out.below hbA); clear hbA; go_simp
      refine hK.out _ _ (KW.out _ HBW.out) (fun _ => ?_); clear hK K
      refine wpAnyH_ready (rs := [7]) (by kernel_rfl) (by simp) ?_
      refine AllReadyH.cons rfl (fun K hK => ?_) AllReadyH.nil; go_simp
      have HN6_7 := Lib.hid (Nat.ne_of_lt KA6.out.lt)
      have KA7 := Lib.hid (show Blk (wc5.alloc (.cells #[.slice none 0 0, .map none] 52)) (wc5.heap.size) 52 #[.slice none 0 0, .map none] from Blk.new wc5 52 #[.slice none 0 0, .map none])
      have HL7 := Lib.hid (show Y2.heap.size ≤ wc5.heap.size from HBW.out.size)
      have hbA : Below wc5.heap.size wc5 ((wc5.alloc (.cells #[.slice none 0 0, .map none] 52))) := bal (bre wc5) (.cells #[.slice none 0 0, .map none] 52)
      replace HBW := Lib.hid (bstep HBW.out hbA)
      replace KA6 := Lib.hid (KA6.out.belowS hbA)
      replace HSE1 := Lib.hid (HSE1.out.below hbA)
      replace HSE2 := Lib.hid (HSE2.out.below hbA); clear hbA
      refine hK.out _ _ (KW.out _ HBW.out) (fun _ => ?_); clear hK K
      refine wpAnyH_ready (rs := [8]) (by kernel_rfl) (by simp) ?_
      refine AllReadyH.cons rfl (fun K hK => ?_) AllReadyH.nil
      refine Tr.wanted_plain rfl ?_
      refine store_mid0 rfl 52 _ _ rfl (Y2.heap.size) 0 #[.slice A1 n1 c1, .map m1] (by rfl) (by rfl) (by have h := there_blk KA6.out; exact h) Tryz.sizeVx (by simp [Value.oneCell']) ?_
      have xK := blk_puts2 (.slice A1 n1 c1) (.map m1) KA6.out
      have xB := bsets HBW.out HL6.out (#[.slice A1 n1 c1, .map m1] : Array Value).toList 0
      have xA7 := KA7.out.farCells (HN6_7.out.symm) (#[.slice A1 n1 c1, .map m1] : Array Value).toList 0
      have xHSE1 := (HSE1.out.putS KA6.out A1 n1 c1 m1)
      have xHSE2 := (HSE2.out.putS KA6.out A1 n1 c1 m1)
      obtain ⟨wS8, hwS⟩ : ∃ wS, World.setCells (wc5.alloc (.cells #[.slice none 0 0, .map none] 52)) (Y2.heap.size) 0 (#[.slice A1 n1 c1, .map m1] : Array Value).toList = wS := ⟨_, rfl⟩
      rw [hwS] at xK xB xA7 xHSE1 xHSE2 ⊢
      replace HBW := Lib.hid xB
      replace KA6 := Lib.hid xK
      replace KA7 := Lib.hid xA7
      replace HSE1 := Lib.hid xHSE1
      replace HSE2 := Lib.hid xHSE2
      clear hwS xK xB xA7 xHSE1 xHSE2
      refine hK.out _ _ (KW.out _ HBW.out) (fun _ => ?_); clear hK K
      refine wpAnyH_ready (rs := [9]) (by kernel_rfl) (by simp) ?_
      refine AllReadyH.cons rfl (fun K hK => ?_) AllReadyH.nil
      refine Tr.wanted_plain rfl ?_
      refine store_mid0 rfl 52 _ _ rfl (wc5.heap.size) 0 #[.slice A2 n2 c2, .map m2] (by rfl) (by rfl) (by have h := there_blk KA7.out; exact h) Tryz.sizeVx (by simp [Value.oneCell']) ?_
      have xK := blk_puts2 (.slice A2 n2 c2) (.map m2) KA7.out
      have xB := bsets HBW.out HL7.out (#[.slice A2 n2 c2, .map m2] : Array Value).toList 0
      have xA6 := KA6.out.farCells (HN6_7.out) (#[.slice A2 n2 c2, .map m2] : Array Value).toList 0
      have xHSE1 := (HSE1.out.putS KA7.out A2 n2 c2 m2)
      have xHSE2 := (HSE2.out.putS KA7.out A2 n2 c2 m2)
      obtain ⟨wS9, hwS⟩ : ∃ wS, World.setCells wS8 (wc5.heap.size) 0 (#[.slice A2 n2 c2, .map m2] : Array Value).toList = wS := ⟨_, rfl⟩
      rw [hwS] at xK xB xA6 xHSE1 xHSE2 ⊢
      replace HBW := Lib.hid xB
      replace KA7 := Lib.hid xK
      replace KA6 := Lib.hid xA6
      replace HSE1 := Lib.hid xHSE1
      replace HSE2 := Lib.hid xHSE2
      clear hwS xK xB xA6 xHSE1 xHSE2
      refine hK.out _ _ (KW.out _ HBW.out) (fun _ => ?_); clear hK K
      refine wpAnyH_done (by kernel_rfl) ?_ _
      refine NoPanic.normal ?_
      go_wp2_with fail
      go_meet
      exact ⟨_, _, A1, n1, c1, m1, A2, n2, c2, m2, og1, og2, rfl, rfl, KA6.out, KA7.out, HSE1.out, HSE2.out, HBW.out⟩
     ·
      go_simp
      have HN6_7 := Lib.hid (Nat.ne_of_lt KA6.out.lt)
      have KA7 := Lib.hid (show Blk (wc2.alloc (.cells #[.slice none 0 0, .map none] 52)) (wc2.heap.size) 52 #[.slice none 0 0, .map none] from Blk.new wc2 52 #[.slice none 0 0, .map none])
      have HL7 := Lib.hid (show Y2.heap.size ≤ wc2.heap.size from HBW.out.size)
      have hbA : Below wc2.heap.size wc2 ((wc2.alloc (.cells #[.slice none 0 0, .map none] 52))) := bal (bre wc2) (.cells #[.slice none 0 0, .map none] 52)
      replace HBW := Lib.hid (bstep HBW.out hbA)
      replace KA6 := Lib.hid (KA6.out.belowS hbA)
      replace HSE1 := Lib.hid (HSE1.out.below hbA); clear hbA
      refine hK.out _ _ (KW.out _ HBW.out) (fun _ => ?_); clear hK K
      refine wpAnyH_ready (rs := [5]) (by kernel_rfl) (by simp) ?_
      refine AllReadyH.cons rfl (fun K hK => ?_) AllReadyH.nil; go_simp
      refine (seenG_of (RW := RW) (RH := RH) (l := l) (ns := topmost (nodesW l) (idW (k : Int)) (idW d.P)) (bs := bs) (fk := fk2) (nk := nk2) (n := l.length + 1) _ (HT2.out.below HBW.out) (HM.out.place.below HBW.out) (HM.out.scene.below HBW.out) HTO.out (fun j hj => by rw [topmost_has HNO.out HMM.out] at hj; exact hj) HDW.out (HLC.out) HRR.out).mono ?_
      rintro e wc5 ⟨v2, og2, rfl, hse, hbA⟩
      obtain ⟨A2, n2, c2, m2, rfl⟩ := hse.form
      have HSE2 := Lib.hid hse
      clear hse
      replace HBW := Lib.hid (bstep HBW.out hbA)
      replace KA6 := Lib.hid (KA6.out.belowS hbA)
      replace KA7 := Lib.hid (KA7.out.belowS hbA)
      replace HSE1 := Lib.hid (HSE1.out.below hbA); clear hbA; go_simp
      refine hK.out _ _ (KW.out _ HBW.out) (fun _ => ?_); clear hK K
      refine wpAnyH_ready (rs := [8]) (by kernel_rfl) (by simp) ?_
      refine AllReadyH.cons rfl (fun K hK => ?_) AllReadyH.nil
      refine Tr.wanted_plain rfl ?_
      refine store_mid0 rfl 52 _ _ rfl (Y2.heap.size) 0 #[.slice A1 n1 c1, .map m1] (by rfl) (by rfl) (by have h := there_blk KA6.out; exact h) Tryz.sizeVx (by simp [Value.oneCell']) ?_
      have xK := blk_puts2 (.slice A1 n1 c1) (.map m1) KA6.out
      have xB := bsets HBW.out HL6.out (#[.slice A1 n1 c1, .map m1] : Array Value).toList 0
      have xA7 := KA7.out.farCells (HN6_7.out.symm) (#[.slice A1 n1 c1, .map m1] : Array Value).toList 0
      have xHSE1 := (HSE1.out.putS KA6.out A1 n1 c1 m1)
      have xHSE2 := (HSE2.out.putS KA6.out A1 n1 c1 m1)
      obtain ⟨wS8, hwS⟩ : ∃ wS, World.setCells wc5 (Y2.heap.size) 0 (#[.slice A1 n1 c1, .map m1] : Array Value).toList = wS := ⟨_, rfl⟩
      rw [hwS] at xK xB xA7 xHSE1 xHSE2 ⊢
      replace HBW := Lib.hid xB
      replace KA6 := Lib.hid xK
      replace KA7 := Lib.hid xA7
      replace HSE1 := Lib.hid xHSE1
      replace HSE2 := Lib.hid xHSE2
      clear hwS xK xB xA7 xHSE1 xHSE2
      refine hK.out _ _ (KW.out _ HBW.out) (fun _ => ?_); clear hK K
      refine wpAnyH_ready (rs := [9]) (by kernel_rfl) (by simp) ?_
      refine AllReadyH.cons rfl (fun K hK => ?_) AllReadyH.nil
      refine Tr.wanted_plain rfl ?_
      refine store_mid0 rfl 52 _ _ rfl (wc2.heap.size) 0 #[.slice A2 n2 c2, .map m2] (by rfl) (by rfl) (by have h := there_blk KA7.out; exact h) Tryz.sizeVx (by simp [Value.oneCell']) ?_
      have xK := blk_puts2 (.slice A2 n2 c2) (.map m2) KA7.out
      have xB := bsets HBW.out HL7.out (#[.slice A2 n2 c2, .map m2] : Array Value).toList 0
      have xA6 := KA6.out.farCells (HN6_7.out) (#[.slice A2 n2 c2, .map m2] : Array Value).toList 0
      have xHSE1 := (HSE1.out.putS KA7.out A2 n2 c2 m2)
      have xHSE2 := (HSE2.out.putS KA7.out A2 n2 c2 m2)
      obtain ⟨wS9, hwS⟩ : ∃ wS, World.setCells wS8 (wc2.heap.size) 0 (#[.slice A2 n2 c2, .map m2] : Array Value).toList = wS := ⟨_, rfl⟩
      rw [hwS] at xK xB xA6 xHSE1 xHSE2 ⊢
      replace HBW := Lib.hid xB
      replace KA7 := Lib.hid xK
      replace KA6 := Lib.hid xA6
      replace HSE1 := Lib.hid xHSE1
      replace HSE2 := Lib.hid xHSE2
      clear hwS xK xB xA6 xHSE1 xHSE2
      refine hK.out _ _ (KW.out _ HBW.out) (fun _ => ?_); clear hK K
      refine wpAnyH_done (by kernel_rfl) ?_ _
      refine NoPanic.normal ?_
      go_wp2_with fail
      go_meet
      exact ⟨_, _, A1, n1, c1, m1, A2, n2, c2, m2, og1, og2, rfl, rfl, KA6.out, KA7.out, HSE1.out, HSE2.out, HBW.out⟩
    ·
     go_simp
     have HN6_7 := Lib.hid (show Y2.heap.size ≠ Y2.heap.size + 1 from by have h := KA6.out.lt; rw [show ((Y2.alloc (.cells #[.slice none 0 0, .map none] 52)).drew).heap.size = Y2.heap.size + 1 from (show ((Y2.alloc (.cells #[.slice none 0 0, .map none] 52))).heap.size = Y2.heap.size + 1 by simp)] at h; exact Nat.ne_of_lt h)
     have KA7 := Lib.hid (show Blk ((Y2.alloc (.cells #[.slice none 0 0, .map none] 52)).alloc (.cells #[.slice none 0 0, .map none] 52)).drew (Y2.heap.size + 1) 52 #[.slice none 0 0, .map none] from by have h := Blk.new ((Y2.alloc (.cells #[.slice none 0 0, .map none] 52)).drew) 52 #[.slice none 0 0, .map none]; rw [show ((Y2.alloc (.cells #[.slice none 0 0, .map none] 52)).drew).heap.size = Y2.heap.size + 1 from (show ((Y2.alloc (.cells #[.slice none 0 0, .map none] 52))).heap.size = Y2.heap.size + 1 by simp)] at h; exact h)
     have HL7 := Lib.hid (show Y2.heap.size ≤ Y2.heap.size + 1 from by have h := HBW.out.size; rw [show ((Y2.alloc (.cells #[.slice none 0 0, .map none] 52)).drew).heap.size = Y2.heap.size + 1 from (show ((Y2.alloc (.cells #[.slice none 0 0, .map none] 52))).heap.size = Y2.heap.size + 1 by simp)] at h; exact h)
     have hbA : Below (Y2.alloc (.cells #[.slice none 0 0, .map none] 52)).drew.heap.size (Y2.alloc (.cells #[.slice none 0 0, .map none] 52)).drew (((Y2.alloc (.cells #[.slice none 0 0, .map none] 52)).alloc (.cells #[.slice none 0 0, .map none] 52)).drew) := bal (bre (Y2.alloc (.cells #[.slice none 0 0, .map none] 52)).drew) (.cells #[.slice none 0 0, .map none] 52)
     replace HBW := Lib.hid (bstep HBW.out hbA)
     replace KA6 := Lib.hid (KA6.out.belowS hbA); clear hbA
     refine hK.out _ _ (KW.out _ HBW.out) (fun _ => ?_); clear hK K
     refine wpAnyH_ready (rs := [2]) (by kernel_rfl) (by simp) ?_
     refine AllReadyH.cons rfl (fun K hK => ?_) AllReadyH.nil; go_simp
     refine (seenG_of (RW := RW) (RH := RH) (l := l) (ns := nodesW l) (bs := bs) (fk := fk) (nk := nk) (n := l.length + 1) _ (HM.out.tree.below HBW.out) (HM.out.place.below HBW.out) (HM.out.scene.below HBW.out) HNO.out (fun _ h => h) HDW.out (HLA.out) HRR.out).mono ?_
     rintro e wc2 ⟨v1, og1, rfl, hse, hbA⟩
     obtain ⟨A1, n1, c1, m1, rfl⟩ := hse.form
     have HSE1 := Lib.hid hse
     clear hse
     replace HBW := Lib.hid (bstep HBW.out hbA)
     replace KA6 := Lib.hid (KA6.out.belowS hbA)
     replace KA7 := Lib.hid (KA7.out.belowS hbA); clear hbA; go_simp
     refine hK.out _ _ (KW.out _ HBW.out) (fun _ => ?_); clear hK K
     refine wpAnyH_ready (rs := [5]) (by kernel_rfl) (by simp) ?_
     refine AllReadyH.cons rfl (fun K hK => ?_) AllReadyH.nil; go_simp
     refine (seenG_of (RW := RW) (RH := RH) (l := l) (ns := topmost (nodesW l) (idW (k : Int)) (idW d.P)) (bs := bs) (fk := fk2) (nk := nk2) (n := l.length + 1) _ (HT2.out.below HBW.out) (HM.out.place.below HBW.out) (HM.out.scene.below HBW.out) HTO.out (fun j hj => by rw [topmost_has HNO.out HMM.out] at hj; exact hj) HDW.out (HLC.out) HRR.out).mono ?_
     rintro e wc5 ⟨v2, og2, rfl, hse, hbA⟩
     obtain ⟨A2, n2, c2, m2, rfl⟩ := hse.form
     have HSE2 := Lib.hid hse
     clear hse
     replace HBW := Lib.hid (bstep HBW.out hbA)
     replace KA6 := Lib.hid (KA6.out.belowS hbA)
     replace KA7 := Lib.hid (KA7.out.belowS hbA)
     replace HSE1 := Lib.hid (HSE1.out.below hbA); clear hbA; go_simp
     refine hK.out _ _ (KW.out _ HBW.out) (fun _ => ?_); clear hK K
     refine wpAnyH_ready (rs := [8]) (by kernel_rfl) (by simp) ?_
     refine AllReadyH.cons rfl (fun K hK => ?_) AllReadyH.nil
     refine Tr.wanted_plain rfl ?_
     refine store_mid0 rfl 52 _ _ rfl (Y2.heap.size) 0 #[.slice A1 n1 c1, .map m1] (by rfl) (by rfl) (by have h := there_blk KA6.out; exact h) Tryz.sizeVx (by simp [Value.oneCell']) ?_
     have xK := blk_puts2 (.slice A1 n1 c1) (.map m1) KA6.out
     have xB := bsets HBW.out HL6.out (#[.slice A1 n1 c1, .map m1] : Array Value).toList 0
     have xA7 := KA7.out.farCells (HN6_7.out.symm) (#[.slice A1 n1 c1, .map m1] : Array Value).toList 0
     have xHSE1 := (HSE1.out.putS KA6.out A1 n1 c1 m1)
     have xHSE2 := (HSE2.out.putS KA6.out A1 n1 c1 m1)
     obtain ⟨wS8, hwS⟩ : ∃ wS, World.setCells wc5 (Y2.heap.size) 0 (#[.slice A1 n1 c1, .map m1] : Array Value).toList = wS := ⟨_, rfl⟩
     rw [hwS] at xK xB xA7 xHSE1 xHSE2 ⊢
     replace HBW := Lib.hid xB
     replace KA6 := Lib.hid xK
     replace KA7 := Lib.hid xA7
     replace HSE1 := Lib.hid xHSE1
     replace HSE2 := Lib.hid xHSE2
     clear hwS xK xB xA7 xHSE1 xHSE2
     refine hK.out _ _ (KW.out _ HBW.out) (fun _ => ?_); clear hK K
     refine wpAnyH_ready (rs := [9]) (by kernel_rfl) (by simp) ?_
     refine AllReadyH.cons rfl (fun K hK => ?_) AllReadyH.nil
     refine Tr.wanted_plain rfl ?_
     refine store_mid0 rfl 52 _ _ rfl (Y2.heap.size + 1) 0 #[.slice A2 n2 c2, .map m2] (by rfl) (by rfl) (by have h := there_blk KA7.out; exact h) Tryz.sizeVx (by simp [Value.oneCell']) ?_
     have xK := blk_puts2 (.slice A2 n2 c2) (.map m2) KA7.out
     have xB := bsets HBW.out HL7.out (#[.slice A2 n2 c2, .map m2] : Array Value).toList 0
     have xA6 := KA6.out.farCells (HN6_7.out) (#[.slice A2 n2 c2, .map m2] : Array Value).toList 0
     have xHSE1 := (HSE1.out.putS KA7.out A2 n2 c2 m2)
     have xHSE2 := (HSE2.out.putS KA7.out A2 n2 c2 m2)
     obtain ⟨wS9, hwS⟩ : ∃ wS, World.setCells wS8 (Y2.heap.size + 1) 0 (#[.slice A2 n2 c2, .map m2] : Array Value).toList = wS := ⟨_, rfl⟩
     rw [hwS] at xK xB xA6 xHSE1 xHSE2 ⊢
     replace HBW := Lib.hid xB
     replace KA7 := Lib.hid xK
     replace KA6 := Lib.hid xA6
     replace HSE1 := Lib.hid xHSE1
     replace HSE2 := Lib.hid xHSE2
     clear hwS xK xB xA6 xHSE1 xHSE2
     refine hK.out _ _ (KW.out _ HBW.out) (fun _ => ?_); clear hK K
     refine wpAnyH_done (by kernel_rfl) ?_ _
     refine NoPanic.normal ?_
     go_wp2_with fail
     go_meet
     exact ⟨_, _, A1, n1, c1, m1, A2, n2, c2, m2, og1, og2, rfl, rfl, KA6.out, KA7.out, HSE1.out, HSE2.out, HBW.out⟩
   ·
    go_simp
    have KA7 := Lib.hid (show Blk (Y2.alloc (.cells #[.slice none 0 0, .map none] 52)).drew (Y2.heap.size) 52 #[.slice none 0 0, .map none] from Blk.new Y2.drew 52 #[.slice none 0 0, .map none])
    have HL7 := Lib.hid (show Y2.heap.size ≤ Y2.heap.size from HBW.out.size)
    have hbA : Below Y2.drew.heap.size Y2.drew ((Y2.alloc (.cells #[.slice none 0 0, .map none] 52)).drew) := bal (bre Y2.drew) (.cells #[.slice none 0 0, .map none] 52)
    replace HBW := Lib.hid (bstep HBW.out hbA); clear hbA
    refine hK.out _ _ (KW.out _ HBW.out) (fun _ => ?_); clear hK K
    refine wpAnyH_ready (rs := [2, 6]) (by kernel_rfl) (by simp) ?_
    refine AllReadyH.cons rfl (fun K hK => ?_) (AllReadyH.cons rfl (fun K hK => ?_) AllReadyH.nil)
    ·
     go_simp
     refine (seenG_of (RW := RW) (RH := RH) (l := l) (ns := nodesW l) (bs := bs) (fk := fk) (nk := nk) (n := l.length + 1) _ (HM.out.tree.below HBW.out) (HM.out.place.below HBW.out) (HM.out.scene.below HBW.out) HNO.out (fun _ h => h) HDW.out (HLA.out) HRR.out).mono ?_
     rintro e wc2 ⟨v1, og1, rfl, hse, hbA⟩
     obtain ⟨A1, n1, c1, m1, rfl⟩ := hse.form
     have HSE1 := Lib.hid hse
     clear hse
     replace HBW := Lib.hid (bstep HBW.out hbA)
     replace KA7 := Lib.hid (KA7.out.belowS hbA); clear hbA; go_simp
     refine hK.out _ _ (KW.out _ HBW.out) (fun _ => ?_); clear hK K
     refine wpAnyH_ready (rs := [5, 6]) (by kernel_rfl) (by simp) ?_
     refine AllReadyH.cons rfl (fun K hK => ?_) (AllReadyH.cons rfl (fun K hK => ?_) AllReadyH.nil)
     ·
      go_simp
      refine (seenG_of (RW := RW) (RH := RH) (l := l) (ns := topmost (nodesW l) (idW (k : Int)) (idW d.P)) (bs := bs) (fk := fk2) (nk := nk2) (n := l.length + 1) _ (HT2.out.below HBW.out) (HM.out.place.below HBW.out) (HM.out.scene.below HBW.out) HTO.out (fun j hj => by rw [topmost_has HNO.out HMM.out] at hj; exact hj) HDW.out (HLC.out) HRR.out).mono ?_
      rintro e wc5 ⟨v2, og2, rfl, hse, hbA⟩
      obtain ⟨A2, n2, c2, m2, rfl⟩ := hse.form
      have HSE2 := Lib.hid hse
      clear hse
      replace HBW := Lib.hid (bstep HBW.out hbA)
      replace KA7 := Lib.hid (KA7.out.belowS hbA)
      replace HSE1 := Lib.hid (HSE1.out.below hbA); clear hbA; go_simp
      refine hK.out _ _ (KW.out _ HBW.out) (fun _ => ?_); clear hK K
      refine wpAnyH_ready (rs := [6]) (by kernel_rfl) (by simp) ?_
      refine AllReadyH.cons rfl (fun K hK => ?_) AllReadyH.nil; go_simp
      have HN7_6 := Lib.hid (Nat.ne_of_lt KA7.out.lt)
      have KA6 := Lib.hid (show Blk (wc5.alloc (.cells #[.slice none 0 0, .map none] 52)) (wc5.heap.size) 52 #[.slice none 0 0, .map none] from Blk.new wc5 52 #[.slice none 0 0, .map none])
      have HL6 := Lib.hid (show Y2.heap.size ≤ wc5.heap.size from HBW.out.size)
      have hbA : Below wc5.heap.size wc5 ((wc5.alloc (.cells #[.slice none 0 0, .map none] 52))) := bal (bre wc5) (.cells #[.slice none 0 0, .map none] 52)
      replace HBW := Lib.hid (bstep HBW.out hbA)
      replace KA7 := Lib.hid (KA7.out.belowS hbA)
      replace HSE1 := Lib.hid (HSE1.out.below hbA)
      replace HSE2 := Lib.hid (HSE2.out.below hbA); clear hbA
      refine hK.out _ _ (KW.out _ HBW.out) (fun _ => ?_); clear hK K
      refine wpAnyH_ready (rs := [8]) (by kernel_rfl) (by simp) ?_
      refine AllReadyH.cons rfl (fun K hK => ?_) AllReadyH.nil
      refine Tr.wanted_plain rfl ?_
      refine store_mid0 rfl 52 _ _ rfl (wc5.heap.size) 0 #[.slice A1 n1 c1, .map m1] (by rfl) (by rfl) (by have h := there_blk KA6.out; exact h) Tryz.sizeVx (by simp [Value.oneCell']) ?_
      have xK := blk_puts2 (.slice A1 n1 c1) (.map m1) KA6.out
      have xB := bsets HBW.out HL6.out (#[.slice A1 n1 c1, .map m1] : Array Value).toList 0
      have xA7 := KA7.out.farCells (HN7_6.out) (#[.slice A1 n1 c1, .map m1] : Array Value).toList 0
      have xHSE1 := (HSE1.out.putS KA6.out A1 n1 c1 m1)
      have xHSE2 := (HSE2.out.putS KA6.out A1 n1 c1 m1)
      obtain ⟨wS8, hwS⟩ : ∃ wS, World.setCells (wc5.alloc (.cells #[.slice none 0 0, .map none] 52)) (wc5.heap.size) 0 (#[.slice A1 n1 c1, .map m1] : Array Value).toList = wS := ⟨_, rfl⟩
      rw [hwS] at xK xB xA7 xHSE1 xHSE2 ⊢
      replace HBW := Lib.hid xB
      replace KA6 := Lib.hid xK
      replace KA7 := Lib.hid xA7
      replace HSE1 := Lib.hid xHSE1
      replace HSE2 := Lib.hid xHSE2
      clear hwS xK xB xA7 xHSE1 xHSE2
      refine hK.out _ _ (KW.out _ HBW.out) (fun _ => ?_); clear hK K
      refine wpAnyH_ready (rs := [9]) (by kernel_rfl) (by simp) ?_
      refine AllReadyH.cons rfl (fun K hK => ?_) AllReadyH.nil
      refine Tr.wanted_plain rfl ?_
      refine store_mid0 rfl 52 _ _ rfl (Y2.heap.size) 0 #[.slice A2 n2 c2, .map m2] (by rfl) (by rfl) (by have h := there_blk KA7.out; exact h) Tryz.sizeVx (by simp [Value.oneCell']) ?_
      have xK := blk_puts2 (.slice A2 n2 c2) (.map m2) KA7.out
      have xB := bsets HBW.out HL7.out (#[.slice A2 n2 c2, .map m2] : Array Value).toList 0
      have xA6 := KA6.out.farCells (HN7_6.out.symm) (#[.slice A2 n2 c2, .map m2] : Array Value).toList 0
      have xHSE1 := (HSE1.out.putS KA7.out A2 n2 c2 m2)
      have xHSE2 := (HSE2.out.putS KA7.out A2 n2 c2 m2)
      obtain ⟨wS9, hwS⟩ : ∃ wS, World.setCells wS8 (Y2.heap.size) 0 (#[.slice A2 n2 c2, .map m2] : Array Value).toList = wS := ⟨_, rfl⟩
      rw [hwS] at xK xB xA6 xHSE1 xHSE2 ⊢
      replace HBW := Lib.hid xB
      replace KA7 := Lib.hid xK
      replace KA6 := Lib.hid xA6
      replace HSE1 := Lib.hid xHSE1
      replace HSE2 := Lib.hid xHSE2
      clear hwS xK xB xA6 xHSE1 xHSE2
      refine hK.out _ _ (KW.out _ HBW.out) (fun _ => ?_); clear hK K
      refine wpAnyH_done (by kernel_rfl) ?_ _
      refine NoPanic.normal ?_
      go_wp2_with fail
      go_meet
      exact ⟨_, _, A1, n1, c1, m1, A2, n2, c2, m2, og1, og2, rfl, rfl, KA6.out, KA7.out, HSE1.out, HSE2.out, HBW.out⟩
     ·
      go_simp
      have HN7_6 := Lib.hid (Nat.ne_of_lt KA7.out.lt)
      have KA6 := Lib.hid (show Blk (wc2.alloc (.cells #[.slice none 0 0, .map none] 52)) (wc2.heap.size) 52 #[.slice none 0 0, .map none] from Blk.new wc2 52 #[.slice none 0 0, .map none])
      have HL6 := Lib.hid (show Y2.heap.size ≤ wc2.heap.size from HBW.out.size)
      have hbA : Below wc2.heap.size wc2 ((wc2.alloc (.cells #[.slice none 0 0, .map none] 52))) := bal (bre wc2) (.cells #[.slice none 0 0, .map none] 52)
      replace HBW := Lib.hid (bstep HBW.out hbA)
      replace KA7 := Lib.hid (KA7.out.belowS hbA)
      replace HSE1 := Lib.hid (HSE1.out.below hbA); clear hbA
      refine hK.out _ _ (KW.out _ HBW.out) (fun _ => ?_); clear hK K
      refine wpAnyH_ready (rs := [5]) (by kernel_rfl) (by simp) ?_
      refine AllReadyH.cons rfl (fun K hK => ?_) AllReadyH.nil; go_simp
      refine (seenG_of (RW := RW) (RH := RH) (l := l) (ns := topmost (nodesW l) (idW (k : Int)) (idW d.P)) (bs := bs) (fk := fk2) (nk := nk2) (n := l.length + 1) _ (HT2.out.below HBW.out) (HM.out.place.below HBW.out) (HM.out.scene.below HBW.out) HTO.out (fun j hj => by rw [topmost_has HNO.out HMM.out] at hj; exact hj) HDW.out (HLC.out) HRR.out).mono ?_
      rintro e wc5 ⟨v2, og2, rfl, hse, hbA⟩
      obtain ⟨A2, n2, c2, m2, rfl⟩ := hse.form
      have HSE2 := Lib.hid hse
      clear hse
      replace HBW := Lib.hid (bstep HBW.out hbA)
      replace KA7 := Lib.hid (KA7.out.belowS hbA)
      replace KA6 := Lib.hid (KA6.out.belowS hbA)
      replace HSE1 := Lib.hid (HSE1.out.below hbA); clear hbA; go_simp
      refine hK.out _ _ (KW.out _ HBW.out) (fun _ => ?_); clear hK K
      refine wpAnyH_ready (rs := [8]) (by kernel_rfl) (by simp) ?_
      refine AllReadyH.cons rfl (fun K hK => ?_) AllReadyH.nil
      refine Tr.wanted_plain rfl ?_
      refine store_mid0 rfl 52 _ _ rfl (wc2.heap.size) 0 #[.slice A1 n1 c1, .map m1] (by rfl) (by rfl) (by have h := there_blk KA6.out; exact h) Tryz.sizeVx (by simp [Value.oneCell']) ?_
      have xK := blk_puts2 (.slice A1 n1 c1) (.map m1) KA6.out
      have xB := bsets HBW.out HL6.out (#[.slice A1 n1 c1, .map m1] : Array Value).toList 0
      have xA7 := KA7.out.farCells (HN7_6.out) (#[.slice A1 n1 c1, .map m1] : Array Value).toList 0
      have xHSE1 := (HSE1.out.putS KA6.out A1 n1 c1 m1)
      have xHSE2 := (HSE2.out.putS KA6.out A1 n1 c1 m1)
      obtain ⟨wS8, hwS⟩ : ∃ wS, World.setCells wc5 (wc2.heap.size) 0 (#[.slice A1 n1 c1, .map m1] : Array Value).toList = wS := ⟨_, rfl⟩
      rw [hwS] at xK xB xA7 xHSE1 xHSE2 ⊢
      replace HBW := Lib.hid xB
      replace KA6 := Lib.hid xK
      replace KA7 := Lib.hid xA7
      replace HSE1 := Lib.hid xHSE1
      replace HSE2 := Lib.hid xHSE2
      clear hwS xK xB xA7 xHSE1 xHSE2
      refine hK.out _ _ (KW.out _ HBW.out) (fun _ => ?_); clear hK K
      refine wpAnyH_ready (rs := [9]) (by kernel_rfl) (by simp) ?_
      refine AllReadyH.cons rfl (fun K hK => ?_) AllReadyH.nil
      refine Tr.wanted_plain rfl ?_
      refine store_mid0 rfl 52 _ _ rfl (Y2.heap.size) 0 #[.slice A2 n2 c2, .map m2] (by rfl) (by rfl) (by have h := there_blk KA7.out; exact h) Tryz.sizeVx (by simp [Value.oneCell']) ?_
      have xK := blk_puts2 (.slice A2 n2 c2) (.map m2) KA7.out
      have xB := bsets HBW.out HL7.out (#[.slice A2 n2 c2, .map m2] : Array Value).toList 0
      have xA6 := KA6.out.farCells (HN7_6.out.symm) (#[.slice A2 n2 c2, .map m2] : Array Value).toList 0
      have xHSE1 := (HSE1.out.putS KA7.out A2 n2 c2 m2)
      have xHSE2 := (HSE2.out.putS KA7.out A2 n2 c2 m2)
      obtain ⟨wS9, hwS⟩ : ∃ wS, World.setCells wS8 (Y2.heap.size) 0 (#[.slice A2 n2 c2, .map m2] : Array Value).toList = wS := ⟨_, rfl⟩
      rw [hwS] at xK xB xA6 xHSE1 xHSE2 ⊢
      replace HBW := Lib.hid xB
      replace KA7 := Lib.hid xK
      replace KA6 := Lib.hid xA6
      replace HSE1 := Lib.hid xHSE1
      replace HSE2 := Lib.hid xHSE2
      clear hwS xK xB xA6 xHSE1 xHSE2
      refine hK.out _ _ (KW.out _ HBW.out) (fun _ => ?_); clear hK K
      refine wpAnyH_done (by kernel_rfl) ?_ _
      refine NoPanic.normal ?_
      go_wp2_with fail
      go_meet
      exact ⟨_, _, A1, n1, c1, m1, A2, n2, c2, m2, og1, og2, rfl, rfl, KA6.out, KA7.out, HSE1.out, HSE2.out, HBW.out⟩
    ·
     go_simp
     have HN7_6 := Lib.hid (show Y2.heap.size ≠ Y2.heap.size + 1 from by have h := KA7.out.lt; rw [show ((Y2.alloc (.cells #[.slice none 0 0, .map none] 52)).drew).heap.size = Y2.heap.size + 1 from (show ((Y2.alloc (.cells #[.slice none 0 0, .map none] 52))).heap.size = Y2.heap.size + 1 by simp)] at h; exact Nat.ne_of_lt h)
     have KA6 := Lib.hid (show Blk ((Y2.alloc (.cells #[.slice none 0 0, .map none] 52)).alloc (.cells #[.slice none 0 0, .map none] 52)).drew (Y2.heap.size + 1) 52 #[.slice none 0 0, .map none] from by have h := Blk.new ((Y2.alloc (.cells #[.slice none 0 0, .map none] 52)).drew) 52 #[.slice none 0 0, .map none]; rw [show ((Y2.alloc (.cells #[.slice none 0 0, .map none] 52)).drew).heap.size = Y2.heap.size + 1 from (show ((Y2.alloc (.cells #[.slice none 0 0, .map none] 52))).heap.size = Y2.heap.size + 1 by simp)] at h; exact h)
     have HL6 := Lib.hid (show Y2.heap.size ≤ Y2.heap.size + 1 from by have h := HBW.out.size; rw [show ((Y2.alloc (.cells #[.slice none 0 0, .map none] 52)).drew).heap.size = Y2.heap.size + 1 from (show ((Y2.alloc (.cells #[.slice none 0 0, .map none] 52))).heap.size = Y2.heap.size + 1 by simp)] at h; exact h)
     have hbA : Below (Y2.alloc (.cells #[.slice none 0 0, .map none] 52)).drew.heap.size (Y2.alloc (.cells #[.slice none 0 0, .map none] 52)).drew (((Y2.alloc (.cells #[.slice none 0 0, .map none] 52)).alloc (.cells #[.slice none 0 0, .map none] 52)).drew) := bal (bre (Y2.alloc (.cells #[.slice none 0 0, .map none] 52)).drew) (.cells #[.slice none 0 0, .map none] 52)
     replace HBW := Lib.hid (bstep HBW.out hbA)
     replace KA7 := Lib.hid (KA7.out.belowS hbA); clear hbA
     refine hK.out _ _ (KW.out _ HBW.out) (fun _ => ?_); clear hK K
     refine wpAnyH_ready (rs := [2]) (by kernel_rfl) (by simp) ?_
     refine AllReadyH.cons rfl (fun K hK => ?_) AllReadyH.nil; go_simp
     refine (seenG_of (RW := RW) (RH := RH) (l := l) (ns := nodesW l) (bs := bs) (fk := fk) (nk := nk) (n := l.length + 1) _ (HM.out.tree.below HBW.out) (HM.out.place.below HBW.out) (HM.out.scene.below HBW.out) HNO.out (fun _ h => h) HDW.out (HLA.out) HRR.out).mono ?_
     rintro e wc2 ⟨v1, og1, rfl, hse, hbA⟩
     obtain ⟨A1, n1, c1, m1, rfl⟩ := hse.form
     have HSE1 := Lib.hid hse
     clear hse
     replace HBW := Lib.hid (bstep HBW.out hbA)
     replace KA7 := Lib.hid (KA7.out.belowS hbA)
     replace KA6 := Lib.hid (KA6.out.belowS hbA); clear hbA; go_simp
     refine hK.out _ _ (KW.out _ HBW.out) (fun _ => ?_); clear hK K
     refine wpAnyH_ready (rs := [5]) (by kernel_rfl) (by simp) ?_
     refine AllReadyH.cons rfl (fun K hK => ?_) AllReadyH.nil; go_simp
     refine (seenG_of (RW := RW) (RH := RH) (l := l) (ns := topmost (nodesW l) (idW (k : Int)) (idW d.P)) (bs := bs) (fk := fk2) (nk := nk2) (n := l.length + 1) _ (HT2.out.below HBW.out) (HM.out.place.below HBW.out) (HM.out.scene.below HBW.out) HTO.out (fun j hj => by rw [topmost_has HNO.out HMM.out] at hj; exact hj) HDW.out (HLC.out) HRR.out).mono ?_
     rintro e wc5 ⟨v2, og2, rfl, hse, hbA⟩
     obtain ⟨A2, n2, c2, m2, rfl⟩ := hse.form
     have HSE2 := Lib.hid hse
     clear hse
     replace HBW := Lib.hid (bstep HBW.out hbA)
     replace KA7 := Lib.hid (KA7.out.belowS hbA)
     replace KA6 := Lib.hid (KA6.out.belowS hbA)
     replace HSE1 := Lib.hid (HSE1.out.below hbA); clear hbA; go_simp
     refine hK.out _ _ (KW.out _ HBW.out) (fun _ => ?_); clear hK K
     refine wpAnyH_ready (rs := [8]) (by kernel_rfl) (by simp) ?_
     refine AllReadyH.cons rfl (fun K hK => ?_) AllReadyH.nil
     refine Tr.wanted_plain rfl ?_
     refine store_mid0 rfl 52 _ _ rfl (Y2.heap.size + 1) 0 #[.slice A1 n1 c1, .map m1] (by rfl) (by rfl) (by have h := there_blk KA6.out; exact h) Tryz.sizeVx (by simp [Value.oneCell']) ?_
     have xK := blk_puts2 (.slice A1 n1 c1) (.map m1) KA6.out
     have xB := bsets HBW.out HL6.out (#[.slice A1 n1 c1, .map m1] : Array Value).toList 0
     have xA7 := KA7.out.farCells (HN7_6.out) (#[.slice A1 n1 c1, .map m1] : Array Value).toList 0
     have xHSE1 := (HSE1.out.putS KA6.out A1 n1 c1 m1)
     have xHSE2 := (HSE2.out.putS KA6.out A1 n1 c1 m1)
     obtain ⟨wS8, hwS⟩ : ∃ wS, World.setCells wc5 (Y2.heap.size + 1) 0 (#[.slice A1 n1 c1, .map m1] : Array Value).toList = wS := ⟨_, rfl⟩
     rw [hwS] at xK xB xA7 xHSE1 xHSE2 ⊢
     replace HBW := Lib.hid xB
     replace KA6 := Lib.hid xK
     replace KA7 := Lib.hid xA7
     replace HSE1 := Lib.hid xHSE1
     replace HSE2 := Lib.hid xHSE2
     clear hwS xK xB xA7 xHSE1 xHSE2
     refine hK.out _ _ (KW.out _ HBW.out) (fun _ => ?_); clear hK K
     refine wpAnyH_ready (rs := [9]) (by kernel_rfl) (by simp) ?_
     refine AllReadyH.cons rfl (fun K hK => ?_) AllReadyH.nil
     refine Tr.wanted_plain rfl ?_
     refine store_mid0 rfl 52 _ _ rfl (Y2.heap.size) 0 #[.slice A2 n2 c2, .map m2] (by rfl) (by rfl) (by have h := there_blk KA7.out; exact h) Tryz.sizeVx (by simp [Value.oneCell']) ?_
     have xK := blk_puts2 (.slice A2 n2 c2) (.map m2) KA7.out
     have xB := bsets HBW.out HL7.out (#[.slice A2 n2 c2, .map m2] : Array Value).toList 0
     have xA6 := KA6.out.farCells (HN7_6.out.symm) (#[.slice A2 n2 c2, .map m2] : Array Value).toList 0
     have xHSE1 := (HSE1.out.putS KA7.out A2 n2 c2 m2)
     have xHSE2 := (HSE2.out.putS KA7.out A2 n2 c2 m2)
     obtain ⟨wS9, hwS⟩ : ∃ wS, World.setCells wS8 (Y2.heap.size) 0 (#[.slice A2 n2 c2, .map m2] : Array Value).toList = wS := ⟨_, rfl⟩
     rw [hwS] at xK xB xA6 xHSE1 xHSE2 ⊢
     replace HBW := Lib.hid xB
     replace KA7 := Lib.hid xK
     replace KA6 := Lib.hid xA6
     replace HSE1 := Lib.hid xHSE1
     replace HSE2 := Lib.hid xHSE2
     clear hwS xK xB xA6 xHSE1 xHSE2
     refine hK.out _ _ (KW.out _ HBW.out) (fun _ => ?_); clear hK K
     refine wpAnyH_done (by kernel_rfl) ?_ _
     refine NoPanic.normal ?_
     go_wp2_with fail
     go_meet
     exact ⟨_, _, A1, n1, c1, m1, A2, n2, c2, m2, og1, og2, rfl, rfl, KA6.out, KA7.out, HSE1.out, HSE2.out, HBW.out⟩
 obtain ⟨g1, g2, A1, n1, c1, m1, A2, n2, c2, m2, og1, og2, rfl, rfl, hk1, hk2, hs1, hs2, hbc⟩ := hcut
 have K14 := Lib.hid hk1
 have K15 := Lib.hid hk2
 have HS1 := Lib.hid hs1
 have HS2 := Lib.hid hs2
 replace HB := Lib.hid (bstep HB.out hbc)
 replace HL := Lib.hid (HL.out.below hbc)
 clear hk1 hk2 hs1 hs2 hbc HM HT2 KT KP K12
 obtain ⟨V, hV⟩ : ∃ Z, Z = wc := ⟨_, rfl⟩
 subst hV
 obtain ⟨m9, hm9⟩ : ∃ m, l.length = m := ⟨_, rfl⟩
 have hlx : l.length = m9 := hm9
 rw [hm9] at HKL HL k1 z1 z2 ⊢
 have HM9 := Lib.hid hm9
 clear hm9 hlx
 go_wp2_with fail
 go_loopw [16] (fun i wr => ∃ j : Int, i = .int .i64 j ∧ (-1 ≤ j ∧ j ≤ (m9 : Int)) ∧ Below V.heap.size V wr) (fun i _ => ((m9 : Int) - intOf i).toNat)
 case atStart => exact ⟨-1, rfl, by omega, bre V⟩
 case round =>
  obtain ⟨j, rfl, hj, hbw⟩ := hrel
  have HBZ := Lib.hid hbw
  clear hbw
  by_cases hlt : j < (m9 : Int)
  ·
   have hjd : -1 ≤ j ∧ j ≤ 1000000 := by have := HL7.out; have := HM9.out; omega
   have HIJ := Lib.hid (idW_bd hjd)
   obtain ⟨Z, hZ⟩ : ∃ Z, Z = wr := ⟨_, rfl⟩
   subst hZ
   go_upto_region 18 with fail
   go_loopw [17, 18] (fun s17 s18 wr => ∃ (b : Bool) (m : Int), s17 = .bool b ∧ s18 = .int .i64 m ∧ (-1 ≤ m ∧ m < (m9 : Int)) ∧ (decide (idW (k : Int) ∈ pathN (nodesW l) (idW j)) = (b || decide (idW (k : Int) ∈ pathN (nodesW l) (idW m)))) ∧ Below Z.heap.size Z wr) (fun _ s18 _ => (intOf s18 + 1).toNat)
   case atStart => exact ⟨false, j, rfl, rfl, by omega, by simp, bre Z⟩
   case round =>
    obtain ⟨b, m, rfl, rfl, hm, hpa, hbq⟩ := hrel
    have HBQ := Lib.hid (bstep HBZ.out hbq)
    have HBI := Lib.hid hbq
    have HPA := Lib.hid hpa
    clear hbq hpa
    by_cases hm0 : 0 ≤ m
    ·
     obtain ⟨mi, rfl⟩ : ∃ mi : Nat, m = (mi : Int) := ⟨m.toNat, by omega⟩
     obtain ⟨dm, hdm⟩ : ∃ dm, l[mi]? = some dm := ⟨_, List.getElem?_eq_getElem (by have := HM9.out; omega)⟩
     have hup := HUP.out mi dm hdm
     obtain ⟨b8, o8, e8, hb8, hc8⟩ := (HL.out.below HBQ.out).at_ (by omega)
     cases e8
     obtain ⟨⟨q8, _⟩, _⟩ := hc8 mi dm hdm
     rw [Nat.zero_add] at q8
     have HNX := Lib.hid (show decide (idW (k : Int) ∈ pathN (nodesW l) (idW j)) = ((b || ((mi : Int) == (k : Int))) || decide (idW (k : Int) ∈ pathN (nodesW l) (idW dm.P))) by
      rw [HPA.out, (path_step HNO.out (upOf_mem (nodesW_nodup l) (nodesW_mem.2 ⟨mi, dm, hdm, rfl⟩))).1]
      have e9 : (idW (k : Int) = idW (mi : Int)) ↔ ((mi : Int) = (k : Int)) := ⟨fun h => (idW_inj (by omega) (by omega) h).symm, fun h => by rw [h]⟩
      have e10 : decide (idW (k : Int) ∈ idW (mi : Int) :: pathN (nodesW l) (idW dm.P)) = (((mi : Int) == (k : Int)) || decide (idW (k : Int) ∈ pathN (nodesW l) (idW dm.P))) := by
       rw [Bool.eq_iff_iff]
       simp only [decide_eq_true_eq, List.mem_cons, Bool.or_eq_true, beq_iff_eq, e9]
      rw [e10, Bool.or_assoc])
     have k2 : (mi : Int) < (m9 : Int) := by omega
     have k3 : ((mi : Int) ≥ 0) := by omega
     have k4 : (0 : Int) ≤ (mi : Int) := by omega
     clear hc8 hdm hb8
     cases b
     ·
      obtain ⟨bb, hbb⟩ : ∃ bb, ((mi : Int) == (k : Int)) = bb := ⟨_, rfl⟩
      rw [hbb] at HNX
      go_wp2_with fail
      go_roundw
      case rel => exact ⟨bb, dm.P, rfl, rfl, by omega, by simpa using HNX.out, HBI.out⟩
      case measure => simp [intOf]; omega
     ·
      go_wp2_with fail
      go_roundw
      case rel => exact ⟨true, dm.P, rfl, rfl, by omega, by simpa using HNX.out, HBI.out⟩
      case measure => simp [intOf]; omega
    ·
     obtain rfl : m = -1 := by omega
     have hin : decide (idW (k : Int) ∈ pathN (nodesW l) (idW j)) = b := by
      rw [HPA.out, idW_root, path_root HNO.out]
      have := HK1.out
      cases b <;> simp [this]
     have HHJ := Lib.hid (show hasN (nodesW l) (idW j) = true from hasW hj.1 (by have := HM9.out; omega))
     have HBL := Lib.hid (show (idW j ∈ belowAt (nodesW l) (idW (k : Int))) ↔ b = true by
      rw [below_iff HNO.out HHK.out, ← hin]
      simp)
     clear hin
     obtain ⟨U, hU⟩ : ∃ Z, Z = wr := ⟨_, rfl⟩
     subst hU
     go_upto_region 21 with fail
     go_cut [19, 20] (fun s19 s20 wx => ∃ (g19 g20 : Nat) (Aa : Option Addr) (ca : Nat) (Ab : Option Addr) (cb : Nat) (oa ob : List RC), s19 = .pointer (some ⟨g19, 0, none⟩) ∧ s20 = .pointer (some ⟨g20, 0, none⟩) ∧ (Blk wx g19 57 #[.slice Aa oa.length ca] ∧ Blk wx g20 57 #[.slice Ab ob.length cb]) ∧ (RegAt wx (.agg #[.slice Aa oa.length ca]) oa ∧ RegAt wx (.agg #[.slice Ab ob.length cb]) ob) ∧ ((∀ x y, inB oa x y = shG RW RH (nodesW l) (bxS RW RH l) x y (idW j)) ∧ ∀ x y, inB ob x y = shG RW RH (topmost (nodesW l) (idW (k : Int)) (idW d.P)) (bxS RW RH l) x y (idW j)) ∧ Below U.heap.size U wx)
     case first =>
      as_aux_lemma =>
       have HBW := Lib.hid (show Below U.heap.size U U.drew from (bre U).drew)
       have KW := Lib.hid (fun (W' : World) (h : Below U.heap.size U W') => show (fun w' => w'.cell? ⟨g1, 0, none⟩ = some (.slice A1 n1 c1) ∧ w'.cell? ⟨g1, 1, none⟩ = some (.map m1) ∧ w'.cell? ⟨g2, 0, none⟩ = some (.slice A2 n2 c2) ∧ w'.cell? ⟨g2, 1, none⟩ = some (.map m2)) W' from ⟨((K14.out.belowS HBQ.out).belowS h).cellV (i := 0) rfl, ((K14.out.belowS HBQ.out).belowS h).cellV (i := 1) rfl, ((K15.out.belowS HBQ.out).belowS h).cellV (i := 0) rfl, ((K15.out.belowS HBQ.out).belowS h).cellV (i := 1) rfl⟩)
       refine wp_region_noPanic ?_
       refine wp_region_held_drew (S := (fun w' => w'.cell? ⟨g1, 0, none⟩ = some (.slice A1 n1 c1) ∧ w'.cell? ⟨g1, 1, none⟩ = some (.map m1) ∧ w'.cell? ⟨g2, 0, none⟩ = some (.slice A2 n2 c2) ∧ w'.cell? ⟨g2, 1, none⟩ = some (.map m2))) (by kernel_rfl) ?_ (fun _ => ?_)
       ·
        (try dsimp only)
        exact ⟨((K14.out.belowS HBQ.out).belowS HBW.out).cellV (i := 0) rfl, ((K14.out.belowS HBQ.out).belowS HBW.out).cellV (i := 1) rfl, ((K15.out.belowS HBQ.out).belowS HBW.out).cellV (i := 0) rfl, ((K15.out.belowS HBQ.out).belowS HBW.out).cellV (i := 1) rfl⟩
       refine Tr.take_at 0 97 (.agg #[.slice A1 n1 c1, .map m1]) rfl rfl (by kernel_rfl) (by kernel_rfl) (by kernel_rfl) (fun _ _ _ h => h) (Or.inl ⟨by rfl, ?_⟩) (by assumption) ?_
       ·
        intro W0 hSw
        (try dsimp only at hSw)
        go_simp
       simp only [List.set_cons_zero, List.set_cons_succ]
       refine Tr.take_at 1 98 (.int .i64 j) rfl rfl (by kernel_rfl) (by kernel_rfl) (by kernel_rfl) (fun _ _ _ h => h) (Or.inl ⟨by rfl, ?_⟩) (by assumption) ?_
       ·
        intro W0 hSw
        (try dsimp only at hSw)
        go_simp
       simp only [List.set_cons_zero, List.set_cons_succ]
       refine Tr.take_at 4 101 (.agg #[.slice A2 n2 c2, .map m2]) rfl rfl (by kernel_rfl) (by kernel_rfl) (by kernel_rfl) (fun _ _ _ h => h) (Or.inl ⟨by rfl, ?_⟩) (by assumption) ?_
       ·
        intro W0 hSw
        (try dsimp only at hSw)
        go_simp
       simp only [List.set_cons_zero, List.set_cons_succ]
       refine Tr.take_at 5 102 (.int .i64 j) rfl rfl (by kernel_rfl) (by kernel_rfl) (by kernel_rfl) (fun _ _ _ h => h) (Or.inl ⟨by rfl, ?_⟩) (by assumption) ?_
       ·
        intro W0 hSw
        (try dsimp only at hSw)
        go_simp
       simp only [List.set_cons_zero, List.set_cons_succ]
       refine wpAnyH_ready (rs := [2, 8, 9]) (by kernel_rfl) (by simp) ?_
       refine AllReadyH.cons rfl (fun K hK => ?_) (AllReadyH.cons rfl (fun K hK => ?_) (AllReadyH.cons rfl (fun K hK => ?_) AllReadyH.nil))
       ·
        go_simp
        refine (id_b (j) _ hjd).mono ?_
        rintro e wd2 ⟨rfl, hbA⟩
        replace HBW := Lib.hid (bstep HBW.out hbA); clear hbA; go_simp
        refine hK.out _ _ (KW.out _ HBW.out) (fun _ => ?_); clear hK K
        refine wpAnyH_ready (rs := [3, 8, 9]) (by kernel_rfl) (by simp) ?_
        refine AllReadyH.cons rfl (fun K hK => ?_) (AllReadyH.cons rfl (fun K hK => ?_) (AllReadyH.cons rfl (fun K hK => ?_) AllReadyH.nil))
        ·
         go_simp
         refine (((HS1.out.below HBQ.out).below HBW.out).clip HNO.out (idW j) HIJ.out).mono ?_
         rintro e wd3 ⟨u3, out3, rfl, hro, hpo, hao, hln, hbA⟩
         have hro2 := hro
         obtain ⟨Ao3, co3, rfl, _⟩ := hro2
         have HRG3 := Lib.hid hro
         have HPO3 := Lib.hid hpo
         clear hro hpo hao hln
         replace HBW := Lib.hid (bstep HBW.out hbA); clear hbA; go_simp
         refine hK.out _ _ (KW.out _ HBW.out) (fun _ => ?_); clear hK K
         refine wpAnyH_ready (rs := [6, 8, 9]) (by kernel_rfl) (by simp) ?_
         refine AllReadyH.cons rfl (fun K hK => ?_) (AllReadyH.cons rfl (fun K hK => ?_) (AllReadyH.cons rfl (fun K hK => ?_) AllReadyH.nil))
         ·
          go_simp
          refine (id_b (j) _ hjd).mono ?_
          rintro e wd6 ⟨rfl, hbA⟩
          replace HBW := Lib.hid (bstep HBW.out hbA)
          replace HRG3 := Lib.hid (HRG3.out.below hbA); clear hbA; go_simp
          refine hK.out _ _ (KW.out _ HBW.out) (fun _ => ?_); clear hK K
          refine wpAnyH_ready (rs := [7, 8, 9]) (by kernel_rfl) (by simp) ?_
          refine AllReadyH.cons rfl (fun K hK => ?_) (AllReadyH.cons rfl (fun K hK => ?_) (AllReadyH.cons rfl (fun K hK => ?_) AllReadyH.nil))
          ·
           go_simp
           refine (((HS2.out.below HBQ.out).below HBW.out).clip HTO.out (idW j) HIJ.out).mono ?_
           rintro e wd7 ⟨u7, out7, rfl, hro, hpo, hao, hln, hbA⟩
           have hro2 := hro
           obtain ⟨Ao7, co7, rfl, _⟩ := hro2
           have HRG7 := Lib.hid hro
           have HPO7 := Lib.hid hpo
           clear hro hpo hao hln
           replace HBW := Lib.hid (bstep HBW.out hbA)
           replace HRG3 := Lib.hid (HRG3.out.below hbA); clear hbA; go_simp
           refine hK.out _ _ (KW.out _ HBW.out) (fun _ => ?_); clear hK K
           refine wpAnyH_ready (rs := [8, 9]) (by kernel_rfl) (by simp) ?_
           refine AllReadyH.cons rfl (fun K hK => ?_) (AllReadyH.cons rfl (fun K hK => ?_) AllReadyH.nil)
           ·
            go_simp
            have KA8 := Lib.hid (show Blk (wd7.alloc (.cells #[.slice none 0 0] 57)) (wd7.heap.size) 57 #[.slice none 0 0] from Blk.new wd7 57 #[.slice none 0 0])
            have HL8 := Lib.hid (show U.heap.size ≤ wd7.heap.size from HBW.out.size)
            have hbA : Below wd7.heap.size wd7 ((wd7.alloc (.cells #[.slice none 0 0] 57))) := bal (bre wd7) (.cells #[.slice none 0 0] 57)
            replace HBW := Lib.hid (bstep HBW.out hbA)
            replace HRG3 := Lib.hid (HRG3.out.below hbA)
            replace HRG7 := Lib.hid (HRG7.out.below hbA); clear hbA
            refine hK.out _ _ (KW.out _ HBW.out) (fun _ => ?_); clear hK K
            refine wpAnyH_ready (rs := [9]) (by kernel_rfl) (by simp) ?_
            refine AllReadyH.cons rfl (fun K hK => ?_) AllReadyH.nil; go_simp
            have HN8_9 := Lib.hid (show wd7.heap.size ≠ wd7.heap.size + 1 from by have h := KA8.out.lt; rw [show ((wd7.alloc (.cells #[.slice none 0 0] 57))).heap.size = wd7.heap.size + 1 from (show ((wd7.alloc (.cells #[.slice none 0 0] 57))).heap.size = wd7.heap.size + 1 by simp)] at h; exact Nat.ne_of_lt h)
            have KA9 := Lib.hid (show Blk ((wd7.alloc (.cells #[.slice none 0 0] 57)).alloc (.cells #[.slice none 0 0] 57)) (wd7.heap.size + 1) 57 #[.slice none 0 0] from by have h := Blk.new ((wd7.alloc (.cells #[.slice none 0 0] 57))) 57 #[.slice none 0 0]; rw [show ((wd7.alloc (.cells #[.slice none 0 0] 57))).heap.size = wd7.heap.size + 1 from (show ((wd7.alloc (.cells #[.slice none 0 0] 57))).heap.size = wd7.heap.size + 1 by simp)] at h; exact h)
            have HL9 := Lib.hid (show U.heap.size ≤ wd7.heap.size + 1 from by have h := HBW.out.size; rw [show ((wd7.alloc (.cells #[.slice none 0 0] 57))).heap.size = wd7.heap.size + 1 from (show ((wd7.alloc (.cells #[.slice none 0 0] 57))).heap.size = wd7.heap.size + 1 by simp)] at h; exact h)
            have hbA : Below (wd7.alloc (.cells #[.slice none 0 0] 57)).heap.size (wd7.alloc (.cells #[.slice none 0 0] 57)) (((wd7.alloc (.cells #[.slice none 0 0] 57)).alloc (.cells #[.slice none 0 0] 57))) := bal (bre (wd7.alloc (.cells #[.slice none 0 0] 57))) (.cells #[.slice none 0 0] 57)
            replace HBW := Lib.hid (bstep HBW.out hbA)
            replace KA8 := Lib.hid (KA8.out.belowS hbA)
            replace HRG3 := Lib.hid (HRG3.out.below hbA)
            replace HRG7 := Lib.hid (HRG7.out.below hbA); clear hbA
            refine hK.out _ _ (KW.out _ HBW.out) (fun _ => ?_); clear hK K
            refine wpAnyH_ready (rs := [10]) (by kernel_rfl) (by simp) ?_
            refine AllReadyH.cons rfl (fun K hK => ?_) AllReadyH.nil
            refine Tr.wanted_plain rfl ?_
            refine store_mid0 rfl 57 _ _ rfl (wd7.heap.size) 0 #[.slice Ao3 out3.length co3] (by rfl) (by rfl) (by have h := there_blk KA8.out; exact h) Tryz.sizeRgX (by simp [Value.oneCell']) ?_
            have xK := blk_puts1 (.slice Ao3 out3.length co3) KA8.out
            have xB := bsets HBW.out HL8.out (#[.slice Ao3 out3.length co3] : Array Value).toList 0
            have xA9 := KA9.out.farCells (HN8_9.out.symm) (#[.slice Ao3 out3.length co3] : Array Value).toList 0
            have xHRG3 := (HRG3.out.putS KA8.out (.slice Ao3 out3.length co3))
            have xHRG7 := (HRG7.out.putS KA8.out (.slice Ao3 out3.length co3))
            obtain ⟨wS10, hwS⟩ : ∃ wS, World.setCells ((wd7.alloc (.cells #[.slice none 0 0] 57)).alloc (.cells #[.slice none 0 0] 57)) (wd7.heap.size) 0 (#[.slice Ao3 out3.length co3] : Array Value).toList = wS := ⟨_, rfl⟩
            rw [hwS] at xK xB xA9 xHRG3 xHRG7 ⊢
            replace HBW := Lib.hid xB
            replace KA8 := Lib.hid xK
            replace KA9 := Lib.hid xA9
            replace HRG3 := Lib.hid xHRG3
            replace HRG7 := Lib.hid xHRG7
            clear hwS xK xB xA9 xHRG3 xHRG7
            refine hK.out _ _ (KW.out _ HBW.out) (fun _ => ?_); clear hK K
            refine wpAnyH_ready (rs := [11]) (by kernel_rfl) (by simp) ?_
            refine AllReadyH.cons rfl (fun K hK => ?_) AllReadyH.nil
            refine Tr.wanted_plain rfl ?_
            refine store_mid0 rfl 57 _ _ rfl (wd7.heap.size + 1) 0 #[.slice Ao7 out7.length co7] (by rfl) (by rfl) (by have h := there_blk KA9.out; exact h) Tryz.sizeRgX (by simp [Value.oneCell']) ?_
            have xK := blk_puts1 (.slice Ao7 out7.length co7) KA9.out
            have xB := bsets HBW.out HL9.out (#[.slice Ao7 out7.length co7] : Array Value).toList 0
            have xA8 := KA8.out.farCells (HN8_9.out) (#[.slice Ao7 out7.length co7] : Array Value).toList 0
            have xHRG3 := (HRG3.out.putS KA9.out (.slice Ao7 out7.length co7))
            have xHRG7 := (HRG7.out.putS KA9.out (.slice Ao7 out7.length co7))
            obtain ⟨wS11, hwS⟩ : ∃ wS, World.setCells wS10 (wd7.heap.size + 1) 0 (#[.slice Ao7 out7.length co7] : Array Value).toList = wS := ⟨_, rfl⟩
            rw [hwS] at xK xB xA8 xHRG3 xHRG7 ⊢
            replace HBW := Lib.hid xB
            replace KA9 := Lib.hid xK
            replace KA8 := Lib.hid xA8
            replace HRG3 := Lib.hid xHRG3
            replace HRG7 := Lib.hid xHRG7
            clear hwS xK xB xA8 xHRG3 xHRG7
            refine hK.out _ _ (KW.out _ HBW.out) (fun _ => ?_); clear hK K
            refine wpAnyH_done (by kernel_rfl) ?_ _
            refine NoPanic.normal ?_
            go_wp2_with fail
            go_meet
            exact ⟨_, _, Ao3, co3, Ao7, co7, out3, out7, rfl, rfl, ⟨KA8.out, KA9.out⟩, ⟨HRG3.out, HRG7.out⟩, ⟨HPO3.out, HPO7.out⟩, HBW.out⟩
           ·
            go_simp
            have KA9 := Lib.hid (show Blk (wd7.alloc (.cells #[.slice none 0 0] 57)) (wd7.heap.size) 57 #[.slice none 0 0] from Blk.new wd7 57 #[.slice none 0 0])
            have HL9 := Lib.hid (show U.heap.size ≤ wd7.heap.size from HBW.out.size)
            have hbA : Below wd7.heap.size wd7 ((wd7.alloc (.cells #[.slice none 0 0] 57))) := bal (bre wd7) (.cells #[.slice none 0 0] 57)
            replace HBW := Lib.hid (bstep HBW.out hbA)
            replace HRG3 := Lib.hid (HRG3.out.below hbA)
            replace HRG7 := Lib.hid (HRG7.out.below hbA); clear hbA
            refine hK.out _ _ (KW.out _ HBW.out) (fun _ => ?_); clear hK K
            refine wpAnyH_ready (rs := [8]) (by kernel_rfl) (by simp) ?_
            refine AllReadyH.cons rfl (fun K hK => ?_) AllReadyH.nil; go_simp
            have HN9_8 := Lib.hid (show wd7.heap.size ≠ wd7.heap.size + 1 from by have h := KA9.out.lt; rw [show ((wd7.alloc (.cells #[.slice none 0 0] 57))).heap.size = wd7.heap.size + 1 from (show ((wd7.alloc (.cells #[.slice none 0 0] 57))).heap.size = wd7.heap.size + 1 by simp)] at h; exact Nat.ne_of_lt h)
            have KA8 := Lib.hid (show Blk ((wd7.alloc (.cells #[.slice none 0 0] 57)).alloc (.cells #[.slice none 0 0] 57)) (wd7.heap.size + 1) 57 #[.slice none 0 0] from by have h := Blk.new ((wd7.alloc (.cells #[.slice none 0 0] 57))) 57 #[.slice none 0 0]; rw [show ((wd7.alloc (.cells #[.slice none 0 0] 57))).heap.size = wd7.heap.size + 1 from (show ((wd7.alloc (.cells #[.slice none 0 0] 57))).heap.size = wd7.heap.size + 1 by simp)] at h; exact h)
            have HL8 := Lib.hid (show U.heap.size ≤ wd7.heap.size + 1 from by have h := HBW.out.size; rw [show ((wd7.alloc (.cells #[.slice none 0 0] 57))).heap.size = wd7.heap.size + 1 from (show ((wd7.alloc (.cells #[.slice none 0 0] 57))).heap.size = wd7.heap.size + 1 by simp)] at h; exact h)
            have hbA : Below (wd7.alloc (.cells #[.slice none 0 0] 57)).heap.size (wd7.alloc (.cells #[.slice none 0 0] 57)) (((wd7.alloc (.cells #[.slice none 0 0] 57)).alloc (.cells #[.slice none 0 0] 57))) := bal (bre (wd7.alloc (.cells #[.slice none 0 0] 57))) (.cells #[.slice none 0 0] 57)
            replace HBW := Lib.hid (bstep HBW.out hbA)
            replace KA9 := Lib.hid (KA9.out.belowS hbA)
            replace HRG3 := Lib.hid (HRG3.out.below hbA)
            replace HRG7 := Lib.hid (HRG7.out.below hbA); clear hbA
            refine hK.out _ _ (KW.out _ HBW.out) (fun _ => ?_); clear hK K
            refine wpAnyH_ready (rs := [10]) (by kernel_rfl) (by simp) ?_
            refine AllReadyH.cons rfl (fun K hK => ?_) AllReadyH.nil
            refine Tr.wanted_plain rfl ?_
            refine store_mid0 rfl 57 _ _ rfl (wd7.heap.size + 1) 0 #[.slice Ao3 out3.length co3] (by rfl) (by rfl) (by have h := there_blk KA8.out; exact h) Tryz.sizeRgX (by simp [Value.oneCell']) ?_
            have xK := blk_puts1 (.slice Ao3 out3.length co3) KA8.out
            have xB := bsets HBW.out HL8.out (#[.slice Ao3 out3.length co3] : Array Value).toList 0
            have xA9 := KA9.out.farCells (HN9_8.out) (#[.slice Ao3 out3.length co3] : Array Value).toList 0
            have xHRG3 := (HRG3.out.putS KA8.out (.slice Ao3 out3.length co3))
            have xHRG7 := (HRG7.out.putS KA8.out (.slice Ao3 out3.length co3))
            obtain ⟨wS10, hwS⟩ : ∃ wS, World.setCells ((wd7.alloc (.cells #[.slice none 0 0] 57)).alloc (.cells #[.slice none 0 0] 57)) (wd7.heap.size + 1) 0 (#[.slice Ao3 out3.length co3] : Array Value).toList = wS := ⟨_, rfl⟩
            rw [hwS] at xK xB xA9 xHRG3 xHRG7 ⊢
            replace HBW := Lib.hid xB
            replace KA8 := Lib.hid xK
            replace KA9 := Lib.hid xA9
            replace HRG3 := Lib.hid xHRG3
            replace HRG7 := Lib.hid xHRG7
            clear hwS xK xB xA9 xHRG3 xHRG7
            refine hK.out _ _ (KW.out _ HBW.out) (fun _ => ?_); clear hK K
            refine wpAnyH_ready (rs := [11]) (by kernel_rfl) (by simp) ?_
            refine AllReadyH.cons rfl (fun K hK => ?_) AllReadyH.nil
            refine Tr.wanted_plain rfl ?_
            refine store_mid0 rfl 57 _ _ rfl (wd7.heap.size) 0 #[.slice Ao7 out7.length co7] (by rfl) (by rfl) (by have h := there_blk KA9.out; exact h) Tryz.sizeRgX (by simp [Value.oneCell']) ?_
            have xK := blk_puts1 (.slice Ao7 out7.length co7) KA9.out
            have xB := bsets HBW.out HL9.out (#[.slice Ao7 out7.length co7] : Array Value).toList 0
            have xA8 := KA8.out.farCells (HN9_8.out.symm) (#[.slice Ao7 out7.length co7] : Array Value).toList 0
            have xHRG3 := (HRG3.out.putS KA9.out (.slice Ao7 out7.length co7))
            have xHRG7 := (HRG7.out.putS KA9.out (.slice Ao7 out7.length co7))
            obtain ⟨wS11, hwS⟩ : ∃ wS, World.setCells wS10 (wd7.heap.size) 0 (#[.slice Ao7 out7.length co7] : Array Value).toList = wS := ⟨_, rfl⟩
            rw [hwS] at xK xB xA8 xHRG3 xHRG7 ⊢
            replace HBW := Lib.hid xB
            replace KA9 := Lib.hid xK
            replace KA8 := Lib.hid xA8
            replace HRG3 := Lib.hid xHRG3
            replace HRG7 := Lib.hid xHRG7
            clear hwS xK xB xA8 xHRG3 xHRG7
            refine hK.out _ _ (KW.out _ HBW.out) (fun _ => ?_); clear hK K
            refine wpAnyH_done (by kernel_rfl) ?_ _
            refine NoPanic.normal ?_
            go_wp2_with fail
            go_meet
            exact ⟨_, _, Ao3, co3, Ao7, co7, out3, out7, rfl, rfl, ⟨KA8.out, KA9.out⟩, ⟨HRG3.out, HRG7.out⟩, ⟨HPO3.out, HPO7.out⟩, HBW.out⟩
          ·
           go_simp
           have KA8 := Lib.hid (show Blk (wd6.alloc (.cells #[.slice none 0 0] 57)) (wd6.heap.size) 57 #[.slice none 0 0] from Blk.new wd6 57 #[.slice none 0 0])
           have HL8 := Lib.hid (show U.heap.size ≤ wd6.heap.size from HBW.out.size)
           have hbA : Below wd6.heap.size wd6 ((wd6.alloc (.cells #[.slice none 0 0] 57))) := bal (bre wd6) (.cells #[.slice none 0 0] 57)
           replace HBW := Lib.hid (bstep HBW.out hbA)
           replace HRG3 := Lib.hid (HRG3.out.below hbA); clear hbA
           refine hK.out _ _ (KW.out _ HBW.out) (fun _ => ?_); clear hK K
           refine wpAnyH_ready (rs := [7, 9]) (by kernel_rfl) (by simp) ?_
           refine AllReadyH.cons rfl (fun K hK => ?_) (AllReadyH.cons rfl (fun K hK => ?_) AllReadyH.nil)
           ·
            go_simp
            refine (((HS2.out.below HBQ.out).below HBW.out).clip HTO.out (idW j) HIJ.out).mono ?_
            rintro e wd7 ⟨u7, out7, rfl, hro, hpo, hao, hln, hbA⟩
            have hro2 := hro
            obtain ⟨Ao7, co7, rfl, _⟩ := hro2
            have HRG7 := Lib.hid hro
            have HPO7 := Lib.hid hpo
            clear hro hpo hao hln
            replace HBW := Lib.hid (bstep HBW.out hbA)
            replace KA8 := Lib.hid (KA8.out.belowS hbA)
            replace HRG3 := Lib.hid (HRG3.out.below hbA); clear hbA; go_simp
            refine hK.out _ _ (KW.out _ HBW.out) (fun _ => ?_); clear hK K
            refine wpAnyH_ready (rs := [9]) (by kernel_rfl) (by simp) ?_
            refine AllReadyH.cons rfl (fun K hK => ?_) AllReadyH.nil; go_simp
            have HN8_9 := Lib.hid (Nat.ne_of_lt KA8.out.lt)
            have KA9 := Lib.hid (show Blk (wd7.alloc (.cells #[.slice none 0 0] 57)) (wd7.heap.size) 57 #[.slice none 0 0] from Blk.new wd7 57 #[.slice none 0 0])
            have HL9 := Lib.hid (show U.heap.size ≤ wd7.heap.size from HBW.out.size)
            have hbA : Below wd7.heap.size wd7 ((wd7.alloc (.cells #[.slice none 0 0] 57))) := bal (bre wd7) (.cells #[.slice none 0 0] 57)
            replace HBW := Lib.hid (bstep HBW.out hbA)
            replace KA8 := Lib.hid (KA8.out.belowS hbA)
            replace HRG3 := Lib.hid (HRG3.out.below hbA)
            replace HRG7 := Lib.hid (HRG7.out.below hbA); clear hbA
            refine hK.out _ _ (KW.out _ HBW.out) (fun _ => ?_); clear hK K
            refine wpAnyH_ready (rs := [10]) (by kernel_rfl) (by simp) ?_
            refine AllReadyH.cons rfl (fun K hK => ?_) AllReadyH.nil
            refine Tr.wanted_plain rfl ?_
            refine store_mid0 rfl 57 _ _ rfl (wd6.heap.size) 0 #[.slice Ao3 out3.length co3] (by rfl) (by rfl) (by have h := there_blk KA8.out; exact h) Tryz.sizeRgX (by simp [Value.oneCell']) ?_
            have xK := blk_puts1 (.slice Ao3 out3.length co3) KA8.out
            have xB := bsets HBW.out HL8.out (#[.slice Ao3 out3.length co3] : Array Value).toList 0
            have xA9 := KA9.out.farCells (HN8_9.out.symm) (#[.slice Ao3 out3.length co3] : Array Value).toList 0
            have xHRG3 := (HRG3.out.putS KA8.out (.slice Ao3 out3.length co3))
            have xHRG7 := (HRG7.out.putS KA8.out (.slice Ao3 out3.length co3))
            obtain ⟨wS10, hwS⟩ : ∃ wS, World.setCells (wd7.alloc (.cells #[.slice none 0 0] 57)) (wd6.heap.size) 0 (#[.slice Ao3 out3.length co3] : Array Value).toList = wS := ⟨_, rfl⟩
            rw [hwS] at xK xB xA9 xHRG3 xHRG7 ⊢
            replace HBW := Lib.hid xB
            replace KA8 := Lib.hid xK
            replace KA9 := Lib.hid xA9
            replace HRG3 := Lib.hid xHRG3
            replace HRG7 := Lib.hid xHRG7
            clear hwS xK xB xA9 xHRG3 xHRG7
            refine hK.out _ _ (KW.out _ HBW.out) (fun _ => ?_); clear hK K
            refine wpAnyH_ready (rs := [11]) (by kernel_rfl) (by simp) ?_
            refine AllReadyH.cons rfl (fun K hK => ?_) AllReadyH.nil
            refine Tr.wanted_plain rfl ?_
            refine store_mid0 rfl 57 _ _ rfl (wd7.heap.size) 0 #[.slice Ao7 out7.length co7] (by rfl) (by rfl) (by have h := there_blk KA9.out; exact h) Tryz.sizeRgX (by simp [Value.oneCell']) ?_
            have xK := blk_puts1 (.slice Ao7 out7.length co7) KA9.out
            have xB := bsets HBW.out HL9.out (#[.slice Ao7 out7.length co7] : Array Value).toList 0
            have xA8 := KA8.out.farCells (HN8_9.out) (#[.slice Ao7 out7.length co7] : Array Value).toList 0
            have xHRG3 := (HRG3.out.putS KA9.out (.slice Ao7 out7.length co7))
            have xHRG7 := (HRG7.out.putS KA9.out (.slice Ao7 out7.length co7))
            obtain ⟨wS11, hwS⟩ : ∃ wS, World.setCells wS10 (wd7.heap.size) 0 (#[.slice Ao7 out7.length co7] : Array Value).toList = wS := ⟨_, rfl⟩
            rw [hwS] at xK xB xA8 xHRG3 xHRG7 ⊢
            replace HBW := Lib.hid xB
            replace KA9 := Lib.hid xK
            replace KA8 := Lib.hid xA8
            replace HRG3 := Lib.hid xHRG3
            replace HRG7 := Lib.hid xHRG7
            clear hwS xK xB xA8 xHRG3 xHRG7
            refine hK.out _ _ (KW.out _ HBW.out) (fun _ => ?_); clear hK K
            refine wpAnyH_done (by kernel_rfl) ?_ _
            refine NoPanic.normal ?_
            go_wp2_with fail
            go_meet
            exact ⟨_, _, Ao3, co3, Ao7, co7, out3, out7, rfl, rfl, ⟨KA8.out, KA9.out⟩, ⟨HRG3.out, HRG7.out⟩, ⟨HPO3.out, HPO7.out⟩, HBW.out⟩
           ·
            go_simp
            have HN8_9 := Lib.hid (show wd6.heap.size ≠ wd6.heap.size + 1 from by have h := KA8.out.lt; rw [show ((wd6.alloc (.cells #[.slice none 0 0] 57))).heap.size = wd6.heap.size + 1 from (show ((wd6.alloc (.cells #[.slice none 0 0] 57))).heap.size = wd6.heap.size + 1 by simp)] at h; exact Nat.ne_of_lt h)
            have KA9 := Lib.hid (show Blk ((wd6.alloc (.cells #[.slice none 0 0] 57)).alloc (.cells #[.slice none 0 0] 57)) (wd6.heap.size + 1) 57 #[.slice none 0 0] from by have h := Blk.new ((wd6.alloc (.cells #[.slice none 0 0] 57))) 57 #[.slice none 0 0]; rw [show ((wd6.alloc (.cells #[.slice none 0 0] 57))).heap.size = wd6.heap.size + 1 from (show ((wd6.alloc (.cells #[.slice none 0 0] 57))).heap.size = wd6.heap.size + 1 by simp)] at h; exact h)
            have HL9 := Lib.hid (show U.heap.size ≤ wd6.heap.size + 1 from by have h := HBW.out.size; rw [show ((wd6.alloc (.cells #[.slice none 0 0] 57))).heap.size = wd6.heap.size + 1 from (show ((wd6.alloc (.cells #[.slice none 0 0] 57))).heap.size = wd6.heap.size + 1 by simp)] at h; exact h)
            have hbA : Below (wd6.alloc (.cells #[.slice none 0 0] 57)).heap.size (wd6.alloc (.cells #[.slice none 0 0] 57)) (((wd6.alloc (.cells #[.slice none 0 0] 57)).alloc (.cells #[.slice none 0 0] 57))) := bal (bre (wd6.alloc (.cells #[.slice none 0 0] 57))) (.cells #[.slice none 0 0] 57)
            replace HBW := Lib.hid (bstep HBW.out hbA)
            replace KA8 := Lib.hid (KA8.out.belowS hbA)
            replace HRG3 := Lib.hid (HRG3.out.below hbA); clear hbA
            refine hK.out _ _ (KW.out _ HBW.out) (fun _ => ?_); clear hK K
            refine wpAnyH_ready (rs := [7]) (by kernel_rfl) (by simp) ?_
            refine AllReadyH.cons rfl (fun K hK => ?_) AllReadyH.nil; go_simp
            refine (((HS2.out.below HBQ.out).below HBW.out).clip HTO.out (idW j) HIJ.out).mono ?_
            rintro e wd7 ⟨u7, out7, rfl, hro, hpo, hao, hln, hbA⟩
            have hro2 := hro
            obtain ⟨Ao7, co7, rfl, _⟩ := hro2
            have HRG7 := Lib.hid hro
            have HPO7 := Lib.hid hpo
            clear hro hpo hao hln
            replace HBW := Lib.hid (bstep HBW.out hbA)
            replace KA8 := Lib.hid (KA8.out.belowS hbA)
            replace KA9 := Lib.hid (KA9.out.belowS hbA)
            replace HRG3 := Lib.hid (HRG3.out.below hbA); clear hbA; go_simp
            refine hK.out _ _ (KW.out _ HBW.out) (fun _ => ?_); clear hK K
            refine wpAnyH_ready (rs := [10]) (by kernel_rfl) (by simp) ?_
            refine AllReadyH.cons rfl (fun K hK => ?_) AllReadyH.nil
            refine Tr.wanted_plain rfl ?_
            refine store_mid0 rfl 57 _ _ rfl (wd6.heap.size) 0 #[.slice Ao3 out3.length co3] (by rfl) (by rfl) (by have h := there_blk KA8.out; exact h) Tryz.sizeRgX (by simp [Value.oneCell']) ?_
            have xK := blk_puts1 (.slice Ao3 out3.length co3) KA8.out
            have xB := bsets HBW.out HL8.out (#[.slice Ao3 out3.length co3] : Array Value).toList 0
            have xA9 := KA9.out.farCells (HN8_9.out.symm) (#[.slice Ao3 out3.length co3] : Array Value).toList 0
            have xHRG3 := (HRG3.out.putS KA8.out (.slice Ao3 out3.length co3))
            have xHRG7 := (HRG7.out.putS KA8.out (.slice Ao3 out3.length co3))
            obtain ⟨wS10, hwS⟩ : ∃ wS, World.setCells wd7 (wd6.heap.size) 0 (#[.slice Ao3 out3.length co3] : Array Value).toList = wS := ⟨_, rfl⟩
            rw [hwS] at xK xB xA9 xHRG3 xHRG7 ⊢
            replace HBW := Lib.hid xB
            replace KA8 := Lib.hid xK
            replace KA9 := Lib.hid xA9
            replace HRG3 := Lib.hid xHRG3
            replace HRG7 := Lib.hid xHRG7
            clear hwS xK xB xA9 xHRG3 xHRG7
            refine hK.out _ _ (KW.out _ HBW.out) (fun _ => ?_); clear hK K
            refine wpAnyH_ready (rs := [11]) (by kernel_rfl) (by simp) ?_
            refine AllReadyH.cons rfl (fun K hK => ?_) AllReadyH.nil
            refine Tr.wanted_plain rfl ?_
            refine store_mid0 rfl 57 _ _ rfl (wd6.heap.size + 1) 0 #[.slice Ao7 out7.length co7] (by rfl) (by rfl) (by have h := there_blk KA9.out; exact h) Tryz.sizeRgX (by simp [Value.oneCell']) ?_
            have xK := blk_puts1 (.slice Ao7 out7.length co7) KA9.out
            have xB := bsets HBW.out HL9.out (#[.slice Ao7 out7.length co7] : Array Value).toList 0
            have xA8 := KA8.out.farCells (HN8_9.out) (#[.slice Ao7 out7.length co7] : Array Value).toList 0
            have xHRG3 := (HRG3.out.putS KA9.out (.slice Ao7 out7.length co7))
            have xHRG7 := (HRG7.out.putS KA9.out (.slice Ao7 out7.length co7))
            obtain ⟨wS11, hwS⟩ : ∃ wS, World.setCells wS10 (wd6.heap.size + 1) 0 (#[.slice Ao7 out7.length co7] : Array Value).toList = wS := ⟨_, rfl⟩
            rw [hwS] at xK xB xA8 xHRG3 xHRG7 ⊢
            replace HBW := Lib.hid xB
            replace KA9 := Lib.hid xK
            replace KA8 := Lib.hid xA8
            replace HRG3 := Lib.hid xHRG3
            replace HRG7 := Lib.hid xHRG7
            clear hwS xK xB xA8 xHRG3 xHRG7
            refine hK.out _ _ (KW.out _ HBW.out) (fun _ => ?_); clear hK K
            refine wpAnyH_done (by kernel_rfl) ?_ _
            refine NoPanic.normal ?_
            go_wp2_with fail
            go_meet
            exact ⟨_, _, Ao3, co3, Ao7, co7, out3, out7, rfl, rfl, ⟨KA8.out, KA9.out⟩, ⟨HRG3.out, HRG7.out⟩, ⟨HPO3.out, HPO7.out⟩, HBW.out⟩
          ·
           go_simp
           have KA9 := Lib.hid (show Blk (wd6.alloc (.cells #[.slice none 0 0] 57)) (wd6.heap.size) 57 #[.slice none 0 0] from Blk.new wd6 57 #[.slice none 0 0])
           have HL9 := Lib.hid (show U.heap.size ≤ wd6.heap.size from HBW.out.size)
           have hbA : Below wd6.heap.size wd6 ((wd6.alloc (.cells #[.slice none 0 0] 57))) := bal (bre wd6) (.cells #[.slice none 0 0] 57)
           replace HBW := Lib.hid (bstep HBW.out hbA)
           replace HRG3 := Lib.hid (HRG3.out.below hbA); clear hbA
           refine hK.out _ _ (KW.out _ HBW.out) (fun _ => ?_); clear hK K
           refine wpAnyH_ready (rs := [7, 8]) (by kernel_rfl) (by simp) ?_
           refine AllReadyH.cons rfl (fun K hK => ?_) (AllReadyH.cons rfl (fun K hK => ?_) AllReadyH.nil)
           ·
            go_simp
            refine (((HS2.out.below HBQ.out).below HBW.out).clip HTO.out (idW j) HIJ.out).mono ?_
            rintro e wd7 ⟨u7, out7, rfl, hro, hpo, hao, hln, hbA⟩
            have hro2 := hro
            obtain ⟨Ao7, co7, rfl, _⟩ := hro2
            have HRG7 := Lib.hid hro
            have HPO7 := Lib.hid hpo
            clear hro hpo hao hln
            replace HBW := Lib.hid (bstep HBW.out hbA)
            replace KA9 := Lib.hid (KA9.out.belowS hbA)
            replace HRG3 := Lib.hid (HRG3.out.below hbA); clear hbA; go_simp
            refine hK.out _ _ (KW.out _ HBW.out) (fun _ => ?_); clear hK K
            refine wpAnyH_ready (rs := [8]) (by kernel_rfl) (by simp) ?_
            refine AllReadyH.cons rfl (fun K hK => ?_) AllReadyH.nil; go_simp
            have HN9_8 := Lib.hid (Nat.ne_of_lt KA9.out.lt)
            have KA8 := Lib.hid (show Blk (wd7.alloc (.cells #[.slice none 0 0] 57)) (wd7.heap.size) 57 #[.slice none 0 0] from Blk.new wd7 57 #[.slice none 0 0])
            have HL8 := Lib.hid (show U.heap.size ≤ wd7.heap.size from HBW.out.size)
            have hbA : Below wd7.heap.size wd7 ((wd7.alloc (.cells #[.slice none 0 0] 57))) := bal (bre wd7) (.cells #[.slice none 0 0] 57)
            replace HBW := Lib.hid (bstep HBW.out hbA)
            replace KA9 := Lib.hid (KA9.out.belowS hbA)
            replace HRG3 := Lib.hid (HRG3.out.below hbA)
            replace HRG7 := Lib.hid (HRG7.out.below hbA); clear hbA
            refine hK.out _ _ (KW.out _ HBW.out) (fun _ => ?_); clear hK K
            refine wpAnyH_ready (rs := [10]) (by kernel_rfl) (by simp) ?_
            refine AllReadyH.cons rfl (fun K hK => ?_) AllReadyH.nil
            refine Tr.wanted_plain rfl ?_
            refine store_mid0 rfl 57 _ _ rfl (wd7.heap.size) 0 #[.slice Ao3 out3.length co3] (by rfl) (by rfl) (by have h := there_blk KA8.out; exact h) Tryz.sizeRgX (by simp [Value.oneCell']) ?_
            have xK := blk_puts1 (.slice Ao3 out3.length co3) KA8.out
            have xB := bsets HBW.out HL8.out (#[.slice Ao3 out3.length co3] : Array Value).toList 0
            have xA9 := KA9.out.farCells (HN9_8.out) (#[.slice Ao3 out3.length co3] : Array Value).toList 0
            have xHRG3 := (HRG3.out.putS KA8.out (.slice Ao3 out3.length co3))
            have xHRG7 := (HRG7.out.putS KA8.out (.slice Ao3 out3.length co3))
            obtain ⟨wS10, hwS⟩ : ∃ wS, World.setCells (wd7.alloc (.cells #[.slice none 0 0] 57)) (wd7.heap.size) 0 (#[.slice Ao3 out3.length co3] : Array Value).toList = wS := ⟨_, rfl⟩
            rw [hwS] at xK xB xA9 xHRG3 xHRG7 ⊢
            replace HBW := Lib.hid xB
            replace KA8 := Lib.hid xK
            replace KA9 := Lib.hid xA9
            replace HRG3 := Lib.hid xHRG3
            replace HRG7 := Lib.hid xHRG7
            clear hwS xK xB xA9 xHRG3 xHRG7
            refine hK.out _ _ (KW.out _ HBW.out) (fun _ => ?_); clear hK K
            refine wpAnyH_ready (rs := [11]) (by kernel_rfl) (by simp) ?_
            refine AllReadyH.cons rfl (fun K hK => ?_) AllReadyH.nil
            refine Tr.wanted_plain rfl ?_
            refine store_mid0 rfl 57 _ _ rfl (wd6.heap.size) 0 #[.slice Ao7 out7.length co7] (by rfl) (by rfl) (by have h := there_blk KA9.out; exact h) Tryz.sizeRgX (by simp [Value.oneCell']) ?_
            have xK := blk_puts1 (.slice Ao7 out7.length co7) KA9.out
            have xB := bsets HBW.out HL9.out (#[.slice Ao7 out7.length co7] : Array Value).toList 0
            have xA8 := KA8.out.farCells (HN9_8.out.symm) (#[.slice Ao7 out7.length co7] : Array Value).toList 0
            have xHRG3 := (HRG3.out.putS KA9.out (.slice Ao7 out7.length co7))
            have xHRG7 := (HRG7.out.putS KA9.out (.slice Ao7 out7.length co7))
            obtain ⟨wS11, hwS⟩ : ∃ wS, World.setCells wS10 (wd6.heap.size) 0 (#[.slice Ao7 out7.length co7] : Array Value).toList = wS := ⟨_, rfl⟩
            rw [hwS] at xK xB xA8 xHRG3 xHRG7 ⊢
            replace HBW := Lib.hid xB
            replace KA9 := Lib.hid xK
            replace KA8 := Lib.hid xA8
            replace HRG3 := Lib.hid xHRG3
            replace HRG7 := Lib.hid xHRG7
            clear hwS xK xB xA8 xHRG3 xHRG7
            refine hK.out _ _ (KW.out _ HBW.out) (fun _ => ?_); clear hK K
            refine wpAnyH_done (by kernel_rfl) ?_ _
            refine NoPanic.normal ?_
            go_wp2_with fail
            go_meet
            exact ⟨_, _, Ao3, co3, Ao7, co7, out3, out7, rfl, rfl, ⟨KA8.out, KA9.out⟩, ⟨HRG3.out, HRG7.out⟩, ⟨HPO3.out, HPO7.out⟩, HBW.out⟩
           ·
            go_simp
            have HN9_8 := Lib.hid (show wd6.heap.size ≠ wd6.heap.size + 1 from by have h := KA9.out.lt; rw [show ((wd6.alloc (.cells #[.slice none 0 0] 57))).heap.size = wd6.heap.size + 1 from (show ((wd6.alloc (.cells #[.slice none 0 0] 57))).heap.size = wd6.heap.size + 1 by simp)] at h; exact Nat.ne_of_lt h)
            have KA8 := Lib.hid (show Blk ((wd6.alloc (.cells #[.slice none 0 0] 57)).alloc (.cells #[.slice none 0 0] 57)) (wd6.heap.size + 1) 57 #[.slice none 0 0] from by have h := Blk.new ((wd6.alloc (.cells #[.slice none 0 0] 57))) 57 #[.slice none 0 0]; rw [show ((wd6.alloc (.cells #[.slice none 0 0] 57))).heap.size = wd6.heap.size + 1 from (show ((wd6.alloc (.cells #[.slice none 0 0] 57))).heap.size = wd6.heap.size + 1 by simp)] at h; exact h)
            have HL8 := Lib.hid (show U.heap.size ≤ wd6.heap.size + 1 from by have h := HBW.out.size; rw [show ((wd6.alloc (.cells #[.slice none 0 0] 57))).heap.size = wd6.heap.size + 1 from (show ((wd6.alloc (.cells #[.slice none 0 0] 57))).heap.size = wd6.heap.size + 1 by simp)] at h; exact h)
            have hbA : Below (wd6.alloc (.cells #[.slice none 0 0] 57)).heap.size (wd6.alloc (.cells #[.slice none 0 0] 57)) (((wd6.alloc (.cells #[.slice none 0 0] 57)).alloc (.cells #[.slice none 0 0] 57))) := bal (bre (wd6.alloc (.cells #[.slice none 0 0] 57))) (.cells #[.slice none 0 0] 57)
            replace HBW := Lib.hid (bstep HBW.out hbA)
            replace KA9 := Lib.hid (KA9.out.belowS hbA)
            replace HRG3 := Lib.hid (HRG3.out.below hbA); clear hbA
            refine hK.out _ _ (KW.out _ HBW.out) (fun _ => ?_); clear hK K
            refine wpAnyH_ready (rs := [7]) (by kernel_rfl) (by simp) ?_
            refine AllReadyH.cons rfl (fun K hK => ?_) AllReadyH.nil; go_simp
            refine (((HS2.out.below HBQ.out).below HBW.out).clip HTO.out (idW j) HIJ.out).mono ?_
            rintro e wd7 ⟨u7, out7, rfl, hro, hpo, hao, hln, hbA⟩
            have hro2 := hro
            obtain ⟨Ao7, co7, rfl, _⟩ := hro2
            have HRG7 := Lib.hid hro
            have HPO7 := Lib.hid hpo
            clear hro hpo hao hln
            replace HBW := Lib.hid (bstep HBW.out hbA)
            replace KA9 := Lib.hid (KA9.out.belowS hbA)
            replace KA8 := Lib.hid (KA8.out.belowS hbA)
            replace HRG3 := Lib.hid (HRG3.out.below hbA); clear hbA; go_simp
            refine hK.out _ _ (KW.out _ HBW.out) (fun _ => ?_); clear hK K
            refine wpAnyH_ready (rs := [10]) (by kernel_rfl) (by simp) ?_
            refine AllReadyH.cons rfl (fun K hK => ?_) AllReadyH.nil
            refine Tr.wanted_plain rfl ?_
            refine store_mid0 rfl 57 _ _ rfl (wd6.heap.size + 1) 0 #[.slice Ao3 out3.length co3] (by rfl) (by rfl) (by have h := there_blk KA8.out; exact h) Tryz.sizeRgX (by simp [Value.oneCell']) ?_
            have xK := blk_puts1 (.slice Ao3 out3.length co3) KA8.out
            have xB := bsets HBW.out HL8.out (#[.slice Ao3 out3.length co3] : Array Value).toList 0
            have xA9 := KA9.out.farCells (HN9_8.out) (#[.slice Ao3 out3.length co3] : Array Value).toList 0
            have xHRG3 := (HRG3.out.putS KA8.out (.slice Ao3 out3.length co3))
            have xHRG7 := (HRG7.out.putS KA8.out (.slice Ao3 out3.length co3))
            obtain ⟨wS10, hwS⟩ : ∃ wS, World.setCells wd7 (wd6.heap.size + 1) 0 (#[.slice Ao3 out3.length co3] : Array Value).toList = wS := ⟨_, rfl⟩
            rw [hwS] at xK xB xA9 xHRG3 xHRG7 ⊢
            replace HBW := Lib.hid xB
            replace KA8 := Lib.hid xK
            replace KA9 := Lib.hid xA9
            replace HRG3 := Lib.hid xHRG3
            replace HRG7 := Lib.hid xHRG7
            clear hwS xK xB xA9 xHRG3 xHRG7
            refine hK.out _ _ (KW.out _ HBW.out) (fun _ => ?_); clear hK K
            refine wpAnyH_ready (rs := [11]) (by kernel_rfl) (by simp) ?_
            refine AllReadyH.cons rfl (fun K hK => ?_) AllReadyH.nil
            refine Tr.wanted_plain rfl ?_
            refine store_mid0 rfl 57 _ _ rfl (wd6.heap.size) 0 #[.slice Ao7 out7.length co7] (by rfl) (by rfl) (by have h := there_blk KA9.out; exact h) Tryz.sizeRgX (by simp [Value.oneCell']) ?_
            have xK := blk_puts1 (.slice Ao7 out7.length co7) KA9.out
            have xB := bsets HBW.out HL9.out (#[.slice Ao7 out7.length co7] : Array Value).toList 0
            have xA8 := KA8.out.farCells (HN9_8.out.symm) (#[.slice Ao7 out7.length co7] : Array Value).toList 0
            have xHRG3 := (HRG3.out.putS KA9.out (.slice Ao7 out7.length co7))
            have xHRG7 := (HRG7.out.putS KA9.out (.slice Ao7 out7.length co7))
            obtain ⟨wS11, hwS⟩ : ∃ wS, World.setCells wS10 (wd6.heap.size) 0 (#[.slice Ao7 out7.length co7] : Array Value).toList = wS := ⟨_, rfl⟩
            rw [hwS] at xK xB xA8 xHRG3 xHRG7 ⊢
            replace HBW := Lib.hid xB
            replace KA9 := Lib.hid xK
            replace KA8 := Lib.hid xA8
            replace HRG3 := Lib.hid xHRG3
            replace HRG7 := Lib.hid xHRG7
            clear hwS xK xB xA8 xHRG3 xHRG7
            refine hK.out _ _ (KW.out _ HBW.out) (fun _ => ?_); clear hK K
            refine wpAnyH_done (by kernel_rfl) ?_ _
            refine NoPanic.normal ?_
            go_wp2_with fail
            go_meet
            exact ⟨_, _, Ao3, co3, Ao7, co7, out3, out7, rfl, rfl, ⟨KA8.out, KA9.out⟩, ⟨HRG3.out, HRG7.out⟩, ⟨HPO3.out, HPO7.out⟩, HBW.out⟩
         ·
          go_simp
          have KA8 := Lib.hid (show Blk (wd3.alloc (.cells #[.slice none 0 0] 57)) (wd3.heap.size) 57 #[.slice none 0 0] from Blk.new wd3 57 #[.slice none 0 0])
          have HL8 := Lib.hid (show U.heap.size ≤ wd3.heap.size from HBW.out.size)
          have hbA : Below wd3.heap.size wd3 ((wd3.alloc (.cells #[.slice none 0 0] 57))) := bal (bre wd3) (.cells #[.slice none 0 0] 57)
          replace HBW := Lib.hid (bstep HBW.out hbA)
          replace HRG3 := Lib.hid (HRG3.out.below hbA); clear hbA
          refine hK.out _ _ (KW.out _ HBW.out) (fun _ => ?_); clear hK K
          refine wpAnyH_ready (rs := [6, 9]) (by kernel_rfl) (by simp) ?_
          refine AllReadyH.cons rfl (fun K hK => ?_) (AllReadyH.cons rfl (fun K hK => ?_) AllReadyH.nil)
          ·
           go_simp
           refine (id_b (j) _ hjd).mono ?_
           rintro e wd6 ⟨rfl, hbA⟩
           replace HBW := Lib.hid (bstep HBW.out hbA)
           replace KA8 := Lib.hid (KA8.out.belowS hbA)
           replace HRG3 := Lib.hid (HRG3.out.below hbA); clear hbA; go_simp
           refine hK.out _ _ (KW.out _ HBW.out) (fun _ => ?_); clear hK K
           refine wpAnyH_ready (rs := [7, 9]) (by kernel_rfl) (by simp) ?_
           refine AllReadyH.cons rfl (fun K hK => ?_) (AllReadyH.cons rfl (fun K hK => ?_) AllReadyH.nil)
           ·
            go_simp
            refine (((HS2.out.below HBQ.out).below HBW.out).clip HTO.out (idW j) HIJ.out).mono ?_
            rintro e wd7 ⟨u7, out7, rfl, hro, hpo, hao, hln, hbA⟩
            have hro2 := hro
            obtain ⟨Ao7, co7, rfl, _⟩ := hro2
            have HRG7 := Lib.hid hro
            have HPO7 := Lib.hid hpo
            clear hro hpo hao hln
            replace HBW := Lib.hid (bstep HBW.out hbA)
            replace KA8 := Lib.hid (KA8.out.belowS hbA)
            replace HRG3 := Lib.hid (HRG3.out.below hbA); clear hbA; go_simp
            refine hK.out _ _ (KW.out _ HBW.out) (fun _ => ?_); clear hK K
            refine wpAnyH_ready (rs := [9]) (by kernel_rfl) (by simp) ?_
            refine AllReadyH.cons rfl (fun K hK => ?_) AllReadyH.nil; go_simp
            have HN8_9 := Lib.hid (Nat.ne_of_lt KA8.out.lt)
            have KA9 := Lib.hid (show Blk (wd7.alloc (.cells #[.slice none 0 0] 57)) (wd7.heap.size) 57 #[.slice none 0 0] from Blk.new wd7 57 #[.slice none 0 0])
            have HL9 := Lib.hid (show U.heap.size ≤ wd7.heap.size from HBW.out.size)
            have hbA : Below wd7.heap.size wd7 ((wd7.alloc (.cells #[.slice none 0 0] 57))) := bal (bre wd7) (.cells #[.slice none 0 0] 57)
            replace HBW := Lib.hid (bstep HBW.out hbA)
            replace KA8 := Lib.hid (KA8.out.belowS hbA)
            replace HRG3 := Lib.hid (HRG3.out.below hbA)
            replace HRG7 := Lib.hid (HRG7.out.below hbA); clear hbA
            refine hK.out _ _ (KW.out _ HBW.out) (fun _ => ?_); clear hK K
            refine wpAnyH_ready (rs := [10]) (by kernel_rfl) (by simp) ?_
            refine AllReadyH.cons rfl (fun K hK => ?_) AllReadyH.nil
            refine Tr.wanted_plain rfl ?_
            refine store_mid0 rfl 57 _ _ rfl (wd3.heap.size) 0 #[.slice Ao3 out3.length co3] (by rfl) (by rfl) (by have h := there_blk KA8.out; exact h) Tryz.sizeRgX (by simp [Value.oneCell']) ?_
            have xK := blk_puts1 (.slice Ao3 out3.length co3) KA8.out
            have xB := bsets HBW.out HL8.out (#[.slice Ao3 out3.length co3] : Array Value).toList 0
            have xA9 := KA9.out.farCells (HN8_9.out.symm) (#[.slice Ao3 out3.length co3] : Array Value).toList 0
            have xHRG3 := (HRG3.out.putS KA8.out (.slice Ao3 out3.length co3))
            have xHRG7 := (HRG7.out.putS KA8.out (.slice Ao3 out3.length co3))
            obtain ⟨wS10, hwS⟩ : ∃ wS, World.setCells (wd7.alloc (.cells #[.slice none 0 0] 57)) (wd3.heap.size) 0 (#[.slice Ao3 out3.length co3] : Array Value).toList = wS := ⟨_, rfl⟩
            rw [hwS] at xK xB xA9 xHRG3 xHRG7 ⊢
            replace HBW := Lib.hid xB
            replace KA8 := Lib.hid xK
            replace KA9 := Lib.hid xA9
            replace HRG3 := Lib.hid xHRG3
            replace HRG7 := Lib.hid xHRG7
            clear hwS xK xB xA9 xHRG3 xHRG7
            refine hK.out _ _ (KW.out _ HBW.out) (fun _ => ?_); clear hK K
            refine wpAnyH_ready (rs := [11]) (by kernel_rfl) (by simp) ?_
            refine AllReadyH.cons rfl (fun K hK => ?_) AllReadyH.nil
            refine Tr.wanted_plain rfl ?_
            refine store_mid0 rfl 57 _ _ rfl (wd7.heap.size) 0 #[.slice Ao7 out7.length co7] (by rfl) (by rfl) (by have h := there_blk KA9.out; exact h) Tryz.sizeRgX (by simp [Value.oneCell']) ?_
            have xK := blk_puts1 (.slice Ao7 out7.length co7) KA9.out
            have xB := bsets HBW.out HL9.out (#[.slice Ao7 out7.length co7] : Array Value).toList 0
            have xA8 := KA8.out.farCells (HN8_9.out) (#[.slice Ao7 out7.length co7] : Array Value).toList 0
            have xHRG3 := (HRG3.out.putS KA9.out (.slice Ao7 out7.length co7))
            have xHRG7 := (HRG7.out.putS KA9.out (.slice Ao7 out7.length co7))
            obtain ⟨wS11, hwS⟩ : ∃ wS, World.setCells wS10 (wd7.heap.size) 0 (#[.slice Ao7 out7.length co7] : Array Value).toList = wS := ⟨_, rfl⟩
            rw [hwS] at xK xB xA8 xHRG3 xHRG7 ⊢
            replace HBW := Lib.hid xB
            replace KA9 := Lib.hid xK
            replace KA8 := Lib.hid xA8
            replace HRG3 := Lib.hid xHRG3
            replace HRG7 := Lib.hid xHRG7
            clear hwS xK xB xA8 xHRG3 xHRG7
            refine hK.out _ _ (KW.out _ HBW.out) (fun _ => ?_); clear hK K
            refine wpAnyH_done (by kernel_rfl) ?_ _
            refine NoPanic.normal ?_
            go_wp2_with fail
            go_meet
            exact ⟨_, _, Ao3, co3, Ao7, co7, out3, out7, rfl, rfl, ⟨KA8.out, KA9.out⟩, ⟨HRG3.out, HRG7.out⟩, ⟨HPO3.out, HPO7.out⟩, HBW.out⟩
           ·
            go_simp
            have HN8_9 := Lib.hid (Nat.ne_of_lt KA8.out.lt)
            have KA9 := Lib.hid (show Blk (wd6.alloc (.cells #[.slice none 0 0] 57)) (wd6.heap.size) 57 #[.slice none 0 0] from Blk.new wd6 57 #[.slice none 0 0])
            have HL9 := Lib.hid (show U.heap.size ≤ wd6.heap.size from HBW.out.size)
            have hbA : Below wd6.heap.size wd6 ((wd6.alloc (.cells #[.slice none 0 0] 57))) := bal (bre wd6) (.cells #[.slice none 0 0] 57)
            replace HBW := Lib.hid (bstep HBW.out hbA)
            replace KA8 := Lib.hid (KA8.out.belowS hbA)
            replace HRG3 := Lib.hid (HRG3.out.below hbA); clear hbA
            refine hK.out _ _ (KW.out _ HBW.out) (fun _ => ?_); clear hK K
            refine wpAnyH_ready (rs := [7]) (by kernel_rfl) (by simp) ?_
            refine AllReadyH.cons rfl (fun K hK => ?_) AllReadyH.nil; go_simp
            refine (((HS2.out.below HBQ.out).below HBW.out).clip HTO.out (idW j) HIJ.out).mono ?_
            rintro e wd7 ⟨u7, out7, rfl, hro, hpo, hao, hln, hbA⟩
            have hro2 := hro
            obtain ⟨Ao7, co7, rfl, _⟩ := hro2
            have HRG7 := Lib.hid hro
            have HPO7 := Lib.hid hpo
            clear hro hpo hao hln
            replace HBW := Lib.hid (bstep HBW.out hbA)
            replace KA8 := Lib.hid (KA8.out.belowS hbA)
            replace KA9 := Lib.hid (KA9.out.belowS hbA)
            replace HRG3 := Lib.hid (HRG3.out.below hbA); clear hbA; go_simp
            refine hK.out _ _ (KW.out _ HBW.out) (fun _ => ?_); clear hK K
            refine wpAnyH_ready (rs := [10]) (by kernel_rfl) (by simp) ?_
            refine AllReadyH.cons rfl (fun K hK => ?_) AllReadyH.nil
            refine Tr.wanted_plain rfl ?_
            refine store_mid0 rfl 57 _ _ rfl (wd3.heap.size) 0 #[.slice Ao3 out3.length co3] (by rfl) (by rfl) (by have h := there_blk KA8.out; exact h) Tryz.sizeRgX (by simp [Value.oneCell']) ?_
            have xK := blk_puts1 (.slice Ao3 out3.length co3) KA8.out
            have xB := bsets HBW.out HL8.out (#[.slice Ao3 out3.length co3] : Array Value).toList 0
            have xA9 := KA9.out.farCells (HN8_9.out.symm) (#[.slice Ao3 out3.length co3] : Array Value).toList 0
            have xHRG3 := (HRG3.out.putS KA8.out (.slice Ao3 out3.length co3))
            have xHRG7 := (HRG7.out.putS KA8.out (.slice Ao3 out3.length co3))
            obtain ⟨wS10, hwS⟩ : ∃ wS, World.setCells wd7 (wd3.heap.size) 0 (#[.slice Ao3 out3.length co3] : Array Value).toList = wS := ⟨_, rfl⟩
            rw [hwS] at xK xB xA9 xHRG3 xHRG7 ⊢
            replace HBW := Lib.hid xB
            replace KA8 := Lib.hid xK
            replace KA9 := Lib.hid xA9
            replace HRG3 := Lib.hid xHRG3
            replace HRG7 := Lib.hid xHRG7
            clear hwS xK xB xA9 xHRG3 xHRG7
            refine hK.out _ _ (KW.out _ HBW.out) (fun _ => ?_); clear hK K
            refine wpAnyH_ready (rs := [11]) (by kernel_rfl) (by simp) ?_
            refine AllReadyH.cons rfl (fun K hK => ?_) AllReadyH.nil
            refine Tr.wanted_plain rfl ?_
            refine store_mid0 rfl 57 _ _ rfl (wd6.heap.size) 0 #[.slice Ao7 out7.length co7] (by rfl) (by rfl) (by have h := there_blk KA9.out; exact h) Tryz.sizeRgX (by simp [Value.oneCell']) ?_
            have xK := blk_puts1 (.slice Ao7 out7.length co7) KA9.out
            have xB := bsets HBW.out HL9.out (#[.slice Ao7 out7.length co7] : Array Value).toList 0
            have xA8 := KA8.out.farCells (HN8_9.out) (#[.slice Ao7 out7.length co7] : Array Value).toList 0
            have xHRG3 := (HRG3.out.putS KA9.out (.slice Ao7 out7.length co7))
            have xHRG7 := (HRG7.out.putS KA9.out (.slice Ao7 out7.length co7))
            obtain ⟨wS11, hwS⟩ : ∃ wS, World.setCells wS10 (wd6.heap.size) 0 (#[.slice Ao7 out7.length co7] : Array Value).toList = wS := ⟨_, rfl⟩
            rw [hwS] at xK xB xA8 xHRG3 xHRG7 ⊢
            replace HBW := Lib.hid xB
            replace KA9 := Lib.hid xK
            replace KA8 := Lib.hid xA8
            replace HRG3 := Lib.hid xHRG3
            replace HRG7 := Lib.hid xHRG7
            clear hwS xK xB xA8 xHRG3 xHRG7
            refine hK.out _ _ (KW.out _ HBW.out) (fun _ => ?_); clear hK K
            refine wpAnyH_done (by kernel_rfl) ?_ _
            refine NoPanic.normal ?_
            go_wp2_with fail
            go_meet
            exact ⟨_, _, Ao3, co3, Ao7, co7, out3, out7, rfl, rfl, ⟨KA8.out, KA9.out⟩, ⟨HRG3.out, HRG7.out⟩, ⟨HPO3.out, HPO7.out⟩, HBW.out⟩
          ·
           go_simp
           have HN8_9 := Lib.hid (show wd3.heap.size ≠ wd3.heap.size + 1 from by have h := KA8.out.lt; rw [show ((wd3.alloc (.cells #[.slice none 0 0] 57))).heap.size = wd3.heap.size + 1 from (show ((wd3.alloc (.cells #[.slice none 0 0] 57))).heap.size = wd3.heap.size + 1 by simp)] at h; exact Nat.ne_of_lt h)
           have KA9 := Lib.hid (show Blk ((wd3.alloc (.cells #[.slice none 0 0] 57)).alloc (.cells #[.slice none 0 0] 57)) (wd3.heap.size + 1) 57 #[.slice none 0 0] from by have h := Blk.new ((wd3.alloc (.cells #[.slice none 0 0] 57))) 57 #[.slice none 0 0]; rw [show ((wd3.alloc (.cells #[.slice none 0 0] 57))).heap.size = wd3.heap.size + 1 from (show ((wd3.alloc (.cells #[.slice none 0 0] 57))).heap.size = wd3.heap.size + 1 by simp)] at h; exact h)
           have HL9 := Lib.hid (show U.heap.size ≤ wd3.heap.size + 1 from by have h := HBW.out.size; rw [show ((wd3.alloc (.cells #[.slice none 0 0] 57))).heap.size = wd3.heap.size + 1 from (show ((wd3.alloc (.cells #[.slice none 0 0] 57))).heap.size = wd3.heap.size + 1 by simp)] at h; exact h)
           have hbA : Below (wd3.alloc (.cells #[.slice none 0 0] 57)).heap.size (wd3.alloc (.cells #[.slice none 0 0] 57)) (((wd3.alloc (.cells #[.slice none 0 0] 57)).alloc (.cells #[.slice none 0 0] 57))) := bal (bre (wd3.alloc (.cells #[.slice none 0 0] 57))) (.cells #[.slice none 0 0] 57)
           replace HBW := Lib.hid (bstep HBW.out hbA)
           replace KA8 := Lib.hid (KA8.out.belowS hbA)
           replace HRG3 := Lib.hid (HRG3.out.below hbA); clear hbA
           refine hK.out _ _ (KW.out _ HBW.out) (fun _ => ?_); clear hK K
           refine wpAnyH_ready (rs := [6]) (by kernel_rfl) (by simp) ?_
           refine AllReadyH.cons rfl (fun K hK => ?_) AllReadyH.nil; go_simp
           refine (id_b (j) _ hjd).mono ?_
           rintro e wd6 ⟨rfl, hbA⟩
           replace HBW := Lib.hid (bstep HBW.out hbA)
           replace KA8 := Lib.hid (KA8.out.belowS hbA)
           replace KA9 := Lib.hid (KA9.out.belowS hbA)
           replace HRG3 := Lib.hid (HRG3.out.below hbA); clear hbA; go_simp
           refine hK.out _ _ (KW.out _ HBW.out) (fun _ => ?_); clear hK K
           refine wpAnyH_ready (rs := [7]) (by kernel_rfl) (by simp) ?_
           refine AllReadyH.cons rfl (fun K hK => ?_) AllReadyH.nil; go_simp
           refine (((HS2.out.below HBQ.out).below HBW.out).clip HTO.out (idW j) HIJ.out).mono ?_
           rintro e wd7 ⟨u7, out7, rfl, hro, hpo, hao, hln, hbA⟩
           have hro2 := hro
           obtain ⟨Ao7, co7, rfl, _⟩ := hro2
           have HRG7 := Lib.hid hro
           have HPO7 := Lib.hid hpo
           clear hro hpo hao hln
           replace HBW := Lib.hid (bstep HBW.out hbA)
           replace KA8 := Lib.hid (KA8.out.belowS hbA)
           replace KA9 := Lib.hid (KA9.out.belowS hbA)
           replace HRG3 := Lib.hid (HRG3.out.below hbA); clear hbA; go_simp
           refine hK.out _ _ (KW.out _ HBW.out) (fun _ => ?_); clear hK K
           refine wpAnyH_ready (rs := [10]) (by kernel_rfl) (by simp) ?_
           refine AllReadyH.cons rfl (fun K hK => ?_) AllReadyH.nil
           refine Tr.wanted_plain rfl ?_
           refine store_mid0 rfl 57 _ _ rfl (wd3.heap.size) 0 #[.slice Ao3 out3.length co3] (by rfl) (by rfl) (by have h := there_blk KA8.out; exact h) Tryz.sizeRgX (by simp [Value.oneCell']) ?_
           have xK := blk_puts1 (.slice Ao3 out3.length co3) KA8.out
           have xB := bsets HBW.out HL8.out (#[.slice Ao3 out3.length co3] : Array Value).toList 0
           have xA9 := KA9.out.farCells (HN8_9.out.symm) (#[.slice Ao3 out3.length co3] : Array Value).toList 0
           have xHRG3 := (HRG3.out.putS KA8.out (.slice Ao3 out3.length co3))
           have xHRG7 := (HRG7.out.putS KA8.out (.slice Ao3 out3.length co3))
           obtain ⟨wS10, hwS⟩ : ∃ wS, World.setCells wd7 (wd3.heap.size) 0 (#[.slice Ao3 out3.length co3] : Array Value).toList = wS := ⟨_, rfl⟩
           rw [hwS] at xK xB xA9 xHRG3 xHRG7 ⊢
           replace HBW := Lib.hid xB
           replace KA8 := Lib.hid xK
           replace KA9 := Lib.hid xA9
           replace HRG3 := Lib.hid xHRG3
           replace HRG7 := Lib.hid xHRG7
           clear hwS xK xB xA9 xHRG3 xHRG7
           refine hK.out _ _ (KW.out _ HBW.out) (fun _ => ?_); clear hK K
           refine wpAnyH_ready (rs := [11]) (by kernel_rfl) (by simp) ?_
           refine AllReadyH.cons rfl (fun K hK => ?_) AllReadyH.nil
           refine Tr.wanted_plain rfl ?_
           refine store_mid0 rfl 57 _ _ rfl (wd3.heap.size + 1) 0 #[.slice Ao7 out7.length co7] (by rfl) (by rfl) (by have h := there_blk KA9.out; exact h) Tryz.sizeRgX (by simp [Value.oneCell']) ?_
           have xK := blk_puts1 (.slice Ao7 out7.length co7) KA9.out
           have xB := bsets HBW.out HL9.out (#[.slice Ao7 out7.length co7] : Array Value).toList 0
           have xA8 := KA8.out.farCells (HN8_9.out) (#[.slice Ao7 out7.length co7] : Array Value).toList 0
           have xHRG3 := (HRG3.out.putS KA9.out (.slice Ao7 out7.length co7))
           have xHRG7 := (HRG7.out.putS KA9.out (.slice Ao7 out7.length co7))
           obtain ⟨wS11, hwS⟩ : ∃ wS, World.setCells wS10 (wd3.heap.size + 1) 0 (#[.slice Ao7 out7.length co7] : Array Value).toList = wS := ⟨_, rfl⟩
           rw [hwS] at xK xB xA8 xHRG3 xHRG7 ⊢
           replace HBW := Lib.hid xB
           replace KA9 := Lib.hid xK
           replace KA8 := Lib.hid xA8
           replace HRG3 := Lib.hid xHRG3
           replace HRG7 := Lib.hid xHRG7
           clear hwS xK xB xA8 xHRG3 xHRG7
           refine hK.out _ _ (KW.out _ HBW.out) (fun _ => ?_); clear hK K
           refine wpAnyH_done (by kernel_rfl) ?_ _
           refine NoPanic.normal ?_
           go_wp2_with fail
           go_meet
           exact ⟨_, _, Ao3, co3, Ao7, co7, out3, out7, rfl, rfl, ⟨KA8.out, KA9.out⟩, ⟨HRG3.out, HRG7.out⟩, ⟨HPO3.out, HPO7.out⟩, HBW.out⟩
         ·
          go_simp
          have KA9 := Lib.hid (show Blk (wd3.alloc (.cells #[.slice none 0 0] 57)) (wd3.heap.size) 57 #[.slice none 0 0] from Blk.new wd3 57 #[.slice none 0 0])
          have HL9 := Lib.hid (show U.heap.size ≤ wd3.heap.size from HBW.out.size)
          have hbA : Below wd3.heap.size wd3 ((wd3.alloc (.cells #[.slice none 0 0] 57))) := bal (bre wd3) (.cells #[.slice none 0 0] 57)
          replace HBW := Lib.hid (bstep HBW.out hbA)
          replace HRG3 := Lib.hid (HRG3.out.below hbA); clear hbA
          refine hK.out _ _ (KW.out _ HBW.out) (fun _ => ?_); clear hK K
          refine wpAnyH_ready (rs := [6, 8]) (by kernel_rfl) (by simp) ?_
          refine AllReadyH.cons rfl (fun K hK => ?_) (AllReadyH.cons rfl (fun K hK => ?_) AllReadyH.nil)
          ·
           go_simp
           refine (id_b (j) _ hjd).mono ?_
           rintro e wd6 ⟨rfl, hbA⟩
           replace HBW := Lib.hid (bstep HBW.out hbA)
           replace KA9 := Lib.hid (KA9.out.belowS hbA)
           replace HRG3 := Lib.hid (HRG3.out.below hbA); clear hbA; go_simp
           refine hK.out _ _ (KW.out _ HBW.out) (fun _ => ?_); clear hK K
           refine wpAnyH_ready (rs := [7, 8]) (by kernel_rfl) (by simp) ?_
           refine AllReadyH.cons rfl (fun K hK => ?_) (AllReadyH.cons rfl (fun K hK => ?_) AllReadyH.nil)
           ·
            go_simp
            refine (((HS2.out.below HBQ.out).below HBW.out).clip HTO.out (idW j) HIJ.out).mono ?_
            rintro e wd7 ⟨u7, out7, rfl, hro, hpo, hao, hln, hbA⟩
            have hro2 := hro
            obtain ⟨Ao7, co7, rfl, _⟩ := hro2
            have HRG7 := Lib.hid hro
            have HPO7 := Lib.hid hpo
            clear hro hpo hao hln
            replace HBW := Lib.hid (bstep HBW.out hbA)
            replace KA9 := Lib.hid (KA9.out.belowS hbA)
            replace HRG3 := Lib.hid (HRG3.out.below hbA); clear hbA; go_simp
            refine hK.out _ _ (KW.out _ HBW.out) (fun _ => ?_); clear hK K
            refine wpAnyH_ready (rs := [8]) (by kernel_rfl) (by simp) ?_
            refine AllReadyH.cons rfl (fun K hK => ?_) AllReadyH.nil; go_simp
            have HN9_8 := Lib.hid (Nat.ne_of_lt KA9.out.lt)
            have KA8 := Lib.hid (show Blk (wd7.alloc (.cells #[.slice none 0 0] 57)) (wd7.heap.size) 57 #[.slice none 0 0] from Blk.new wd7 57 #[.slice none 0 0])
            have HL8 := Lib.hid (show U.heap.size ≤ wd7.heap.size from HBW.out.size)
            have hbA : Below wd7.heap.size wd7 ((wd7.alloc (.cells #[.slice none 0 0] 57))) := bal (bre wd7) (.cells #[.slice none 0 0] 57)
            replace HBW := Lib.hid (bstep HBW.out hbA)
            replace KA9 := Lib.hid (KA9.out.belowS hbA)
            replace HRG3 := Lib.hid (HRG3.out.below hbA)
            replace HRG7 := Lib.hid (HRG7.out.below hbA); clear hbA
            refine hK.out _ _ (KW.out _ HBW.out) (fun _ => ?_); clear hK K
            refine wpAnyH_ready (rs := [10]) (by kernel_rfl) (by simp) ?_
            refine AllReadyH.cons rfl (fun K hK => ?_) AllReadyH.nil
            refine Tr.wanted_plain rfl ?_
            refine store_mid0 rfl 57 _ _ rfl (wd7.heap.size) 0 #[.slice Ao3 out3.length co3] (by rfl) (by rfl) (by have h := there_blk KA8.out; exact h) Tryz.sizeRgX (by simp [Value.oneCell']) ?_
            have xK := blk_puts1 (.slice Ao3 out3.length co3) KA8.out
            have xB := bsets HBW.out HL8.out (#[.slice Ao3 out3.length co3] : Array Value).toList 0
            have xA9 := KA9.out.farCells (HN9_8.out) (#[.slice Ao3 out3.length co3] : Array Value).toList 0
            have xHRG3 := (HRG3.out.putS KA8.out (.slice Ao3 out3.length co3))
            have xHRG7 := (HRG7.out.putS KA8.out (.slice Ao3 out3.length co3))
            obtain ⟨wS10, hwS⟩ : ∃ wS, World.setCells (wd7.alloc (.cells #[.slice none 0 0] 57)) (wd7.heap.size) 0 (#[.slice Ao3 out3.length co3] : Array Value).toList = wS := ⟨_, rfl⟩
            rw [hwS] at xK xB xA9 xHRG3 xHRG7 ⊢
            replace HBW := Lib.hid xB
            replace KA8 := Lib.hid xK
            replace KA9 := Lib.hid xA9
            replace HRG3 := Lib.hid xHRG3
            replace HRG7 := Lib.hid xHRG7
            clear hwS xK xB xA9 xHRG3 xHRG7
            refine hK.out _ _ (KW.out _ HBW.out) (fun _ => ?_); clear hK K
            refine wpAnyH_ready (rs := [11]) (by kernel_rfl) (by simp) ?_
            refine AllReadyH.cons rfl (fun K hK => ?_) AllReadyH.nil
            refine Tr.wanted_plain rfl ?_
            refine store_mid0 rfl 57 _ _ rfl (wd3.heap.size) 0 #[.slice Ao7 out7.length co7] (by rfl) (by rfl) (by have h := there_blk KA9.out; exact h) Tryz.sizeRgX (by simp [Value.oneCell']) ?_
            have xK := blk_puts1 (.slice Ao7 out7.length co7) KA9.out
            have xB := bsets HBW.out HL9.out (#[.slice Ao7 out7.length co7] : Array Value).toList 0
            have xA8 := KA8.out.farCells (HN9_8.out.symm) (#[.slice Ao7 out7.length co7] : Array Value).toList 0
            have xHRG3 := (HRG3.out.putS KA9.out (.slice Ao7 out7.length co7))
            have xHRG7 := (HRG7.out.putS KA9.out (.slice Ao7 out7.length co7))
            obtain ⟨wS11, hwS⟩ : ∃ wS, World.setCells wS10 (wd3.heap.size) 0 (#[.slice Ao7 out7.length co7] : Array Value).toList = wS := ⟨_, rfl⟩
            rw [hwS] at xK xB xA8 xHRG3 xHRG7 ⊢
            replace HBW := Lib.hid xB
            replace KA9 := Lib.hid xK
            replace KA8 := Lib.hid xA8
            replace HRG3 := Lib.hid xHRG3
            replace HRG7 := Lib.hid xHRG7
            clear hwS xK xB xA8 xHRG3 xHRG7
            refine hK.out _ _ (KW.out _ HBW.out) (fun _ => ?_); clear hK K
            refine wpAnyH_done (by kernel_rfl) ?_ _
            refine NoPanic.normal ?_
            go_wp2_with fail
            go_meet
            exact ⟨_, _, Ao3, co3, Ao7, co7, out3, out7, rfl, rfl, ⟨KA8.out, KA9.out⟩, ⟨HRG3.out, HRG7.out⟩, ⟨HPO3.out, HPO7.out⟩, HBW.out⟩
           ·
            go_simp
            have HN9_8 := Lib.hid (Nat.ne_of_lt KA9.out.lt)
            have KA8 := Lib.hid (show Blk (wd6.alloc (.cells #[.slice none 0 0] 57)) (wd6.heap.size) 57 #[.slice none 0 0] from Blk.new wd6 57 #[.slice none 0 0])
            have HL8 := Lib.hid (show U.heap.size ≤ wd6.heap.size from HBW.out.size)
            have hbA : Below wd6.heap.size wd6 ((wd6.alloc (.cells #[.slice none 0 0] 57))) := bal (bre wd6) (.cells #[.slice none 0 0] 57)
            replace HBW := Lib.hid (bstep HBW.out hbA)
            replace KA9 := Lib.hid (KA9.out.belowS hbA)
            replace HRG3 := Lib.hid (HRG3.out.below hbA); clear hbA
            refine hK.out _ _ (KW.out _ HBW.out) (fun _ => ?_); clear hK K
            refine wpAnyH_ready (rs := [7]) (by kernel_rfl) (by simp) ?_
            refine AllReadyH.cons rfl (fun K hK => ?_) AllReadyH.nil; go_simp
            refine (((HS2.out.below HBQ.out).below HBW.out).clip HTO.out (idW j) HIJ.out).mono ?_
            rintro e wd7 ⟨u7, out7, rfl, hro, hpo, hao, hln, hbA⟩
            have hro2 := hro
            obtain ⟨Ao7, co7, rfl, _⟩ := hro2
            have HRG7 := Lib.hid hro
            have HPO7 := Lib.hid hpo
            clear hro hpo hao hln
            replace HBW := Lib.hid (bstep HBW.out hbA)
            replace KA9 := Lib.hid (KA9.out.belowS hbA)
            replace KA8 := Lib.hid (KA8.out.belowS hbA)
            replace HRG3 := Lib.hid (HRG3.out.below hbA); clear hbA; go_simp
            refine hK.out _ _ (KW.out _ HBW.out) (fun _ => ?_); clear hK K
            refine wpAnyH_ready (rs := [10]) (by kernel_rfl) (by simp) ?_
            refine AllReadyH.cons rfl (fun K hK => ?_) AllReadyH.nil
            refine Tr.wanted_plain rfl ?_
            refine store_mid0 rfl 57 _ _ rfl (wd6.heap.size) 0 #[.slice Ao3 out3.length co3] (by rfl) (by rfl) (by have h := there_blk KA8.out; exact h) Tryz.sizeRgX (by simp [Value.oneCell']) ?_
            have xK := blk_puts1 (.slice Ao3 out3.length co3) KA8.out
            have xB := bsets HBW.out HL8.out (#[.slice Ao3 out3.length co3] : Array Value).toList 0
            have xA9 := KA9.out.farCells (HN9_8.out) (#[.slice Ao3 out3.length co3] : Array Value).toList 0
            have xHRG3 := (HRG3.out.putS KA8.out (.slice Ao3 out3.length co3))
            have xHRG7 := (HRG7.out.putS KA8.out (.slice Ao3 out3.length co3))
            obtain ⟨wS10, hwS⟩ : ∃ wS, World.setCells wd7 (wd6.heap.size) 0 (#[.slice Ao3 out3.length co3] : Array Value).toList = wS := ⟨_, rfl⟩
            rw [hwS] at xK xB xA9 xHRG3 xHRG7 ⊢
            replace HBW := Lib.hid xB
            replace KA8 := Lib.hid xK
            replace KA9 := Lib.hid xA9
            replace HRG3 := Lib.hid xHRG3
            replace HRG7 := Lib.hid xHRG7
            clear hwS xK xB xA9 xHRG3 xHRG7
            refine hK.out _ _ (KW.out _ HBW.out) (fun _ => ?_); clear hK K
            refine wpAnyH_ready (rs := [11]) (by kernel_rfl) (by simp) ?_
            refine AllReadyH.cons rfl (fun K hK => ?_) AllReadyH.nil
            refine Tr.wanted_plain rfl ?_
            refine store_mid0 rfl 57 _ _ rfl (wd3.heap.size) 0 #[.slice Ao7 out7.length co7] (by rfl) (by rfl) (by have h := there_blk KA9.out; exact h) Tryz.sizeRgX (by simp [Value.oneCell']) ?_
            have xK := blk_puts1 (.slice Ao7 out7.length co7) KA9.out
            have xB := bsets HBW.out HL9.out (#[.slice Ao7 out7.length co7] : Array Value).toList 0
            have xA8 := KA8.out.farCells (HN9_8.out.symm) (#[.slice Ao7 out7.length co7] : Array Value).toList 0
            have xHRG3 := (HRG3.out.putS KA9.out (.slice Ao7 out7.length co7))
            have xHRG7 := (HRG7.out.putS KA9.out (.slice Ao7 out7.length co7))
            obtain ⟨wS11, hwS⟩ : ∃ wS, World.setCells wS10 (wd3.heap.size) 0 (#[.slice Ao7 out7.length co7] : Array Value).toList = wS := ⟨_, rfl⟩
            rw [hwS] at xK xB xA8 xHRG3 xHRG7 ⊢
            replace HBW := Lib.hid xB
            replace KA9 := Lib.hid xK
            replace KA8 := Lib.hid xA8
            replace HRG3 := Lib.hid xHRG3
            replace HRG7 := Lib.hid xHRG7
            clear hwS xK xB xA8 xHRG3 xHRG7
            refine hK.out _ _ (KW.out _ HBW.out) (fun _ => ?_); clear hK K
            refine wpAnyH_done (by kernel_rfl) ?_ _
            refine NoPanic.normal ?_
            go_wp2_with fail
            go_meet
            exact ⟨_, _, Ao3, co3, Ao7, co7, out3, out7, rfl, rfl, ⟨KA8.out, KA9.out⟩, ⟨HRG3.out, HRG7.out⟩, ⟨HPO3.out, HPO7.out⟩, HBW.out⟩
          ·
           go_simp
           have HN9_8 := Lib.hid (show wd3.heap.size ≠ wd3.heap.size + 1 from by have h := KA9.out.lt; rw [show ((wd3.alloc (.cells #[.slice none 0 0] 57))).heap.size = wd3.heap.size + 1 from (show ((wd3.alloc (.cells #[.slice none 0 0] 57))).heap.size = wd3.heap.size + 1 by simp)] at h; exact Nat.ne_of_lt h)
           have KA8 := Lib.hid (show Blk ((wd3.alloc (.cells #[.slice none 0 0] 57)).alloc (.cells #[.slice none 0 0] 57)) (wd3.heap.size + 1) 57 #[.slice none 0 0] from by have h := Blk.new ((wd3.alloc (.cells #[.slice none 0 0] 57))) 57 #[.slice none 0 0]; rw [show ((wd3.alloc (.cells #[.slice none 0 0] 57))).heap.size = wd3.heap.size + 1 from (show ((wd3.alloc (.cells #[.slice none 0 0] 57))).heap.size = wd3.heap.size + 1 by simp)] at h; exact h)
           have HL8 := Lib.hid (show U.heap.size ≤ wd3.heap.size + 1 from by have h := HBW.out.size; rw [show ((wd3.alloc (.cells #[.slice none 0 0] 57))).heap.size = wd3.heap.size + 1 from (show ((wd3.alloc (.cells #[.slice none 0 0] 57))).heap.size = wd3.heap.size + 1 by simp)] at h; exact h)
           have hbA : Below (wd3.alloc (.cells #[.slice none 0 0] 57)).heap.size (wd3.alloc (.cells #[.slice none 0 0] 57)) (((wd3.alloc (.cells #[.slice none 0 0] 57)).alloc (.cells #[.slice none 0 0] 57))) := bal (bre (wd3.alloc (.cells #[.slice none 0 0] 57))) (.cells #[.slice none 0 0] 57)
           replace HBW := Lib.hid (bstep HBW.out hbA)
           replace KA9 := Lib.hid (KA9.out.belowS hbA)
           replace HRG3 := Lib.hid (HRG3.out.below hbA); clear hbA
           refine hK.out _ _ (KW.out _ HBW.out) (fun _ => ?_); clear hK K
           refine wpAnyH_ready (rs := [6]) (by kernel_rfl) (by simp) ?_
           refine AllReadyH.cons rfl (fun K hK => ?_) AllReadyH.nil; go_simp
           refine (id_b (j) _ hjd).mono ?_
           rintro e wd6 ⟨rfl, hbA⟩
           replace HBW := Lib.hid (bstep HBW.out hbA)
           replace KA9 := Lib.hid (KA9.out.belowS hbA)
           replace KA8 := Lib.hid (KA8.out.belowS hbA)
           replace HRG3 := Lib.hid (HRG3.out.below hbA); clear hbA; go_simp
           refine hK.out _ _ (KW.out _ HBW.out) (fun _ => ?_); clear hK K
           refine wpAnyH_ready (rs := [7]) (by kernel_rfl) (by simp) ?_
           refine AllReadyH.cons rfl (fun K hK => ?_) AllReadyH.nil; go_simp
           refine (((HS2.out.below HBQ.out).below HBW.out).clip HTO.out (idW j) HIJ.out).mono ?_
           rintro e wd7 ⟨u7, out7, rfl, hro, hpo, hao, hln, hbA⟩
           have hro2 := hro
           obtain ⟨Ao7, co7, rfl, _⟩ := hro2
           have HRG7 := Lib.hid hro
           have HPO7 := Lib.hid hpo
           clear hro hpo hao hln
           replace HBW := Lib.hid (bstep HBW.out hbA)
           replace KA9 := Lib.hid (KA9.out.belowS hbA)
           replace KA8 := Lib.hid (KA8.out.belowS hbA)
           replace HRG3 := Lib.hid (HRG3.out.below hbA); clear hbA; go_simp
           refine hK.out _ _ (KW.out _ HBW.out) (fun _ => ?_); clear hK K
           refine wpAnyH_ready (rs := [10]) (by kernel_rfl) (by simp) ?_
           refine AllReadyH.cons rfl (fun K hK => ?_) AllReadyH.nil
           refine Tr.wanted_plain rfl ?_
           refine store_mid0 rfl 57 _ _ rfl (wd3.heap.size + 1) 0 #[.slice Ao3 out3.length co3] (by rfl) (by rfl) (by have h := there_blk KA8.out; exact h) Tryz.sizeRgX (by simp [Value.oneCell']) ?_
           have xK := blk_puts1 (.slice Ao3 out3.length co3) KA8.out
           have xB := bsets HBW.out HL8.out (#[.slice Ao3 out3.length co3] : Array Value).toList 0
           have xA9 := KA9.out.farCells (HN9_8.out) (#[.slice Ao3 out3.length co3] : Array Value).toList 0
           have xHRG3 := (HRG3.out.putS KA8.out (.slice Ao3 out3.length co3))
           have xHRG7 := (HRG7.out.putS KA8.out (.slice Ao3 out3.length co3))
           obtain ⟨wS10, hwS⟩ : ∃ wS, World.setCells wd7 (wd3.heap.size + 1) 0 (#[.slice Ao3 out3.length co3] : Array Value).toList = wS := ⟨_, rfl⟩
           rw [hwS] at xK xB xA9 xHRG3 xHRG7 ⊢
           replace HBW := Lib.hid xB
           replace KA8 := Lib.hid xK
           replace KA9 := Lib.hid xA9
           replace HRG3 := Lib.hid xHRG3
           replace HRG7 := Lib.hid xHRG7
           clear hwS xK xB xA9 xHRG3 xHRG7
           refine hK.out _ _ (KW.out _ HBW.out) (fun _ => ?_); clear hK K
           refine wpAnyH_ready (rs := [11]) (by kernel_rfl) (by simp) ?_
           refine AllReadyH.cons rfl (fun K hK => ?_) AllReadyH.nil
           refine Tr.wanted_plain rfl ?_
           refine store_mid0 rfl 57 _ _ rfl (wd3.heap.size) 0 #[.slice Ao7 out7.length co7] (by rfl) (by rfl) (by have h := there_blk KA9.out; exact h) Tryz.sizeRgX (by simp [Value.oneCell']) ?_
           have xK := blk_puts1 (.slice Ao7 out7.length co7) KA9.out
           have xB := bsets HBW.out HL9.out (#[.slice Ao7 out7.length co7] : Array Value).toList 0
           have xA8 := KA8.out.farCells (HN9_8.out.symm) (#[.slice Ao7 out7.length co7] : Array Value).toList 0
           have xHRG3 := (HRG3.out.putS KA9.out (.slice Ao7 out7.length co7))
           have xHRG7 := (HRG7.out.putS KA9.out (.slice Ao7 out7.length co7))
           obtain ⟨wS11, hwS⟩ : ∃ wS, World.setCells wS10 (wd3.heap.size) 0 (#[.slice Ao7 out7.length co7] : Array Value).toList = wS := ⟨_, rfl⟩
           rw [hwS] at xK xB xA8 xHRG3 xHRG7 ⊢
           replace HBW := Lib.hid xB
           replace KA9 := Lib.hid xK
           replace KA8 := Lib.hid xA8
           replace HRG3 := Lib.hid xHRG3
           replace HRG7 := Lib.hid xHRG7
           clear hwS xK xB xA8 xHRG3 xHRG7
           refine hK.out _ _ (KW.out _ HBW.out) (fun _ => ?_); clear hK K
           refine wpAnyH_done (by kernel_rfl) ?_ _
           refine NoPanic.normal ?_
           go_wp2_with fail
           go_meet
           exact ⟨_, _, Ao3, co3, Ao7, co7, out3, out7, rfl, rfl, ⟨KA8.out, KA9.out⟩, ⟨HRG3.out, HRG7.out⟩, ⟨HPO3.out, HPO7.out⟩, HBW.out⟩
        ·
         go_simp
         have KA8 := Lib.hid (show Blk (wd2.alloc (.cells #[.slice none 0 0] 57)) (wd2.heap.size) 57 #[.slice none 0 0] from Blk.new wd2 57 #[.slice none 0 0])
         have HL8 := Lib.hid (show U.heap.size ≤ wd2.heap.size from HBW.out.size)
         have hbA : Below wd2.heap.size wd2 ((wd2.alloc (.cells #[.slice none 0 0] 57))) := bal (bre wd2) (.cells #[.slice none 0 0] 57)
         replace HBW := Lib.hid (bstep HBW.out hbA); clear hbA
         refine hK.out _ _ (KW.out _ HBW.out) (fun _ => ?_); clear hK K
         refine wpAnyH_ready (rs := [3, 9]) (by kernel_rfl) (by simp) ?_
         refine AllReadyH.cons rfl (fun K hK => ?_) (AllReadyH.cons rfl (fun K hK => ?_) AllReadyH.nil)
         ·
          go_simp
          refine (((HS1.out.below HBQ.out).below HBW.out).clip HNO.out (idW j) HIJ.out).mono ?_
          rintro e wd3 ⟨u3, out3, rfl, hro, hpo, hao, hln, hbA⟩
          have hro2 := hro
          obtain ⟨Ao3, co3, rfl, _⟩ := hro2
          have HRG3 := Lib.hid hro
          have HPO3 := Lib.hid hpo
          clear hro hpo hao hln
          replace HBW := Lib.hid (bstep HBW.out hbA)
          replace KA8 := Lib.hid (KA8.out.belowS hbA); clear hbA; go_simp
          refine hK.out _ _ (KW.out _ HBW.out) (fun _ => ?_); clear hK K
          refine wpAnyH_ready (rs := [6, 9]) (by kernel_rfl) (by simp) ?_
          refine AllReadyH.cons rfl (fun K hK => ?_) (AllReadyH.cons rfl (fun K hK => ?_) AllReadyH.nil)
          ·
           go_simp
           refine (id_b (j) _ hjd).mono ?_
           rintro e wd6 ⟨rfl, hbA⟩
           replace HBW := Lib.hid (bstep HBW.out hbA)
           replace KA8 := Lib.hid (KA8.out.belowS hbA)
           replace HRG3 := Lib.hid (HRG3.out.below hbA); clear hbA; go_simp
           refine hK.out _ _ (KW.out _ HBW.out) (fun _ => ?_); clear hK K
           refine wpAnyH_ready (rs := [7, 9]) (by kernel_rfl) (by simp) ?_
           refine AllReadyH.cons rfl (fun K hK => ?_) (AllReadyH.cons rfl (fun K hK => ?_) AllReadyH.nil)
           ·
            go_simp
            refine (((HS2.out.below HBQ.out).below HBW.out).clip HTO.out (idW j) HIJ.out).mono ?_
            rintro e wd7 ⟨u7, out7, rfl, hro, hpo, hao, hln, hbA⟩
            have hro2 := hro
            obtain ⟨Ao7, co7, rfl, _⟩ := hro2
            have HRG7 := Lib.hid hro
            have HPO7 := Lib.hid hpo
            clear hro hpo hao hln
            replace HBW := Lib.hid (bstep HBW.out hbA)
            replace KA8 := Lib.hid (KA8.out.belowS hbA)
            replace HRG3 := Lib.hid (HRG3.out.below hbA); clear hbA; go_simp
            refine hK.out _ _ (KW.out _ HBW.out) (fun _ => ?_); clear hK K
            refine wpAnyH_ready (rs := [9]) (by kernel_rfl) (by simp) ?_
            refine AllReadyH.cons rfl (fun K hK => ?_) AllReadyH.nil; go_simp
            have HN8_9 := Lib.hid (Nat.ne_of_lt KA8.out.lt)
            have KA9 := Lib.hid (show Blk (wd7.alloc (.cells #[.slice none 0 0] 57)) (wd7.heap.size) 57 #[.slice none 0 0] from Blk.new wd7 57 #[.slice none 0 0])
            have HL9 := Lib.hid (show U.heap.size ≤ wd7.heap.size from HBW.out.size)
            have hbA : Below wd7.heap.size wd7 ((wd7.alloc (.cells #[.slice none 0 0] 57))) := bal (bre wd7) (.cells #[.slice none 0 0] 57)
            replace HBW := Lib.hid (bstep HBW.out hbA)
            replace KA8 := Lib.hid (KA8.out.belowS hbA)
            replace HRG3 := Lib.hid (HRG3.out.below hbA)
            replace HRG7 := Lib.hid (HRG7.out.below hbA); clear hbA
            refine hK.out _ _ (KW.out _ HBW.out) (fun _ => ?_); clear hK K
            refine wpAnyH_ready (rs := [10]) (by kernel_rfl) (by simp) ?_
            refine AllReadyH.cons rfl (fun K hK => ?_) AllReadyH.nil
            refine Tr.wanted_plain rfl ?_
            refine store_mid0 rfl 57 _ _ rfl (wd2.heap.size) 0 #[.slice Ao3 out3.length co3] (by rfl) (by rfl) (by have h := there_blk KA8.out; exact h) Tryz.sizeRgX (by simp [Value.oneCell']) ?_
            have xK := blk_puts1 (.slice Ao3 out3.length co3) KA8.out
            have xB := bsets HBW.out HL8.out (#[.slice Ao3 out3.length co3] : Array Value).toList 0
            have xA9 := KA9.out.farCells (HN8_9.out.symm) (#[.slice Ao3 out3.length co3] : Array Value).toList 0
            have xHRG3 := (HRG3.out.putS KA8.out (.slice Ao3 out3.length co3))
            have xHRG7 := (HRG7.out.putS KA8.out (.slice Ao3 out3.length co3))
            obtain ⟨wS10, hwS⟩ : ∃ wS, World.setCells (wd7.alloc (.cells #[.slice none 0 0] 57)) (wd2.heap.size) 0 (#[.slice Ao3 out3.length co3] : Array Value).toList = wS := ⟨_, rfl⟩
            rw [hwS] at xK xB xA9 xHRG3 xHRG7 ⊢
            replace HBW := Lib.hid xB
            replace KA8 := Lib.hid xK
            replace KA9 := Lib.hid xA9
            replace HRG3 := Lib.hid xHRG3
            replace HRG7 := Lib.hid xHRG7
            clear hwS xK xB xA9 xHRG3 xHRG7
            refine hK.out _ _ (KW.out _ HBW.out) (fun _ => ?_); clear hK K
            refine wpAnyH_ready (rs := [11]) (by kernel_rfl) (by simp) ?_
            refine AllReadyH.cons rfl (fun K hK => ?_) AllReadyH.nil
            refine Tr.wanted_plain rfl ?_
            refine store_mid0 rfl 57 _ _ rfl (wd7.heap.size) 0 #[.slice Ao7 out7.length co7] (by rfl) (by rfl) (by have h := there_blk KA9.out; exact h) Tryz.sizeRgX (by simp [Value.oneCell']) ?_
            have xK := blk_puts1 (.slice Ao7 out7.length co7) KA9.out
            have xB := bsets HBW.out HL9.out (#[.slice Ao7 out7.length co7] : Array Value).toList 0
            have xA8 := KA8.out.farCells (HN8_9.out) (#[.slice Ao7 out7.length co7] : Array Value).toList 0
            have xHRG3 := (HRG3.out.putS KA9.out (.slice Ao7 out7.length co7))
            have xHRG7 := (HRG7.out.putS KA9.out (.slice Ao7 out7.length co7))
            obtain ⟨wS11, hwS⟩ : ∃ wS, World.setCells wS10 (wd7.heap.size) 0 (#[.slice Ao7 out7.length co7] : Array Value).toList = wS := ⟨_, rfl⟩
            rw [hwS] at xK xB xA8 xHRG3 xHRG7 ⊢
            replace HBW := Lib.hid xB
            replace KA9 := Lib.hid xK
            replace KA8 := Lib.hid xA8
            replace HRG3 := Lib.hid xHRG3
            replace HRG7 := Lib.hid xHRG7
            clear hwS xK xB xA8 xHRG3 xHRG7
            refine hK.out _ _ (KW.out _ HBW.out) (fun _ => ?_); clear hK K
            refine wpAnyH_done (by kernel_rfl) ?_ _
            refine NoPanic.normal ?_
            go_wp2_with fail
            go_meet
            exact ⟨_, _, Ao3, co3, Ao7, co7, out3, out7, rfl, rfl, ⟨KA8.out, KA9.out⟩, ⟨HRG3.out, HRG7.out⟩, ⟨HPO3.out, HPO7.out⟩, HBW.out⟩
           ·
            go_simp
            have HN8_9 := Lib.hid (Nat.ne_of_lt KA8.out.lt)
            have KA9 := Lib.hid (show Blk (wd6.alloc (.cells #[.slice none 0 0] 57)) (wd6.heap.size) 57 #[.slice none 0 0] from Blk.new wd6 57 #[.slice none 0 0])
            have HL9 := Lib.hid (show U.heap.size ≤ wd6.heap.size from HBW.out.size)
            have hbA : Below wd6.heap.size wd6 ((wd6.alloc (.cells #[.slice none 0 0] 57))) := bal (bre wd6) (.cells #[.slice none 0 0] 57)
            replace HBW := Lib.hid (bstep HBW.out hbA)
            replace KA8 := Lib.hid (KA8.out.belowS hbA)
            replace HRG3 := Lib.hid (HRG3.out.below hbA); clear hbA
            refine hK.out _ _ (KW.out _ HBW.out) (fun _ => ?_); clear hK K
            refine wpAnyH_ready (rs := [7]) (by kernel_rfl) (by simp) ?_
            refine AllReadyH.cons rfl (fun K hK => ?_) AllReadyH.nil; go_simp
            refine (((HS2.out.below HBQ.out).below HBW.out).clip HTO.out (idW j) HIJ.out).mono ?_
            rintro e wd7 ⟨u7, out7, rfl, hro, hpo, hao, hln, hbA⟩
            have hro2 := hro
            obtain ⟨Ao7, co7, rfl, _⟩ := hro2
            have HRG7 := Lib.hid hro
            have HPO7 := Lib.hid hpo
            clear hro hpo hao hln
            replace HBW := Lib.hid (bstep HBW.out hbA)
            replace KA8 := Lib.hid (KA8.out.belowS hbA)
            replace KA9 := Lib.hid (KA9.out.belowS hbA)
            replace HRG3 := Lib.hid (HRG3.out.below hbA); clear hbA; go_simp
            refine hK.out _ _ (KW.out _ HBW.out) (fun _ => ?_); clear hK K
            refine wpAnyH_ready (rs := [10]) (by kernel_rfl) (by simp) ?_
            refine AllReadyH.cons rfl (fun K hK => ?_) AllReadyH.nil
            refine Tr.wanted_plain rfl ?_
            refine store_mid0 rfl 57 _ _ rfl (wd2.heap.size) 0 #[.slice Ao3 out3.length co3] (by rfl) (by rfl) (by have h := there_blk KA8.out; exact h) Tryz.sizeRgX (by simp [Value.oneCell']) ?_
            have xK := blk_puts1 (.slice Ao3 out3.length co3) KA8.out
            have xB := bsets HBW.out HL8.out (#[.slice Ao3 out3.length co3] : Array Value).toList 0
            have xA9 := KA9.out.farCells (HN8_9.out.symm) (#[.slice Ao3 out3.length co3] : Array Value).toList 0
            have xHRG3 := (HRG3.out.putS KA8.out (.slice Ao3 out3.length co3))
            have xHRG7 := (HRG7.out.putS KA8.out (.slice Ao3 out3.length co3))
            obtain ⟨wS10, hwS⟩ : ∃ wS, World.setCells wd7 (wd2.heap.size) 0 (#[.slice Ao3 out3.length co3] : Array Value).toList = wS := ⟨_, rfl⟩
            rw [hwS] at xK xB xA9 xHRG3 xHRG7 ⊢
            replace HBW := Lib.hid xB
            replace KA8 := Lib.hid xK
            replace KA9 := Lib.hid xA9
            replace HRG3 := Lib.hid xHRG3
            replace HRG7 := Lib.hid xHRG7
            clear hwS xK xB xA9 xHRG3 xHRG7
            refine hK.out _ _ (KW.out _ HBW.out) (fun _ => ?_); clear hK K
            refine wpAnyH_ready (rs := [11]) (by kernel_rfl) (by simp) ?_
            refine AllReadyH.cons rfl (fun K hK => ?_) AllReadyH.nil
            refine Tr.wanted_plain rfl ?_
            refine store_mid0 rfl 57 _ _ rfl (wd6.heap.size) 0 #[.slice Ao7 out7.length co7] (by rfl) (by rfl) (by have h := there_blk KA9.out; exact h) Tryz.sizeRgX (by simp [Value.oneCell']) ?_
            have xK := blk_puts1 (.slice Ao7 out7.length co7) KA9.out
            have xB := bsets HBW.out HL9.out (#[.slice Ao7 out7.length co7] : Array Value).toList 0
            have xA8 := KA8.out.farCells (HN8_9.out) (#[.slice Ao7 out7.length co7] : Array Value).toList 0
            have xHRG3 := (HRG3.out.putS KA9.out (.slice Ao7 out7.length co7))
            have xHRG7 := (HRG7.out.putS KA9.out (.slice Ao7 out7.length co7))
            obtain ⟨wS11, hwS⟩ : ∃ wS, World.setCells wS10 (wd6.heap.size) 0 (#[.slice Ao7 out7.length co7] : Array Value).toList = wS := ⟨_, rfl⟩
            rw [hwS] at xK xB xA8 xHRG3 xHRG7 ⊢
            replace HBW := Lib.hid xB
            replace KA9 := Lib.hid xK
            replace KA8 := Lib.hid xA8
            replace HRG3 := Lib.hid xHRG3
            replace HRG7 := Lib.hid xHRG7
            clear hwS xK xB xA8 xHRG3 xHRG7
            refine hK.out _ _ (KW.out _ HBW.out) (fun _ => ?_); clear hK K
            refine wpAnyH_done (by kernel_rfl) ?_ _
            refine NoPanic.normal ?_
            go_wp2_with fail
            go_meet
            exact ⟨_, _, Ao3, co3, Ao7, co7, out3, out7, rfl, rfl, ⟨KA8.out, KA9.out⟩, ⟨HRG3.out, HRG7.out⟩, ⟨HPO3.out, HPO7.out⟩, HBW.out⟩
          ·
           go_simp
           have HN8_9 := Lib.hid (Nat.ne_of_lt KA8.out.lt)
           have KA9 := Lib.hid (show Blk (wd3.alloc (.cells #[.slice none 0 0] 57)) (wd3.heap.size) 57 #[.slice none 0 0] from Blk.new wd3 57 #[.slice none 0 0])
           have HL9 := Lib.hid (show U.heap.size ≤ wd3.heap.size from HBW.out.size)
           have hbA : Below wd3.heap.size wd3 ((wd3.alloc (.cells #[.slice none 0 0] 57))) := bal (bre wd3) (.cells #[.slice none 0 0] 57)
           replace HBW := Lib.hid (bstep HBW.out hbA)
           replace KA8 := Lib.hid (KA8.out.belowS hbA)
           replace HRG3 := Lib.hid (HRG3.out.below hbA); clear hbA
           refine hK.out _ _ (KW.out _ HBW.out) (fun _ => ?_); clear hK K
           refine wpAnyH_ready (rs := [6]) (by kernel_rfl) (by simp) ?_
           refine AllReadyH.cons rfl (fun K hK => ?_) AllReadyH.nil; go_simp
           refine (id_b (j) _ hjd).mono ?_
           rintro e wd6 ⟨rfl, hbA⟩
           replace HBW := Lib.hid (bstep HBW.out hbA)
           replace KA8 := Lib.hid (KA8.out.belowS hbA)
           replace KA9 := Lib.hid (KA9.out.belowS hbA)
           replace HRG3 := Lib.hid (HRG3.out.below hbA); clear hbA; go_simp
           refine hK.out _ _ (KW.out _ HBW.out) (fun _ => ?_); clear hK K
           refine wpAnyH_ready (rs := [7]) (by kernel_rfl) (by simp) ?_
           refine AllReadyH.cons rfl (fun K hK => ?_) AllReadyH.nil; go_simp
           refine (((HS2.out.below HBQ.out).below HBW.out).clip HTO.out (idW j) HIJ.out).mono ?_
           rintro e wd7 ⟨u7, out7, rfl, hro, hpo, hao, hln, hbA⟩
           have hro2 := hro
           obtain ⟨Ao7, co7, rfl, _⟩ := hro2
           have HRG7 := Lib.hid hro
           have HPO7 := Lib.hid hpo
           clear hro hpo hao hln
           replace HBW := Lib.hid (bstep HBW.out hbA)
           replace KA8 := Lib.hid (KA8.out.belowS hbA)
           replace KA9 := Lib.hid (KA9.out.belowS hbA)
           replace HRG3 := Lib.hid (HRG3.out.below hbA); clear hbA; go_simp
           refine hK.out _ _ (KW.out _ HBW.out) (fun _ => ?_); clear hK K
           refine wpAnyH_ready (rs := [10]) (by kernel_rfl) (by simp) ?_
           refine AllReadyH.cons rfl (fun K hK => ?_) AllReadyH.nil
           refine Tr.wanted_plain rfl ?_
           refine store_mid0 rfl 57 _ _ rfl (wd2.heap.size) 0 #[.slice Ao3 out3.length co3] (by rfl) (by rfl) (by have h := there_blk KA8.out; exact h) Tryz.sizeRgX (by simp [Value.oneCell']) ?_
           have xK := blk_puts1 (.slice Ao3 out3.length co3) KA8.out
           have xB := bsets HBW.out HL8.out (#[.slice Ao3 out3.length co3] : Array Value).toList 0
           have xA9 := KA9.out.farCells (HN8_9.out.symm) (#[.slice Ao3 out3.length co3] : Array Value).toList 0
           have xHRG3 := (HRG3.out.putS KA8.out (.slice Ao3 out3.length co3))
           have xHRG7 := (HRG7.out.putS KA8.out (.slice Ao3 out3.length co3))
           obtain ⟨wS10, hwS⟩ : ∃ wS, World.setCells wd7 (wd2.heap.size) 0 (#[.slice Ao3 out3.length co3] : Array Value).toList = wS := ⟨_, rfl⟩
           rw [hwS] at xK xB xA9 xHRG3 xHRG7 ⊢
           replace HBW := Lib.hid xB
           replace KA8 := Lib.hid xK
           replace KA9 := Lib.hid xA9
           replace HRG3 := Lib.hid xHRG3
           replace HRG7 := Lib.hid xHRG7
           clear hwS xK xB xA9 xHRG3 xHRG7
           refine hK.out _ _ (KW.out _ HBW.out) (fun _ => ?_); clear hK K
           refine wpAnyH_ready (rs := [11]) (by kernel_rfl) (by simp) ?_
           refine AllReadyH.cons rfl (fun K hK => ?_) AllReadyH.nil
           refine Tr.wanted_plain rfl ?_
           refine store_mid0 rfl 57 _ _ rfl (wd3.heap.size) 0 #[.slice Ao7 out7.length co7] (by rfl) (by rfl) (by have h := there_blk KA9.out; exact h) Tryz.sizeRgX (by simp [Value.oneCell']) ?_
           have xK := blk_puts1 (.slice Ao7 out7.length co7) KA9.out
           have xB := bsets HBW.out HL9.out (#[.slice Ao7 out7.length co7] : Array Value).toList 0
           have xA8 := KA8.out.farCells (HN8_9.out) (#[.slice Ao7 out7.length co7] : Array Value).toList 0
           have xHRG3 := (HRG3.out.putS KA9.out (.slice Ao7 out7.length co7))
           have xHRG7 := (HRG7.out.putS KA9.out (.slice Ao7 out7.length co7))
           obtain ⟨wS11, hwS⟩ : ∃ wS, World.setCells wS10 (wd3.heap.size) 0 (#[.slice Ao7 out7.length co7] : Array Value).toList = wS := ⟨_, rfl⟩
           rw [hwS] at xK xB xA8 xHRG3 xHRG7 ⊢
           replace HBW := Lib.hid xB
           replace KA9 := Lib.hid xK
           replace KA8 := Lib.hid xA8
           replace HRG3 := Lib.hid xHRG3
           replace HRG7 := Lib.hid xHRG7
           clear hwS xK xB xA8 xHRG3 xHRG7
           refine hK.out _ _ (KW.out _ HBW.out) (fun _ => ?_); clear hK K
           refine wpAnyH_done (by kernel_rfl) ?_ _
           refine NoPanic.normal ?_
           go_wp2_with fail
           go_meet
           exact ⟨_, _, Ao3, co3, Ao7, co7, out3, out7, rfl, rfl, ⟨KA8.out, KA9.out⟩, ⟨HRG3.out, HRG7.out⟩, ⟨HPO3.out, HPO7.out⟩, HBW.out⟩
         ·
          go_simp
          have HN8_9 := Lib.hid (show wd2.heap.size ≠ wd2.heap.size + 1 from by have h := KA8.out.lt; rw [show ((wd2.alloc (.cells #[.slice none 0 0] 57))).heap.size = wd2.heap.size + 1 from (show ((wd2.alloc (.cells #[.slice none 0 0] 57))).heap.size = wd2.heap.size + 1 by simp)] at h; exact Nat.ne_of_lt h)
          have KA9 := Lib.hid (show Blk ((wd2.alloc (.cells #[.slice none 0 0] 57)).alloc (.cells #[.slice none 0 0] 57)) (wd2.heap.size + 1) 57 #[.slice none 0 0] from by have h := Blk.new ((wd2.alloc (.cells #[.slice none 0 0] 57))) 57 #[.slice none 0 0]; rw [show ((wd2.alloc (.cells #[.slice none 0 0] 57))).heap.size = wd2.heap.size + 1 from (show ((wd2.alloc (.cells #[.slice none 0 0] 57))).heap.size = wd2.heap.size + 1 by simp)] at h; exact h)
          have HL9 := Lib.hid (show U.heap.size ≤ wd2.heap.size + 1 from by have h := HBW.out.size; rw [show ((wd2.alloc (.cells #[.slice none 0 0] 57))).heap.size = wd2.heap.size + 1 from (show ((wd2.alloc (.cells #[.slice none 0 0] 57))).heap.size = wd2.heap.size + 1 by simp)] at h; exact h)
          have hbA : Below (wd2.alloc (.cells #[.slice none 0 0] 57)).heap.size (wd2.alloc (.cells #[.slice none 0 0] 57)) (((wd2.alloc (.cells #[.slice none 0 0] 57)).alloc (.cells #[.slice none 0 0] 57))) := bal (bre (wd2.alloc (.cells #[.slice none 0 0] 57))) (.cells #[.slice none 0 0] 57)
          replace HBW := Lib.hid (bstep HBW.out hbA)
          replace KA8 := Lib.hid (KA8.out.belowS hbA); clear hbA
          refine hK.out _ _ (KW.out _ HBW.out) (fun _ => ?_); clear hK K
          refine wpAnyH_ready (rs := [3]) (by kernel_rfl) (by simp) ?_
          refine AllReadyH.cons rfl (fun K hK => ?_) AllReadyH.nil; go_simp
          refine (((HS1.out.below HBQ.out).below HBW.out).clip HNO.out (idW j) HIJ.out).mono ?_
          rintro e wd3 ⟨u3, out3, rfl, hro, hpo, hao, hln, hbA⟩
          have hro2 := hro
          obtain ⟨Ao3, co3, rfl, _⟩ := hro2
          have HRG3 := Lib.hid hro
          have HPO3 := Lib.hid hpo
          clear hro hpo hao hln
          replace HBW := Lib.hid (bstep HBW.out hbA)
          replace KA8 := Lib.hid (KA8.out.belowS hbA)
          replace KA9 := Lib.hid (KA9.out.belowS hbA); clear hbA; go_simp
          refine hK.out _ _ (KW.out _ HBW.out) (fun _ => ?_); clear hK K
          refine wpAnyH_ready (rs := [6]) (by kernel_rfl) (by simp) ?_
          refine AllReadyH.cons rfl (fun K hK => ?_) AllReadyH.nil; go_simp
          refine (id_b (j) _ hjd).mono ?_
          rintro e wd6 ⟨rfl, hbA⟩
          replace HBW := Lib.hid (bstep HBW.out hbA)
          replace KA8 := Lib.hid (KA8.out.belowS hbA)
          replace KA9 := Lib.hid (KA9.out.belowS hbA)
          replace HRG3 := Lib.hid (HRG3.out.below hbA); clear hbA; go_simp
          refine hK.out _ _ (KW.out _ HBW.out) (fun _ => ?_); clear hK K
          refine wpAnyH_ready (rs := [7]) (by kernel_rfl) (by simp) ?_
          refine AllReadyH.cons rfl (fun K hK => ?_) AllReadyH.nil; go_simp
          refine (((HS2.out.below HBQ.out).below HBW.out).clip HTO.out (idW j) HIJ.out).mono ?_
          rintro e wd7 ⟨u7, out7, rfl, hro, hpo, hao, hln, hbA⟩
          have hro2 := hro
          obtain ⟨Ao7, co7, rfl, _⟩ := hro2
          have HRG7 := Lib.hid hro
          have HPO7 := Lib.hid hpo
          clear hro hpo hao hln
          replace HBW := Lib.hid (bstep HBW.out hbA)
          replace KA8 := Lib.hid (KA8.out.belowS hbA)
          replace KA9 := Lib.hid (KA9.out.belowS hbA)
          replace HRG3 := Lib.hid (HRG3.out.below hbA); clear hbA; go_simp
          refine hK.out _ _ (KW.out _ HBW.out) (fun _ => ?_); clear hK K
          refine wpAnyH_ready (rs := [10]) (by kernel_rfl) (by simp) ?_
          refine AllReadyH.cons rfl (fun K hK => ?_) AllReadyH.nil
          refine Tr.wanted_plain rfl ?_
          refine store_mid0 rfl 57 _ _ rfl (wd2.heap.size) 0 #[.slice Ao3 out3.length co3] (by rfl) (by rfl) (by have h := there_blk KA8.out; exact h) Tryz.sizeRgX (by simp [Value.oneCell']) ?_
          have xK := blk_puts1 (.slice Ao3 out3.length co3) KA8.out
          have xB := bsets HBW.out HL8.out (#[.slice Ao3 out3.length co3] : Array Value).toList 0
          have xA9 := KA9.out.farCells (HN8_9.out.symm) (#[.slice Ao3 out3.length co3] : Array Value).toList 0
          have xHRG3 := (HRG3.out.putS KA8.out (.slice Ao3 out3.length co3))
          have xHRG7 := (HRG7.out.putS KA8.out (.slice Ao3 out3.length co3))
          obtain ⟨wS10, hwS⟩ : ∃ wS, World.setCells wd7 (wd2.heap.size) 0 (#[.slice Ao3 out3.length co3] : Array Value).toList = wS := ⟨_, rfl⟩
          rw [hwS] at xK xB xA9 xHRG3 xHRG7 ⊢
          replace HBW := Lib.hid xB
          replace KA8 := Lib.hid xK
          replace KA9 := Lib.hid xA9
          replace HRG3 := Lib.hid xHRG3
          replace HRG7 := Lib.hid xHRG7
          clear hwS xK xB xA9 xHRG3 xHRG7
          refine hK.out _ _ (KW.out _ HBW.out) (fun _ => ?_); clear hK K
          refine wpAnyH_ready (rs := [11]) (by kernel_rfl) (by simp) ?_
          refine AllReadyH.cons rfl (fun K hK => ?_) AllReadyH.nil
          refine Tr.wanted_plain rfl ?_
          refine store_mid0 rfl 57 _ _ rfl (wd2.heap.size + 1) 0 #[.slice Ao7 out7.length co7] (by rfl) (by rfl) (by have h := there_blk KA9.out; exact h) Tryz.sizeRgX (by simp [Value.oneCell']) ?_
          have xK := blk_puts1 (.slice Ao7 out7.length co7) KA9.out
          have xB := bsets HBW.out HL9.out (#[.slice Ao7 out7.length co7] : Array Value).toList 0
          have xA8 := KA8.out.farCells (HN8_9.out) (#[.slice Ao7 out7.length co7] : Array Value).toList 0
          have xHRG3 := (HRG3.out.putS KA9.out (.slice Ao7 out7.length co7))
          have xHRG7 := (HRG7.out.putS KA9.out (.slice Ao7 out7.length co7))
          obtain ⟨wS11, hwS⟩ : ∃ wS, World.setCells wS10 (wd2.heap.size + 1) 0 (#[.slice Ao7 out7.length co7] : Array Value).toList = wS := ⟨_, rfl⟩
          rw [hwS] at xK xB xA8 xHRG3 xHRG7 ⊢
          replace HBW := Lib.hid xB
          replace KA9 := Lib.hid xK
          replace KA8 := Lib.hid xA8
          replace HRG3 := Lib.hid xHRG3
          replace HRG7 := Lib.hid xHRG7
          clear hwS xK xB xA8 xHRG3 xHRG7
          refine hK.out _ _ (KW.out _ HBW.out) (fun _ => ?_); clear hK K
          refine wpAnyH_done (by kernel_rfl) ?_ _
          refine NoPanic.normal ?_
          go_wp2_with fail
          go_meet
          exact ⟨_, _, Ao3, co3, Ao7, co7, out3, out7, rfl, rfl, ⟨KA8.out, KA9.out⟩, ⟨HRG3.out, HRG7.out⟩, ⟨HPO3.out, HPO7.out⟩, HBW.out⟩
        ·
         go_simp
         have KA9 := Lib.hid (show Blk (wd2.alloc (.cells #[.slice none 0 0] 57)) (wd2.heap.size) 57 #[.slice none 0 0] from Blk.new wd2 57 #[.slice none 0 0])
         have HL9 := Lib.hid (show U.heap.size ≤ wd2.heap.size from HBW.out.size)
         have hbA : Below wd2.heap.size wd2 ((wd2.alloc (.cells #[.slice none 0 0] 57))) := bal (bre wd2) (.cells #[.slice none 0 0] 57)
         replace HBW := Lib.hid (bstep HBW.out hbA); clear hbA
         refine hK.out _ _ (KW.out _ HBW.out) (fun _ => ?_); clear hK K
         refine wpAnyH_ready (rs := [3, 8]) (by kernel_rfl) (by simp) ?_
         refine AllReadyH.cons rfl (fun K hK => ?_) (AllReadyH.cons rfl (fun K hK => ?_) AllReadyH.nil)
         ·
          go_simp
          refine (((HS1.out.below HBQ.out).below HBW.out).clip HNO.out (idW j) HIJ.out).mono ?_
          rintro e wd3 ⟨u3, out3, rfl, hro, hpo, hao, hln, hbA⟩
          have hro2 := hro
          obtain ⟨Ao3, co3, rfl, _⟩ := hro2
          have HRG3 := Lib.hid hro
          have HPO3 := Lib.hid hpo
          clear hro hpo hao hln
          replace HBW := Lib.hid (bstep HBW.out hbA)
          replace KA9 := Lib.hid (KA9.out.belowS hbA); clear hbA; go_simp
          refine hK.out _ _ (KW.out _ HBW.out) (fun _ => ?_); clear hK K
          refine wpAnyH_ready (rs := [6, 8]) (by kernel_rfl) (by simp) ?_
          refine AllReadyH.cons rfl (fun K hK => ?_) (AllReadyH.cons rfl (fun K hK => ?_) AllReadyH.nil)
          ·
           go_simp
           refine (id_b (j) _ hjd).mono ?_
           rintro e wd6 ⟨rfl, hbA⟩
           replace HBW := Lib.hid (bstep HBW.out hbA)
           replace KA9 := Lib.hid (KA9.out.belowS hbA)
           replace HRG3 := Lib.hid (HRG3.out.below hbA); clear hbA; go_simp
           refine hK.out _ _ (KW.out _ HBW.out) (fun _ => ?_); clear hK K
           refine wpAnyH_ready (rs := [7, 8]) (by kernel_rfl) (by simp) ?_
           refine AllReadyH.cons rfl (fun K hK => ?_) (AllReadyH.cons rfl (fun K hK => ?_) AllReadyH.nil)
           ·
            go_simp
            refine (((HS2.out.below HBQ.out).below HBW.out).clip HTO.out (idW j) HIJ.out).mono ?_
            rintro e wd7 ⟨u7, out7, rfl, hro, hpo, hao, hln, hbA⟩
            have hro2 := hro
            obtain ⟨Ao7, co7, rfl, _⟩ := hro2
            have HRG7 := Lib.hid hro
            have HPO7 := Lib.hid hpo
            clear hro hpo hao hln
            replace HBW := Lib.hid (bstep HBW.out hbA)
            replace KA9 := Lib.hid (KA9.out.belowS hbA)
            replace HRG3 := Lib.hid (HRG3.out.below hbA); clear hbA; go_simp
            refine hK.out _ _ (KW.out _ HBW.out) (fun _ => ?_); clear hK K
            refine wpAnyH_ready (rs := [8]) (by kernel_rfl) (by simp) ?_
            refine AllReadyH.cons rfl (fun K hK => ?_) AllReadyH.nil; go_simp
            have HN9_8 := Lib.hid (Nat.ne_of_lt KA9.out.lt)
            have KA8 := Lib.hid (show Blk (wd7.alloc (.cells #[.slice none 0 0] 57)) (wd7.heap.size) 57 #[.slice none 0 0] from Blk.new wd7 57 #[.slice none 0 0])
            have HL8 := Lib.hid (show U.heap.size ≤ wd7.heap.size from HBW.out.size)
            have hbA : Below wd7.heap.size wd7 ((wd7.alloc (.cells #[.slice none 0 0] 57))) := bal (bre wd7) (.cells #[.slice none 0 0] 57)
            replace HBW := Lib.hid (bstep HBW.out hbA)
            replace KA9 := Lib.hid (KA9.out.belowS hbA)
            replace HRG3 := Lib.hid (HRG3.out.below hbA)
            replace HRG7 := Lib.hid (HRG7.out.below hbA); clear hbA
            refine hK.out _ _ (KW.out _ HBW.out) (fun _ => ?_); clear hK K
            refine wpAnyH_ready (rs := [10]) (by kernel_rfl) (by simp) ?_
            refine AllReadyH.cons rfl (fun K hK => ?_) AllReadyH.nil
            refine Tr.wanted_plain rfl ?_
            refine store_mid0 rfl 57 _ _ rfl (wd7.heap.size) 0 #[.slice Ao3 out3.length co3] (by rfl) (by rfl) (by have h := there_blk KA8.out; exact h) Tryz.sizeRgX (by simp [Value.oneCell']) ?_
            have xK := blk_puts1 (.slice Ao3 out3.length co3) KA8.out
            have xB := bsets HBW.out HL8.out (#[.slice Ao3 out3.length co3] : Array Value).toList 0
            have xA9 := KA9.out.farCells (HN9_8.out) (#[.slice Ao3 out3.length co3] : Array Value).toList 0
            have xHRG3 := (HRG3.out.putS KA8.out (.slice Ao3 out3.length co3))
            have xHRG7 := (HRG7.out.putS KA8.out (.slice Ao3 out3.length co3))
            obtain ⟨wS10, hwS⟩ : ∃ wS, World.setCells (wd7.alloc (.cells #[.slice none 0 0] 57)) (wd7.heap.size) 0 (#[.slice Ao3 out3.length co3] : Array Value).toList = wS := ⟨_, rfl⟩
            rw [hwS] at xK xB xA9 xHRG3 xHRG7 ⊢
            replace HBW := Lib.hid xB
            replace KA8 := Lib.hid xK
            replace KA9 := Lib.hid xA9
            replace HRG3 := Lib.hid xHRG3
            replace HRG7 := Lib.hid xHRG7
            clear hwS xK xB xA9 xHRG3 xHRG7
            refine hK.out _ _ (KW.out _ HBW.out) (fun _ => ?_); clear hK K
            refine wpAnyH_ready (rs := [11]) (by kernel_rfl) (by simp) ?_
            refine AllReadyH.cons rfl (fun K hK => ?_) AllReadyH.nil
            refine Tr.wanted_plain rfl ?_
            refine store_mid0 rfl 57 _ _ rfl (wd2.heap.size) 0 #[.slice Ao7 out7.length co7] (by rfl) (by rfl) (by have h := there_blk KA9.out; exact h) Tryz.sizeRgX (by simp [Value.oneCell']) ?_
            have xK := blk_puts1 (.slice Ao7 out7.length co7) KA9.out
            have xB := bsets HBW.out HL9.out (#[.slice Ao7 out7.length co7] : Array Value).toList 0
            have xA8 := KA8.out.farCells (HN9_8.out.symm) (#[.slice Ao7 out7.length co7] : Array Value).toList 0
            have xHRG3 := (HRG3.out.putS KA9.out (.slice Ao7 out7.length co7))
            have xHRG7 := (HRG7.out.putS KA9.out (.slice Ao7 out7.length co7))
            obtain ⟨wS11, hwS⟩ : ∃ wS, World.setCells wS10 (wd2.heap.size) 0 (#[.slice Ao7 out7.length co7] : Array Value).toList = wS := ⟨_, rfl⟩
            rw [hwS] at xK xB xA8 xHRG3 xHRG7 ⊢
            replace HBW := Lib.hid xB
            replace KA9 := Lib.hid xK
            replace KA8 := Lib.hid xA8
            replace HRG3 := Lib.hid xHRG3
            replace HRG7 := Lib.hid xHRG7
            clear hwS xK xB xA8 xHRG3 xHRG7
            refine hK.out _ _ (KW.out _ HBW.out) (fun _ => ?_); clear hK K
            refine wpAnyH_done (by kernel_rfl) ?_ _
            refine NoPanic.normal ?_
            go_wp2_with fail
            go_meet
            exact ⟨_, _, Ao3, co3, Ao7, co7, out3, out7, rfl, rfl, ⟨KA8.out, KA9.out⟩, ⟨HRG3.out, HRG7.out⟩, ⟨HPO3.out, HPO7.out⟩, HBW.out⟩
           ·
            go_simp
            have HN9_8 := Lib.hid (Nat.ne_of_lt KA9.out.lt)
            have KA8 := Lib.hid (show Blk (wd6.alloc (.cells #[.slice none 0 0] 57)) (wd6.heap.size) 57 #[.slice none 0 0] from Blk.new wd6 57 #[.slice none 0 0])
            have HL8 := Lib.hid (show U.heap.size ≤ wd6.heap.size from HBW.out.size)
            have hbA : Below wd6.heap.size wd6 ((wd6.alloc (.cells #[.slice none 0 0] 57))) := bal (bre wd6) (.cells #[.slice none 0 0] 57)
            replace HBW := Lib.hid (bstep HBW.out hbA)
            replace KA9 := Lib.hid (KA9.out.belowS hbA)
            replace HRG3 := Lib.hid (HRG3.out.below hbA); clear hbA
            refine hK.out _ _ (KW.out _ HBW.out) (fun _ => ?_); clear hK K
            refine wpAnyH_ready (rs := [7]) (by kernel_rfl) (by simp) ?_
            refine AllReadyH.cons rfl (fun K hK => ?_) AllReadyH.nil; go_simp
            refine (((HS2.out.below HBQ.out).below HBW.out).clip HTO.out (idW j) HIJ.out).mono ?_
            rintro e wd7 ⟨u7, out7, rfl, hro, hpo, hao, hln, hbA⟩
            have hro2 := hro
            obtain ⟨Ao7, co7, rfl, _⟩ := hro2
            have HRG7 := Lib.hid hro
            have HPO7 := Lib.hid hpo
            clear hro hpo hao hln
            replace HBW := Lib.hid (bstep HBW.out hbA)
            replace KA9 := Lib.hid (KA9.out.belowS hbA)
            replace KA8 := Lib.hid (KA8.out.belowS hbA)
            replace HRG3 := Lib.hid (HRG3.out.below hbA); clear hbA; go_simp
            refine hK.out _ _ (KW.out _ HBW.out) (fun _ => ?_); clear hK K
            refine wpAnyH_ready (rs := [10]) (by kernel_rfl) (by simp) ?_
            refine AllReadyH.cons rfl (fun K hK => ?_) AllReadyH.nil
            refine Tr.wanted_plain rfl ?_
            refine store_mid0 rfl 57 _ _ rfl (wd6.heap.size) 0 #[.slice Ao3 out3.length co3] (by rfl) (by rfl) (by have h := there_blk KA8.out; exact h) Tryz.sizeRgX (by simp [Value.oneCell']) ?_
            have xK := blk_puts1 (.slice Ao3 out3.length co3) KA8.out
            have xB := bsets HBW.out HL8.out (#[.slice Ao3 out3.length co3] : Array Value).toList 0
            have xA9 := KA9.out.farCells (HN9_8.out) (#[.slice Ao3 out3.length co3] : Array Value).toList 0
            have xHRG3 := (HRG3.out.putS KA8.out (.slice Ao3 out3.length co3))
            have xHRG7 := (HRG7.out.putS KA8.out (.slice Ao3 out3.length co3))
            obtain ⟨wS10, hwS⟩ : ∃ wS, World.setCells wd7 (wd6.heap.size) 0 (#[.slice Ao3 out3.length co3] : Array Value).toList = wS := ⟨_, rfl⟩
            rw [hwS] at xK xB xA9 xHRG3 xHRG7 ⊢
            replace HBW := Lib.hid xB
            replace KA8 := Lib.hid xK
            replace KA9 := Lib.hid xA9
            replace HRG3 := Lib.hid xHRG3
            replace HRG7 := Lib.hid xHRG7
            clear hwS xK xB xA9 xHRG3 xHRG7
            refine hK.out _ _ (KW.out _ HBW.out) (fun _ => ?_); clear hK K
            refine wpAnyH_ready (rs := [11]) (by kernel_rfl) (by simp) ?_
            refine AllReadyH.cons rfl (fun K hK => ?_) AllReadyH.nil
            refine Tr.wanted_plain rfl ?_
            refine store_mid0 rfl 57 _ _ rfl (wd2.heap.size) 0 #[.slice Ao7 out7.length co7] (by rfl) (by rfl) (by have h := there_blk KA9.out; exact h) Tryz.sizeRgX (by simp [Value.oneCell']) ?_
            have xK := blk_puts1 (.slice Ao7 out7.length co7) KA9.out
            have xB := bsets HBW.out HL9.out (#[.slice Ao7 out7.length co7] : Array Value).toList 0
            have xA8 := KA8.out.farCells (HN9_8.out.symm) (#[.slice Ao7 out7.length co7] : Array Value).toList 0
            have xHRG3 := (HRG3.out.putS KA9.out (.slice Ao7 out7.length co7))
            have xHRG7 := (HRG7.out.putS KA9.out (.slice Ao7 out7.length co7))
            obtain ⟨wS11, hwS⟩ : ∃ wS, World.setCells wS10 (wd2.heap.size) 0 (#[.slice Ao7 out7.length co7] : Array Value).toList = wS := ⟨_, rfl⟩
            rw [hwS] at xK xB xA8 xHRG3 xHRG7 ⊢
            replace HBW := Lib.hid xB
            replace KA9 := Lib.hid xK
            replace KA8 := Lib.hid xA8
            replace HRG3 := Lib.hid xHRG3
            replace HRG7 := Lib.hid xHRG7
            clear hwS xK xB xA8 xHRG3 xHRG7
            refine hK.out _ _ (KW.out _ HBW.out) (fun _ => ?_); clear hK K
            refine wpAnyH_done (by kernel_rfl) ?_ _
            refine NoPanic.normal ?_
            go_wp2_with fail
            go_meet
            exact ⟨_, _, Ao3, co3, Ao7, co7, out3, out7, rfl, rfl, ⟨KA8.out, KA9.out⟩, ⟨HRG3.out, HRG7.out⟩, ⟨HPO3.out, HPO7.out⟩, HBW.out⟩
          ·
           go_simp
           have HN9_8 := Lib.hid (Nat.ne_of_lt KA9.out.lt)
           have KA8 := Lib.hid (show Blk (wd3.alloc (.cells #[.slice none 0 0] 57)) (wd3.heap.size) 57 #[.slice none 0 0] from Blk.new wd3 57 #[.slice none 0 0])
           have HL8 := Lib.hid (show U.heap.size ≤ wd3.heap.size from HBW.out.size)
           have hbA : Below wd3.heap.size wd3 ((wd3.alloc (.cells #[.slice none 0 0] 57))) := bal (bre wd3) (.cells #[.slice none 0 0] 57)
           replace HBW := Lib.hid (bstep HBW.out hbA)
           replace KA9 := Lib.hid (KA9.out.belowS hbA)
           replace HRG3 := Lib.hid (HRG3.out.below hbA); clear hbA
           refine hK.out _ _ (KW.out _ HBW.out) (fun _ => ?_); clear hK K
           refine wpAnyH_ready (rs := [6]) (by kernel_rfl) (by simp) ?_
           refine AllReadyH.cons rfl (fun K hK => ?_) AllReadyH.nil; go_simp
           refine (id_b (j) _ hjd).mono ?_
           rintro e wd6 ⟨rfl, hbA⟩
           replace HBW := Lib.hid (bstep HBW.out hbA)
           replace KA9 := Lib.hid (KA9.out.belowS hbA)
           replace KA8 := Lib.hid (KA8.out.belowS hbA)
           replace HRG3 := Lib.hid (HRG3.out.below hbA); clear hbA; go_simp
           refine hK.out _ _ (KW.out _ HBW.out) (fun _ => ?_); clear hK K
           refine wpAnyH_ready (rs := [7]) (by kernel_rfl) (by simp) ?_
           refine AllReadyH.cons rfl (fun K hK => ?_) AllReadyH.nil; go_simp
           refine (((HS2.out.below HBQ.out).below HBW.out).clip HTO.out (idW j) HIJ.out).mono ?_
           rintro e wd7 ⟨u7, out7, rfl, hro, hpo, hao, hln, hbA⟩
           have hro2 := hro
           obtain ⟨Ao7, co7, rfl, _⟩ := hro2
           have HRG7 := Lib.hid hro
           have HPO7 := Lib.hid hpo
           clear hro hpo hao hln
           replace HBW := Lib.hid (bstep HBW.out hbA)
           replace KA9 := Lib.hid (KA9.out.belowS hbA)
           replace KA8 := Lib.hid (KA8.out.belowS hbA)
           replace HRG3 := Lib.hid (HRG3.out.below hbA); clear hbA; go_simp
           refine hK.out _ _ (KW.out _ HBW.out) (fun _ => ?_); clear hK K
           refine wpAnyH_ready (rs := [10]) (by kernel_rfl) (by simp) ?_
           refine AllReadyH.cons rfl (fun K hK => ?_) AllReadyH.nil
           refine Tr.wanted_plain rfl ?_
           refine store_mid0 rfl 57 _ _ rfl (wd3.heap.size) 0 #[.slice Ao3 out3.length co3] (by rfl) (by rfl) (by have h := there_blk KA8.out; exact h) Tryz.sizeRgX (by simp [Value.oneCell']) ?_
           have xK := blk_puts1 (.slice Ao3 out3.length co3) KA8.out
           have xB := bsets HBW.out HL8.out (#[.slice Ao3 out3.length co3] : Array Value).toList 0
           have xA9 := KA9.out.farCells (HN9_8.out) (#[.slice Ao3 out3.length co3] : Array Value).toList 0
           have xHRG3 := (HRG3.out.putS KA8.out (.slice Ao3 out3.length co3))
           have xHRG7 := (HRG7.out.putS KA8.out (.slice Ao3 out3.length co3))
           obtain ⟨wS10, hwS⟩ : ∃ wS, World.setCells wd7 (wd3.heap.size) 0 (#[.slice Ao3 out3.length co3] : Array Value).toList = wS := ⟨_, rfl⟩
           rw [hwS] at xK xB xA9 xHRG3 xHRG7 ⊢
           replace HBW := Lib.hid xB
           replace KA8 := Lib.hid xK
           replace KA9 := Lib.hid xA9
           replace HRG3 := Lib.hid xHRG3
           replace HRG7 := Lib.hid xHRG7
           clear hwS xK xB xA9 xHRG3 xHRG7
           refine hK.out _ _ (KW.out _ HBW.out) (fun _ => ?_); clear hK K
           refine wpAnyH_ready (rs := [11]) (by kernel_rfl) (by simp) ?_
           refine AllReadyH.cons rfl (fun K hK => ?_) AllReadyH.nil
           refine Tr.wanted_plain rfl ?_
           refine store_mid0 rfl 57 _ _ rfl (wd2.heap.size) 0 #[.slice Ao7 out7.length co7] (by rfl) (by rfl) (by have h := there_blk KA9.out; exact h) Tryz.sizeRgX (by simp [Value.oneCell']) ?_
           have xK := blk_puts1 (.slice Ao7 out7.length co7) KA9.out
           have xB := bsets HBW.out HL9.out (#[.slice Ao7 out7.length co7] : Array Value).toList 0
           have xA8 := KA8.out.farCells (HN9_8.out.symm) (#[.slice Ao7 out7.length co7] : Array Value).toList 0
           have xHRG3 := (HRG3.out.putS KA9.out (.slice Ao7 out7.length co7))
           have xHRG7 := (HRG7.out.putS KA9.out (.slice Ao7 out7.length co7))
           obtain ⟨wS11, hwS⟩ : ∃ wS, World.setCells wS10 (wd2.heap.size) 0 (#[.slice Ao7 out7.length co7] : Array Value).toList = wS := ⟨_, rfl⟩
           rw [hwS] at xK xB xA8 xHRG3 xHRG7 ⊢
           replace HBW := Lib.hid xB
           replace KA9 := Lib.hid xK
           replace KA8 := Lib.hid xA8
           replace HRG3 := Lib.hid xHRG3
           replace HRG7 := Lib.hid xHRG7
           clear hwS xK xB xA8 xHRG3 xHRG7
           refine hK.out _ _ (KW.out _ HBW.out) (fun _ => ?_); clear hK K
           refine wpAnyH_done (by kernel_rfl) ?_ _
           refine NoPanic.normal ?_
           go_wp2_with fail
           go_meet
           exact ⟨_, _, Ao3, co3, Ao7, co7, out3, out7, rfl, rfl, ⟨KA8.out, KA9.out⟩, ⟨HRG3.out, HRG7.out⟩, ⟨HPO3.out, HPO7.out⟩, HBW.out⟩
         ·
          go_simp
          have HN9_8 := Lib.hid (show wd2.heap.size ≠ wd2.heap.size + 1 from by have h := KA9.out.lt; rw [show ((wd2.alloc (.cells #[.slice none 0 0] 57))).heap.size = wd2.heap.size + 1 from (show ((wd2.alloc (.cells #[.slice none 0 0] 57))).heap.size = wd2.heap.size + 1 by simp)] at h; exact Nat.ne_of_lt h)
          have KA8 := Lib.hid (show Blk ((wd2.alloc (.cells #[.slice none 0 0] 57)).alloc (.cells #[.slice none 0 0] 57)) (wd2.heap.size + 1) 57 #[.slice none 0 0] from by have h := Blk.new ((wd2.alloc (.cells #[.slice none 0 0] 57))) 57 #[.slice none 0 0]; rw [show ((wd2.alloc (.cells #[.slice none 0 0] 57))).heap.size = wd2.heap.size + 1 from (show ((wd2.alloc (.cells #[.slice none 0 0] 57))).heap.size = wd2.heap.size + 1 by simp)] at h; exact h)
          have HL8 := Lib.hid (show U.heap.size ≤ wd2.heap.size + 1 from by have h := HBW.out.size; rw [show ((wd2.alloc (.cells #[.slice none 0 0] 57))).heap.size = wd2.heap.size + 1 from (show ((wd2.alloc (.cells #[.slice none 0 0] 57))).heap.size = wd2.heap.size + 1 by simp)] at h; exact h)
          have hbA : Below (wd2.alloc (.cells #[.slice none 0 0] 57)).heap.size (wd2.alloc (.cells #[.slice none 0 0] 57)) (((wd2.alloc (.cells #[.slice none 0 0] 57)).alloc (.cells #[.slice none 0 0] 57))) := bal (bre (wd2.alloc (.cells #[.slice none 0 0] 57))) (.cells #[.slice none 0 0] 57)
          replace HBW := Lib.hid (bstep HBW.out hbA)
          replace KA9 := Lib.hid (KA9.out.belowS hbA); clear hbA
          refine hK.out _ _ (KW.out _ HBW.out) (fun _ => ?_); clear hK K
          refine wpAnyH_ready (rs := [3]) (by kernel_rfl) (by simp) ?_
          refine AllReadyH.cons rfl (fun K hK => ?_) AllReadyH.nil; go_simp
          refine (((HS1.out.below HBQ.out).below HBW.out).clip HNO.out (idW j) HIJ.out).mono ?_
          rintro e wd3 ⟨u3, out3, rfl, hro, hpo, hao, hln, hbA⟩
          have hro2 := hro
          obtain ⟨Ao3, co3, rfl, _⟩ := hro2
          have HRG3 := Lib.hid hro
          have HPO3 := Lib.hid hpo
          clear hro hpo hao hln
          replace HBW := Lib.hid (bstep HBW.out hbA)
          replace KA9 := Lib.hid (KA9.out.belowS hbA)
          replace KA8 := Lib.hid (KA8.out.belowS hbA); clear hbA; go_simp
          refine hK.out _ _ (KW.out _ HBW.out) (fun _ => ?_); clear hK K
          refine wpAnyH_ready (rs := [6]) (by kernel_rfl) (by simp) ?_
          refine AllReadyH.cons rfl (fun K hK => ?_) AllReadyH.nil; go_simp
          refine (id_b (j) _ hjd).mono ?_
          rintro e wd6 ⟨rfl, hbA⟩
          replace HBW := Lib.hid (bstep HBW.out hbA)
          replace KA9 := Lib.hid (KA9.out.belowS hbA)
          replace KA8 := Lib.hid (KA8.out.belowS hbA)
          replace HRG3 := Lib.hid (HRG3.out.below hbA); clear hbA; go_simp
          refine hK.out _ _ (KW.out _ HBW.out) (fun _ => ?_); clear hK K
          refine wpAnyH_ready (rs := [7]) (by kernel_rfl) (by simp) ?_
          refine AllReadyH.cons rfl (fun K hK => ?_) AllReadyH.nil; go_simp
          refine (((HS2.out.below HBQ.out).below HBW.out).clip HTO.out (idW j) HIJ.out).mono ?_
          rintro e wd7 ⟨u7, out7, rfl, hro, hpo, hao, hln, hbA⟩
          have hro2 := hro
          obtain ⟨Ao7, co7, rfl, _⟩ := hro2
          have HRG7 := Lib.hid hro
          have HPO7 := Lib.hid hpo
          clear hro hpo hao hln
          replace HBW := Lib.hid (bstep HBW.out hbA)
          replace KA9 := Lib.hid (KA9.out.belowS hbA)
          replace KA8 := Lib.hid (KA8.out.belowS hbA)
          replace HRG3 := Lib.hid (HRG3.out.below hbA); clear hbA; go_simp
          refine hK.out _ _ (KW.out _ HBW.out) (fun _ => ?_); clear hK K
          refine wpAnyH_ready (rs := [10]) (by kernel_rfl) (by simp) ?_
          refine AllReadyH.cons rfl (fun K hK => ?_) AllReadyH.nil
          refine Tr.wanted_plain rfl ?_
          refine store_mid0 rfl 57 _ _ rfl (wd2.heap.size + 1) 0 #[.slice Ao3 out3.length co3] (by rfl) (by rfl) (by have h := there_blk KA8.out; exact h) Tryz.sizeRgX (by simp [Value.oneCell']) ?_
          have xK := blk_puts1 (.slice Ao3 out3.length co3) KA8.out
          have xB := bsets HBW.out HL8.out (#[.slice Ao3 out3.length co3] : Array Value).toList 0
          have xA9 := KA9.out.farCells (HN9_8.out) (#[.slice Ao3 out3.length co3] : Array Value).toList 0
          have xHRG3 := (HRG3.out.putS KA8.out (.slice Ao3 out3.length co3))
          have xHRG7 := (HRG7.out.putS KA8.out (.slice Ao3 out3.length co3))
          obtain ⟨wS10, hwS⟩ : ∃ wS, World.setCells wd7 (wd2.heap.size + 1) 0 (#[.slice Ao3 out3.length co3] : Array Value).toList = wS := ⟨_, rfl⟩
          rw [hwS] at xK xB xA9 xHRG3 xHRG7 ⊢
          replace HBW := Lib.hid xB
          replace KA8 := Lib.hid xK
          replace KA9 := Lib.hid xA9
          replace HRG3 := Lib.hid xHRG3
          replace HRG7 := Lib.hid xHRG7
          clear hwS xK xB xA9 xHRG3 xHRG7
          refine hK.out _ _ (KW.out _ HBW.out) (fun _ => ?_); clear hK K
          refine wpAnyH_ready (rs := [11]) (by kernel_rfl) (by simp) ?_
          refine AllReadyH.cons rfl (fun K hK => ?_) AllReadyH.nil
          refine Tr.wanted_plain rfl ?_
          refine store_mid0 rfl 57 _ _ rfl (wd2.heap.size) 0 #[.slice Ao7 out7.length co7] (by rfl) (by rfl) (by have h := there_blk KA9.out; exact h) Tryz.sizeRgX (by simp [Value.oneCell']) ?_
          have xK := blk_puts1 (.slice Ao7 out7.length co7) KA9.out
          have xB := bsets HBW.out HL9.out (#[.slice Ao7 out7.length co7] : Array Value).toList 0
          have xA8 := KA8.out.farCells (HN9_8.out.symm) (#[.slice Ao7 out7.length co7] : Array Value).toList 0
          have xHRG3 := (HRG3.out.putS KA9.out (.slice Ao7 out7.length co7))
          have xHRG7 := (HRG7.out.putS KA9.out (.slice Ao7 out7.length co7))
          obtain ⟨wS11, hwS⟩ : ∃ wS, World.setCells wS10 (wd2.heap.size) 0 (#[.slice Ao7 out7.length co7] : Array Value).toList = wS := ⟨_, rfl⟩
          rw [hwS] at xK xB xA8 xHRG3 xHRG7 ⊢
          replace HBW := Lib.hid xB
          replace KA9 := Lib.hid xK
          replace KA8 := Lib.hid xA8
          replace HRG3 := Lib.hid xHRG3
          replace HRG7 := Lib.hid xHRG7
          clear hwS xK xB xA8 xHRG3 xHRG7
          refine hK.out _ _ (KW.out _ HBW.out) (fun _ => ?_); clear hK K
          refine wpAnyH_done (by kernel_rfl) ?_ _
          refine NoPanic.normal ?_
          go_wp2_with fail
          go_meet
          exact ⟨_, _, Ao3, co3, Ao7, co7, out3, out7, rfl, rfl, ⟨KA8.out, KA9.out⟩, ⟨HRG3.out, HRG7.out⟩, ⟨HPO3.out, HPO7.out⟩, HBW.out⟩
       ·
        go_simp
        have KA8 := Lib.hid (show Blk (U.alloc (.cells #[.slice none 0 0] 57)).drew (U.heap.size) 57 #[.slice none 0 0] from Blk.new U.drew 57 #[.slice none 0 0])
        have HL8 := Lib.hid (show U.heap.size ≤ U.heap.size from HBW.out.size)
        have hbA : Below U.drew.heap.size U.drew ((U.alloc (.cells #[.slice none 0 0] 57)).drew) := bal (bre U.drew) (.cells #[.slice none 0 0] 57)
        replace HBW := Lib.hid (bstep HBW.out hbA); clear hbA
        refine hK.out _ _ (KW.out _ HBW.out) (fun _ => ?_); clear hK K
        refine wpAnyH_ready (rs := [2, 9]) (by kernel_rfl) (by simp) ?_
        refine AllReadyH.cons rfl (fun K hK => ?_) (AllReadyH.cons rfl (fun K hK => ?_) AllReadyH.nil)
        ·
         go_simp
         refine (id_b (j) _ hjd).mono ?_
         rintro e wd2 ⟨rfl, hbA⟩
         replace HBW := Lib.hid (bstep HBW.out hbA)
         replace KA8 := Lib.hid (KA8.out.belowS hbA); clear hbA; go_simp
         refine hK.out _ _ (KW.out _ HBW.out) (fun _ => ?_); clear hK K
         refine wpAnyH_ready (rs := [3, 9]) (by kernel_rfl) (by simp) ?_
         refine AllReadyH.cons rfl (fun K hK => ?_) (AllReadyH.cons rfl (fun K hK => ?_) AllReadyH.nil)
         ·
          go_simp
          refine (((HS1.out.below HBQ.out).below HBW.out).clip HNO.out (idW j) HIJ.out).mono ?_
          rintro e wd3 ⟨u3, out3, rfl, hro, hpo, hao, hln, hbA⟩
          have hro2 := hro
          obtain ⟨Ao3, co3, rfl, _⟩ := hro2
          have HRG3 := Lib.hid hro
          have HPO3 := Lib.hid hpo
          clear hro hpo hao hln
          replace HBW := Lib.hid (bstep HBW.out hbA)
          replace KA8 := Lib.hid (KA8.out.belowS hbA); clear hbA; go_simp
          refine hK.out _ _ (KW.out _ HBW.out) (fun _ => ?_); clear hK K
          refine wpAnyH_ready (rs := [6, 9]) (by kernel_rfl) (by simp) ?_
          refine AllReadyH.cons rfl (fun K hK => ?_) (AllReadyH.cons rfl (fun K hK => ?_) AllReadyH.nil)
          ·
           go_simp
           refine (id_b (j) _ hjd).mono ?_
           rintro e wd6 ⟨rfl, hbA⟩
           replace HBW := Lib.hid (bstep HBW.out hbA)
           replace KA8 := Lib.hid (KA8.out.belowS hbA)
           replace HRG3 := Lib.hid (HRG3.out.below hbA); clear hbA; go_simp
           refine hK.out _ _ (KW.out _ HBW.out) (fun _ => ?_); clear hK K
           refine wpAnyH_ready (rs := [7, 9]) (by kernel_rfl) (by simp) ?_
           refine AllReadyH.cons rfl (fun K hK => ?_) (AllReadyH.cons rfl (fun K hK => ?_) AllReadyH.nil)
           ·
            go_simp
            refine (((HS2.out.below HBQ.out).below HBW.out).clip HTO.out (idW j) HIJ.out).mono ?_
            rintro e wd7 ⟨u7, out7, rfl, hro, hpo, hao, hln, hbA⟩
            have hro2 := hro
            obtain ⟨Ao7, co7, rfl, _⟩ := hro2
            have HRG7 := Lib.hid hro
            have HPO7 := Lib.hid hpo
            clear hro hpo hao hln
            replace HBW := Lib.hid (bstep HBW.out hbA)
            replace KA8 := Lib.hid (KA8.out.belowS hbA)
            replace HRG3 := Lib.hid (HRG3.out.below hbA); clear hbA; go_simp
            refine hK.out _ _ (KW.out _ HBW.out) (fun _ => ?_); clear hK K
            refine wpAnyH_ready (rs := [9]) (by kernel_rfl) (by simp) ?_
            refine AllReadyH.cons rfl (fun K hK => ?_) AllReadyH.nil; go_simp
            have HN8_9 := Lib.hid (Nat.ne_of_lt KA8.out.lt)
            have KA9 := Lib.hid (show Blk (wd7.alloc (.cells #[.slice none 0 0] 57)) (wd7.heap.size) 57 #[.slice none 0 0] from Blk.new wd7 57 #[.slice none 0 0])
            have HL9 := Lib.hid (show U.heap.size ≤ wd7.heap.size from HBW.out.size)
            have hbA : Below wd7.heap.size wd7 ((wd7.alloc (.cells #[.slice none 0 0] 57))) := bal (bre wd7) (.cells #[.slice none 0 0] 57)
            replace HBW := Lib.hid (bstep HBW.out hbA)
            replace KA8 := Lib.hid (KA8.out.belowS hbA)
            replace HRG3 := Lib.hid (HRG3.out.below hbA)
            replace HRG7 := Lib.hid (HRG7.out.below hbA); clear hbA
            refine hK.out _ _ (KW.out _ HBW.out) (fun _ => ?_); clear hK K
            refine wpAnyH_ready (rs := [10]) (by kernel_rfl) (by simp) ?_
            refine AllReadyH.cons rfl (fun K hK => ?_) AllReadyH.nil
            refine Tr.wanted_plain rfl ?_
            refine store_mid0 rfl 57 _ _ rfl (U.heap.size) 0 #[.slice Ao3 out3.length co3] (by rfl) (by rfl) (by have h := there_blk KA8.out; exact h) Tryz.sizeRgX (by simp [Value.oneCell']) ?_
            have xK := blk_puts1 (.slice Ao3 out3.length co3) KA8.out
            have xB := bsets HBW.out HL8.out (#[.slice Ao3 out3.length co3] : Array Value).toList 0
            have xA9 := KA9.out.farCells (HN8_9.out.symm) (#[.slice Ao3 out3.length co3] : Array Value).toList 0
            have xHRG3 := (HRG3.out.putS KA8.out (.slice Ao3 out3.length co3))
            have xHRG7 := (HRG7.out.putS KA8.out (.slice Ao3 out3.length co3))
            obtain ⟨wS10, hwS⟩ : ∃ wS, World.setCells (wd7.alloc (.cells #[.slice none 0 0] 57)) (U.heap.size) 0 (#[.slice Ao3 out3.length co3] : Array Value).toList = wS := ⟨_, rfl⟩
            rw [hwS] at xK xB xA9 xHRG3 xHRG7 ⊢
            replace HBW := Lib.hid xB
            replace KA8 := Lib.hid xK
            replace KA9 := Lib.hid xA9
            replace HRG3 := Lib.hid xHRG3
            replace HRG7 := Lib.hid xHRG7
            clear hwS xK xB xA9 xHRG3 xHRG7
            refine hK.out _ _ (KW.out _ HBW.out) (fun _ => ?_); clear hK K
            refine wpAnyH_ready (rs := [11]) (by kernel_rfl) (by simp) ?_
            refine AllReadyH.cons rfl (fun K hK => ?_) AllReadyH.nil
            refine Tr.wanted_plain rfl ?_
            refine store_mid0 rfl 57 _ _ rfl (wd7.heap.size) 0 #[.slice Ao7 out7.length co7] (by rfl) (by rfl) (by have h := there_blk KA9.out; exact h) Tryz.sizeRgX (by simp [Value.oneCell']) ?_
            have xK := blk_puts1 (.slice Ao7 out7.length co7) KA9.out
            have xB := bsets HBW.out HL9.out (#[.slice Ao7 out7.length co7] : Array Value).toList 0
            have xA8 := KA8.out.farCells (HN8_9.out) (#[.slice Ao7 out7.length co7] : Array Value).toList 0
            have xHRG3 := (HRG3.out.putS KA9.out (.slice Ao7 out7.length co7))
            have xHRG7 := (HRG7.out.putS KA9.out (.slice Ao7 out7.length co7))
            obtain ⟨wS11, hwS⟩ : ∃ wS, World.setCells wS10 (wd7.heap.size) 0 (#[.slice Ao7 out7.length co7] : Array Value).toList = wS := ⟨_, rfl⟩
            rw [hwS] at xK xB xA8 xHRG3 xHRG7 ⊢
            replace HBW := Lib.hid xB
            replace KA9 := Lib.hid xK
            replace KA8 := Lib.hid xA8
            replace HRG3 := Lib.hid xHRG3
            replace HRG7 := Lib.hid xHRG7
            clear hwS xK xB xA8 xHRG3 xHRG7
            refine hK.out _ _ (KW.out _ HBW.out) (fun _ => ?_); clear hK K
            refine wpAnyH_done (by kernel_rfl) ?_ _
            refine NoPanic.normal ?_
            go_wp2_with fail
            go_meet
            exact ⟨_, _, Ao3, co3, Ao7, co7, out3, out7, rfl, rfl, ⟨KA8.out, KA9.out⟩, ⟨HRG3.out, HRG7.out⟩, ⟨HPO3.out, HPO7.out⟩, HBW.out⟩
           ·
            go_simp
            have HN8_9 := Lib.hid (Nat.ne_of_lt KA8.out.lt)
            have KA9 := Lib.hid (show Blk (wd6.alloc (.cells #[.slice none 0 0] 57)) (wd6.heap.size) 57 #[.slice none 0 0] from Blk.new wd6 57 #[.slice none 0 0])
            have HL9 := Lib.hid (show U.heap.size ≤ wd6.heap.size from HBW.out.size)
            have hbA : Below wd6.heap.size wd6 ((wd6.alloc (.cells #[.slice none 0 0] 57))) := bal (bre wd6) (.cells #[.slice none 0 0] 57)
            replace HBW := Lib.hid (bstep HBW.out hbA)
            replace KA8 := Lib.hid (KA8.out.belowS hbA)
            replace HRG3 := Lib.hid (HRG3.out.below hbA); clear hbA
            refine hK.out _ _ (KW.out _ HBW.out) (fun _ => ?_); clear hK K
            refine wpAnyH_ready (rs := [7]) (by kernel_rfl) (by simp) ?_
            refine AllReadyH.cons rfl (fun K hK => ?_) AllReadyH.nil; go_simp
            refine (((HS2.out.below HBQ.out).below HBW.out).clip HTO.out (idW j) HIJ.out).mono ?_
            rintro e wd7 ⟨u7, out7, rfl, hro, hpo, hao, hln, hbA⟩
            have hro2 := hro
            obtain ⟨Ao7, co7, rfl, _⟩ := hro2
            have HRG7 := Lib.hid hro
            have HPO7 := Lib.hid hpo
            clear hro hpo hao hln
            replace HBW := Lib.hid (bstep HBW.out hbA)
            replace KA8 := Lib.hid (KA8.out.belowS hbA)
            replace KA9 := Lib.hid (KA9.out.belowS hbA)
            replace HRG3 := Lib.hid (HRG3.out.below hbA); clear hbA; go_simp
            refine hK.out _ _ (KW.out _ HBW.out) (fun _ => ?_); clear hK K
            refine wpAnyH_ready (rs := [10]) (by kernel_rfl) (by simp) ?_
            refine AllReadyH.cons rfl (fun K hK => ?_) AllReadyH.nil
            refine Tr.wanted_plain rfl ?_
            refine store_mid0 rfl 57 _ _ rfl (U.heap.size) 0 #[.slice Ao3 out3.length co3] (by rfl) (by rfl) (by have h := there_blk KA8.out; exact h) Tryz.sizeRgX (by simp [Value.oneCell']) ?_
            have xK := blk_puts1 (.slice Ao3 out3.length co3) KA8.out
            have xB := bsets HBW.out HL8.out (#[.slice Ao3 out3.length co3] : Array Value).toList 0
            have xA9 := KA9.out.farCells (HN8_9.out.symm) (#[.slice Ao3 out3.length co3] : Array Value).toList 0
            have xHRG3 := (HRG3.out.putS KA8.out (.slice Ao3 out3.length co3))
            have xHRG7 := (HRG7.out.putS KA8.out (.slice Ao3 out3.length co3))
            obtain ⟨wS10, hwS⟩ : ∃ wS, World.setCells wd7 (U.heap.size) 0 (#[.slice Ao3 out3.length co3] : Array Value).toList = wS := ⟨_, rfl⟩
            rw [hwS] at xK xB xA9 xHRG3 xHRG7 ⊢
            replace HBW := Lib.hid xB
            replace KA8 := Lib.hid xK
            replace KA9 := Lib.hid xA9
            replace HRG3 := Lib.hid xHRG3
            replace HRG7 := Lib.hid xHRG7
            clear hwS xK xB xA9 xHRG3 xHRG7
            refine hK.out _ _ (KW.out _ HBW.out) (fun _ => ?_); clear hK K
            refine wpAnyH_ready (rs := [11]) (by kernel_rfl) (by simp) ?_
            refine AllReadyH.cons rfl (fun K hK => ?_) AllReadyH.nil
            refine Tr.wanted_plain rfl ?_
            refine store_mid0 rfl 57 _ _ rfl (wd6.heap.size) 0 #[.slice Ao7 out7.length co7] (by rfl) (by rfl) (by have h := there_blk KA9.out; exact h) Tryz.sizeRgX (by simp [Value.oneCell']) ?_
            have xK := blk_puts1 (.slice Ao7 out7.length co7) KA9.out
            have xB := bsets HBW.out HL9.out (#[.slice Ao7 out7.length co7] : Array Value).toList 0
            have xA8 := KA8.out.farCells (HN8_9.out) (#[.slice Ao7 out7.length co7] : Array Value).toList 0
            have xHRG3 := (HRG3.out.putS KA9.out (.slice Ao7 out7.length co7))
            have xHRG7 := (HRG7.out.putS KA9.out (.slice Ao7 out7.length co7))
            obtain ⟨wS11, hwS⟩ : ∃ wS, World.setCells wS10 (wd6.heap.size) 0 (#[.slice Ao7 out7.length co7] : Array Value).toList = wS := ⟨_, rfl⟩
            rw [hwS] at xK xB xA8 xHRG3 xHRG7 ⊢
            replace HBW := Lib.hid xB
            replace KA9 := Lib.hid xK
            replace KA8 := Lib.hid xA8
            replace HRG3 := Lib.hid xHRG3
            replace HRG7 := Lib.hid xHRG7
            clear hwS xK xB xA8 xHRG3 xHRG7
            refine hK.out _ _ (KW.out _ HBW.out) (fun _ => ?_); clear hK K
            refine wpAnyH_done (by kernel_rfl) ?_ _
            refine NoPanic.normal ?_
            go_wp2_with fail
            go_meet
            exact ⟨_, _, Ao3, co3, Ao7, co7, out3, out7, rfl, rfl, ⟨KA8.out, KA9.out⟩, ⟨HRG3.out, HRG7.out⟩, ⟨HPO3.out, HPO7.out⟩, HBW.out⟩
          ·
           go_simp
           have HN8_9 := Lib.hid (Nat.ne_of_lt KA8.out.lt)
           have KA9 := Lib.hid (show Blk (wd3.alloc (.cells #[.slice none 0 0] 57)) (wd3.heap.size) 57 #[.slice none 0 0] from Blk.new wd3 57 #[.slice none 0 0])
           have HL9 := Lib.hid (show U.heap.size ≤ wd3.heap.size from HBW.out.size)
           have hbA : Below wd3.heap.size wd3 ((wd3.alloc (.cells #[.slice none 0 0] 57))) := bal (bre wd3) (.cells #[.slice none 0 0] 57)
           replace HBW := Lib.hid (bstep HBW.out hbA)
           replace KA8 := Lib.hid (KA8.out.belowS hbA)
           replace HRG3 := Lib.hid (HRG3.out.below hbA); clear hbA
           refine hK.out _ _ (KW.out _ HBW.out) (fun _ => ?_); clear hK K
           refine wpAnyH_ready (rs := [6]) (by kernel_rfl) (by simp) ?_
           refine AllReadyH.cons rfl (fun K hK => ?_) AllReadyH.nil; go_simp
           refine (id_b (j) _ hjd).mono ?_
           rintro e wd6 ⟨rfl, hbA⟩
           replace HBW := Lib.hid (bstep HBW.out hbA)
           replace KA8 := Lib.hid (KA8.out.belowS hbA)
           replace KA9 := Lib.hid (KA9.out.belowS hbA)
           replace HRG3 := Lib.hid (HRG3.out.below hbA); clear hbA; go_simp
           refine hK.out _ _ (KW.out _ HBW.out) (fun _ => ?_); clear hK K
           refine wpAnyH_ready (rs := [7]) (by kernel_rfl) (by simp) ?_
           refine AllReadyH.cons rfl (fun K hK => ?_) AllReadyH.nil; go_simp
           refine (((HS2.out.below HBQ.out).below HBW.out).clip HTO.out (idW j) HIJ.out).mono ?_
           rintro e wd7 ⟨u7, out7, rfl, hro, hpo, hao, hln, hbA⟩
           have hro2 := hro
           obtain ⟨Ao7, co7, rfl, _⟩ := hro2
           have HRG7 := Lib.hid hro
           have HPO7 := Lib.hid hpo
           clear hro hpo hao hln
           replace HBW := Lib.hid (bstep HBW.out hbA)
           replace KA8 := Lib.hid (KA8.out.belowS hbA)
           replace KA9 := Lib.hid (KA9.out.belowS hbA)
           replace HRG3 := Lib.hid (HRG3.out.below hbA); clear hbA; go_simp
           refine hK.out _ _ (KW.out _ HBW.out) (fun _ => ?_); clear hK K
           refine wpAnyH_ready (rs := [10]) (by kernel_rfl) (by simp) ?_
           refine AllReadyH.cons rfl (fun K hK => ?_) AllReadyH.nil
           refine Tr.wanted_plain rfl ?_
           refine store_mid0 rfl 57 _ _ rfl (U.heap.size) 0 #[.slice Ao3 out3.length co3] (by rfl) (by rfl) (by have h := there_blk KA8.out; exact h) Tryz.sizeRgX (by simp [Value.oneCell']) ?_
           have xK := blk_puts1 (.slice Ao3 out3.length co3) KA8.out
           have xB := bsets HBW.out HL8.out (#[.slice Ao3 out3.length co3] : Array Value).toList 0
           have xA9 := KA9.out.farCells (HN8_9.out.symm) (#[.slice Ao3 out3.length co3] : Array Value).toList 0
           have xHRG3 := (HRG3.out.putS KA8.out (.slice Ao3 out3.length co3))
           have xHRG7 := (HRG7.out.putS KA8.out (.slice Ao3 out3.length co3))
           obtain ⟨wS10, hwS⟩ : ∃ wS, World.setCells wd7 (U.heap.size) 0 (#[.slice Ao3 out3.length co3] : Array Value).toList = wS := ⟨_, rfl⟩
           rw [hwS] at xK xB xA9 xHRG3 xHRG7 ⊢
           replace HBW := Lib.hid xB
           replace KA8 := Lib.hid xK
           replace KA9 := Lib.hid xA9
           replace HRG3 := Lib.hid xHRG3
           replace HRG7 := Lib.hid xHRG7
           clear hwS xK xB xA9 xHRG3 xHRG7
           refine hK.out _ _ (KW.out _ HBW.out) (fun _ => ?_); clear hK K
           refine wpAnyH_ready (rs := [11]) (by kernel_rfl) (by simp) ?_
           refine AllReadyH.cons rfl (fun K hK => ?_) AllReadyH.nil
           refine Tr.wanted_plain rfl ?_
           refine store_mid0 rfl 57 _ _ rfl (wd3.heap.size) 0 #[.slice Ao7 out7.length co7] (by rfl) (by rfl) (by have h := there_blk KA9.out; exact h) Tryz.sizeRgX (by simp [Value.oneCell']) ?_
           have xK := blk_puts1 (.slice Ao7 out7.length co7) KA9.out
           have xB := bsets HBW.out HL9.out (#[.slice Ao7 out7.length co7] : Array Value).toList 0
           have xA8 := KA8.out.farCells (HN8_9.out) (#[.slice Ao7 out7.length co7] : Array Value).toList 0
           have xHRG3 := (HRG3.out.putS KA9.out (.slice Ao7 out7.length co7))
           have xHRG7 := (HRG7.out.putS KA9.out (.slice Ao7 out7.length co7))
           obtain ⟨wS11, hwS⟩ : ∃ wS, World.setCells wS10 (wd3.heap.size) 0 (#[.slice Ao7 out7.length co7] : Array Value).toList = wS := ⟨_, rfl⟩
           rw [hwS] at xK xB xA8 xHRG3 xHRG7 ⊢
           replace HBW := Lib.hid xB
           replace KA9 := Lib.hid xK
           replace KA8 := Lib.hid xA8
           replace HRG3 := Lib.hid xHRG3
           replace HRG7 := Lib.hid xHRG7
           clear hwS xK xB xA8 xHRG3 xHRG7
           refine hK.out _ _ (KW.out _ HBW.out) (fun _ => ?_); clear hK K
           refine wpAnyH_done (by kernel_rfl) ?_ _
           refine NoPanic.normal ?_
           go_wp2_with fail
           go_meet
           exact ⟨_, _, Ao3, co3, Ao7, co7, out3, out7, rfl, rfl, ⟨KA8.out, KA9.out⟩, ⟨HRG3.out, HRG7.out⟩, ⟨HPO3.out, HPO7.out⟩, HBW.out⟩
         ·
          go_simp
          have HN8_9 := Lib.hid (Nat.ne_of_lt KA8.out.lt)
          have KA9 := Lib.hid (show Blk (wd2.alloc (.cells #[.slice none 0 0] 57)) (wd2.heap.size) 57 #[.slice none 0 0] from Blk.new wd2 57 #[.slice none 0 0])
          have HL9 := Lib.hid (show U.heap.size ≤ wd2.heap.size from HBW.out.size)
          have hbA : Below wd2.heap.size wd2 ((wd2.alloc (.cells #[.slice none 0 0] 57))) := bal (bre wd2) (.cells #[.slice none 0 0] 57)
          replace HBW := Lib.hid (bstep HBW.out hbA)
          replace KA8 := Lib.hid (KA8.out.belowS hbA); clear hbA
          refine hK.out _ _ (KW.out _ HBW.out) (fun _ => ?_); clear hK K
          refine wpAnyH_ready (rs := [3]) (by kernel_rfl) (by simp) ?_
          refine AllReadyH.cons rfl (fun K hK => ?_) AllReadyH.nil; go_simp
          refine (((HS1.out.below HBQ.out).below HBW.out).clip HNO.out (idW j) HIJ.out).mono ?_
          rintro e wd3 ⟨u3, out3, rfl, hro, hpo, hao, hln, hbA⟩
          have hro2 := hro
          obtain ⟨Ao3, co3, rfl, _⟩ := hro2
          have HRG3 := Lib.hid hro
          have HPO3 := Lib.hid hpo
          clear hro hpo hao hln
          replace HBW := Lib.hid (bstep HBW.out hbA)
          replace KA8 := Lib.hid (KA8.out.belowS hbA)
          replace KA9 := Lib.hid (KA9.out.belowS hbA); clear hbA; go_simp
          refine hK.out _ _ (KW.out _ HBW.out) (fun _ => ?_); clear hK K
          refine wpAnyH_ready (rs := [6]) (by kernel_rfl) (by simp) ?_
          refine AllReadyH.cons rfl (fun K hK => ?_) AllReadyH.nil; go_simp
          refine (id_b (j) _ hjd).mono ?_
          rintro e wd6 ⟨rfl, hbA⟩
          replace HBW := Lib.hid (bstep HBW.out hbA)
          replace KA8 := Lib.hid (KA8.out.belowS hbA)
          replace KA9 := Lib.hid (KA9.out.belowS hbA)
          replace HRG3 := Lib.hid (HRG3.out.below hbA); clear hbA; go_simp
          refine hK.out _ _ (KW.out _ HBW.out) (fun _ => ?_); clear hK K
          refine wpAnyH_ready (rs := [7]) (by kernel_rfl) (by simp) ?_
          refine AllReadyH.cons rfl (fun K hK => ?_) AllReadyH.nil; go_simp
          refine (((HS2.out.below HBQ.out).below HBW.out).clip HTO.out (idW j) HIJ.out).mono ?_
          rintro e wd7 ⟨u7, out7, rfl, hro, hpo, hao, hln, hbA⟩
          have hro2 := hro
          obtain ⟨Ao7, co7, rfl, _⟩ := hro2
          have HRG7 := Lib.hid hro
          have HPO7 := Lib.hid hpo
          clear hro hpo hao hln
          replace HBW := Lib.hid (bstep HBW.out hbA)
          replace KA8 := Lib.hid (KA8.out.belowS hbA)
          replace KA9 := Lib.hid (KA9.out.belowS hbA)
          replace HRG3 := Lib.hid (HRG3.out.below hbA); clear hbA; go_simp
          refine hK.out _ _ (KW.out _ HBW.out) (fun _ => ?_); clear hK K
          refine wpAnyH_ready (rs := [10]) (by kernel_rfl) (by simp) ?_
          refine AllReadyH.cons rfl (fun K hK => ?_) AllReadyH.nil
          refine Tr.wanted_plain rfl ?_
          refine store_mid0 rfl 57 _ _ rfl (U.heap.size) 0 #[.slice Ao3 out3.length co3] (by rfl) (by rfl) (by have h := there_blk KA8.out; exact h) Tryz.sizeRgX (by simp [Value.oneCell']) ?_
          have xK := blk_puts1 (.slice Ao3 out3.length co3) KA8.out
          have xB := bsets HBW.out HL8.out (#[.slice Ao3 out3.length co3] : Array Value).toList 0
          have xA9 := KA9.out.farCells (HN8_9.out.symm) (#[.slice Ao3 out3.length co3] : Array Value).toList 0
          have xHRG3 := (HRG3.out.putS KA8.out (.slice Ao3 out3.length co3))
          have xHRG7 := (HRG7.out.putS KA8.out (.slice Ao3 out3.length co3))
          obtain ⟨wS10, hwS⟩ : ∃ wS, World.setCells wd7 (U.heap.size) 0 (#[.slice Ao3 out3.length co3] : Array Value).toList = wS := ⟨_, rfl⟩
          rw [hwS] at xK xB xA9 xHRG3 xHRG7 ⊢
          replace HBW := Lib.hid xB
          replace KA8 := Lib.hid xK
          replace KA9 := Lib.hid xA9
          replace HRG3 := Lib.hid xHRG3
          replace HRG7 := Lib.hid xHRG7
          clear hwS xK xB xA9 xHRG3 xHRG7
          refine hK.out _ _ (KW.out _ HBW.out) (fun _ => ?_); clear hK K
          refine wpAnyH_ready (rs := [11]) (by kernel_rfl) (by simp) ?_
          refine AllReadyH.cons rfl (fun K hK => ?_) AllReadyH.nil
          refine Tr.wanted_plain rfl ?_
          refine store_mid0 rfl 57 _ _ rfl (wd2.heap.size) 0 #[.slice Ao7 out7.length co7] (by rfl) (by rfl) (by have h := there_blk KA9.out; exact h) Tryz.sizeRgX (by simp [Value.oneCell']) ?_
          have xK := blk_puts1 (.slice Ao7 out7.length co7) KA9.out
          have xB := bsets HBW.out HL9.out (#[.slice Ao7 out7.length co7] : Array Value).toList 0
          have xA8 := KA8.out.farCells (HN8_9.out) (#[.slice Ao7 out7.length co7] : Array Value).toList 0
          have xHRG3 := (HRG3.out.putS KA9.out (.slice Ao7 out7.length co7))
          have xHRG7 := (HRG7.out.putS KA9.out (.slice Ao7 out7.length co7))
          obtain ⟨wS11, hwS⟩ : ∃ wS, World.setCells wS10 (wd2.heap.size) 0 (#[.slice Ao7 out7.length co7] : Array Value).toList = wS := ⟨_, rfl⟩
          rw [hwS] at xK xB xA8 xHRG3 xHRG7 ⊢
          replace HBW := Lib.hid xB
          replace KA9 := Lib.hid xK
          replace KA8 := Lib.hid xA8
          replace HRG3 := Lib.hid xHRG3
          replace HRG7 := Lib.hid xHRG7
          clear hwS xK xB xA8 xHRG3 xHRG7
          refine hK.out _ _ (KW.out _ HBW.out) (fun _ => ?_); clear hK K
          refine wpAnyH_done (by kernel_rfl) ?_ _
          refine NoPanic.normal ?_
          go_wp2_with fail
          go_meet
          exact ⟨_, _, Ao3, co3, Ao7, co7, out3, out7, rfl, rfl, ⟨KA8.out, KA9.out⟩, ⟨HRG3.out, HRG7.out⟩, ⟨HPO3.out, HPO7.out⟩, HBW.out⟩
        ·
         go_simp
         have HN8_9 := Lib.hid (show U.heap.size ≠ U.heap.size + 1 from by have h := KA8.out.lt; rw [show ((U.alloc (.cells #[.slice none 0 0] 57)).drew).heap.size = U.heap.size + 1 from (show ((U.alloc (.cells #[.slice none 0 0] 57))).heap.size = U.heap.size + 1 by simp)] at h; exact Nat.ne_of_lt h)
         have KA9 := Lib.hid (show Blk ((U.alloc (.cells #[.slice none 0 0] 57)).alloc (.cells #[.slice none 0 0] 57)).drew (U.heap.size + 1) 57 #[.slice none 0 0] from by have h := Blk.new ((U.alloc (.cells #[.slice none 0 0] 57)).drew) 57 #[.slice none 0 0]; rw [show ((U.alloc (.cells #[.slice none 0 0] 57)).drew).heap.size = U.heap.size + 1 from (show ((U.alloc (.cells #[.slice none 0 0] 57))).heap.size = U.heap.size + 1 by simp)] at h; exact h)
         have HL9 := Lib.hid (show U.heap.size ≤ U.heap.size + 1 from by have h := HBW.out.size; rw [show ((U.alloc (.cells #[.slice none 0 0] 57)).drew).heap.size = U.heap.size + 1 from (show ((U.alloc (.cells #[.slice none 0 0] 57))).heap.size = U.heap.size + 1 by simp)] at h; exact h)
         have hbA : Below (U.alloc (.cells #[.slice none 0 0] 57)).drew.heap.size (U.alloc (.cells #[.slice none 0 0] 57)).drew (((U.alloc (.cells #[.slice none 0 0] 57)).alloc (.cells #[.slice none 0 0] 57)).drew) := bal (bre (U.alloc (.cells #[.slice none 0 0] 57)).drew) (.cells #[.slice none 0 0] 57)
         replace HBW := Lib.hid (bstep HBW.out hbA)
         replace KA8 := Lib.hid (KA8.out.belowS hbA); clear hbA
         refine hK.out _ _ (KW.out _ HBW.out) (fun _ => ?_); clear hK K
         refine wpAnyH_ready (rs := [2]) (by kernel_rfl) (by simp) ?_
         refine AllReadyH.cons rfl (fun K hK => ?_) AllReadyH.nil; go_simp
         refine (id_b (j) _ hjd).mono ?_
         rintro e wd2 ⟨rfl, hbA⟩
         replace HBW := Lib.hid (bstep HBW.out hbA)
         replace KA8 := Lib.hid (KA8.out.belowS hbA)
         replace KA9 := Lib.hid (KA9.out.belowS hbA); clear hbA; go_simp
         refine hK.out _ _ (KW.out _ HBW.out) (fun _ => ?_); clear hK K
         refine wpAnyH_ready (rs := [3]) (by kernel_rfl) (by simp) ?_
         refine AllReadyH.cons rfl (fun K hK => ?_) AllReadyH.nil; go_simp
         refine (((HS1.out.below HBQ.out).below HBW.out).clip HNO.out (idW j) HIJ.out).mono ?_
         rintro e wd3 ⟨u3, out3, rfl, hro, hpo, hao, hln, hbA⟩
         have hro2 := hro
         obtain ⟨Ao3, co3, rfl, _⟩ := hro2
         have HRG3 := Lib.hid hro
         have HPO3 := Lib.hid hpo
         clear hro hpo hao hln
         replace HBW := Lib.hid (bstep HBW.out hbA)
         replace KA8 := Lib.hid (KA8.out.belowS hbA)
         replace KA9 := Lib.hid (KA9.out.belowS hbA); clear hbA; go_simp
         refine hK.out _ _ (KW.out _ HBW.out) (fun _ => ?_); clear hK K
         refine wpAnyH_ready (rs := [6]) (by kernel_rfl) (by simp) ?_
         refine AllReadyH.cons rfl (fun K hK => ?_) AllReadyH.nil; go_simp
         refine (id_b (j) _ hjd).mono ?_
         rintro e wd6 ⟨rfl, hbA⟩
         replace HBW := Lib.hid (bstep HBW.out hbA)
         replace KA8 := Lib.hid (KA8.out.belowS hbA)
         replace KA9 := Lib.hid (KA9.out.belowS hbA)
         replace HRG3 := Lib.hid (HRG3.out.below hbA); clear hbA; go_simp
         refine hK.out _ _ (KW.out _ HBW.out) (fun _ => ?_); clear hK K
         refine wpAnyH_ready (rs := [7]) (by kernel_rfl) (by simp) ?_
         refine AllReadyH.cons rfl (fun K hK => ?_) AllReadyH.nil; go_simp
         refine (((HS2.out.below HBQ.out).below HBW.out).clip HTO.out (idW j) HIJ.out).mono ?_
         rintro e wd7 ⟨u7, out7, rfl, hro, hpo, hao, hln, hbA⟩
         have hro2 := hro
         obtain ⟨Ao7, co7, rfl, _⟩ := hro2
         have HRG7 := Lib.hid hro
         have HPO7 := Lib.hid hpo
         clear hro hpo hao hln
         replace HBW := Lib.hid (bstep HBW.out hbA)
         replace KA8 := Lib.hid (KA8.out.belowS hbA)
         replace KA9 := Lib.hid (KA9.out.belowS hbA)
         replace HRG3 := Lib.hid (HRG3.out.below hbA); clear hbA; go_simp
         refine hK.out _ _ (KW.out _ HBW.out) (fun _ => ?_); clear hK K
         refine wpAnyH_ready (rs := [10]) (by kernel_rfl) (by simp) ?_
         refine AllReadyH.cons rfl (fun K hK => ?_) AllReadyH.nil
         refine Tr.wanted_plain rfl ?_
         refine store_mid0 rfl 57 _ _ rfl (U.heap.size) 0 #[.slice Ao3 out3.length co3] (by rfl) (by rfl) (by have h := there_blk KA8.out; exact h) Tryz.sizeRgX (by simp [Value.oneCell']) ?_
         have xK := blk_puts1 (.slice Ao3 out3.length co3) KA8.out
         have xB := bsets HBW.out HL8.out (#[.slice Ao3 out3.length co3] : Array Value).toList 0
         have xA9 := KA9.out.farCells (HN8_9.out.symm) (#[.slice Ao3 out3.length co3] : Array Value).toList 0
         have xHRG3 := (HRG3.out.putS KA8.out (.slice Ao3 out3.length co3))
         have xHRG7 := (HRG7.out.putS KA8.out (.slice Ao3 out3.length co3))
         obtain ⟨wS10, hwS⟩ : ∃ wS, World.setCells wd7 (U.heap.size) 0 (#[.slice Ao3 out3.length co3] : Array Value).toList = wS := ⟨_, rfl⟩
         rw [hwS] at xK xB xA9 xHRG3 xHRG7 ⊢
         replace HBW := Lib.hid xB
         replace KA8 := Lib.hid xK
         replace KA9 := Lib.hid xA9
         replace HRG3 := Lib.hid xHRG3
         replace HRG7 := Lib.hid xHRG7
         clear hwS xK xB xA9 xHRG3 xHRG7
         refine hK.out _ _ (KW.out _ HBW.out) (fun _ => ?_); clear hK K
         refine wpAnyH_ready (rs := [11]) (by kernel_rfl) (by simp) ?_
         refine AllReadyH.cons rfl (fun K hK => ?_) AllReadyH.nil
         refine Tr.wanted_plain rfl ?_
         refine store_mid0 rfl 57 _ _ rfl (U.heap.size + 1) 0 #[.slice Ao7 out7.length co7] (by rfl) (by rfl) (by have h := there_blk KA9.out; exact h) Tryz.sizeRgX (by simp [Value.oneCell']) ?_
         have xK := blk_puts1 (.slice Ao7 out7.length co7) KA9.out
         have xB := bsets HBW.out HL9.out (#[.slice Ao7 out7.length co7] : Array Value).toList 0
         have xA8 := KA8.out.farCells (HN8_9.out) (#[.slice Ao7 out7.length co7] : Array Value).toList 0
         have xHRG3 := (HRG3.out.putS KA9.out (.slice Ao7 out7.length co7))
         have xHRG7 := (HRG7.out.putS KA9.out (.slice Ao7 out7.length co7))
         obtain ⟨wS11, hwS⟩ : ∃ wS, World.setCells wS10 (U.heap.size + 1) 0 (#[.slice Ao7 out7.length co7] : Array Value).toList = wS := ⟨_, rfl⟩
         rw [hwS] at xK xB xA8 xHRG3 xHRG7 ⊢
         replace HBW := Lib.hid xB
         replace KA9 := Lib.hid xK
         replace KA8 := Lib.hid xA8
         replace HRG3 := Lib.hid xHRG3
         replace HRG7 := Lib.hid xHRG7
         clear hwS xK xB xA8 xHRG3 xHRG7
         refine hK.out _ _ (KW.out _ HBW.out) (fun _ => ?_); clear hK K
         refine wpAnyH_done (by kernel_rfl) ?_ _
         refine NoPanic.normal ?_
         go_wp2_with fail
         go_meet
         exact ⟨_, _, Ao3, co3, Ao7, co7, out3, out7, rfl, rfl, ⟨KA8.out, KA9.out⟩, ⟨HRG3.out, HRG7.out⟩, ⟨HPO3.out, HPO7.out⟩, HBW.out⟩
       ·
        go_simp
        have KA9 := Lib.hid (show Blk (U.alloc (.cells #[.slice none 0 0] 57)).drew (U.heap.size) 57 #[.slice none 0 0] from Blk.new U.drew 57 #[.slice none 0 0])
        have HL9 := Lib.hid (show U.heap.size ≤ U.heap.size from HBW.out.size)
        have hbA : Below U.drew.heap.size U.drew ((U.alloc (.cells #[.slice none 0 0] 57)).drew) := bal (bre U.drew) (.cells #[.slice none 0 0] 57)
        replace HBW := Lib.hid (bstep HBW.out hbA); clear hbA
        refine hK.out _ _ (KW.out _ HBW.out) (fun _ => ?_); clear hK K
        refine wpAnyH_ready (rs := [2, 8]) (by kernel_rfl) (by simp) ?_
        refine AllReadyH.cons rfl (fun K hK => ?_) (AllReadyH.cons rfl (fun K hK => ?_) AllReadyH.nil)
        ·
         go_simp
         refine (id_b (j) _ hjd).mono ?_
         rintro e wd2 ⟨rfl, hbA⟩
         replace HBW := Lib.hid (bstep HBW.out hbA)
         replace KA9 := Lib.hid (KA9.out.belowS hbA); clear hbA; go_simp
         refine hK.out _ _ (KW.out _ HBW.out) (fun _ => ?_); clear hK K
         refine wpAnyH_ready (rs := [3, 8]) (by kernel_rfl) (by simp) ?_
         refine AllReadyH.cons rfl (fun K hK => ?_) (AllReadyH.cons rfl (fun K hK => ?_) AllReadyH.nil)
         ·
          go_simp
          refine (((HS1.out.below HBQ.out).below HBW.out).clip HNO.out (idW j) HIJ.out).mono ?_
          rintro e wd3 ⟨u3, out3, rfl, hro, hpo, hao, hln, hbA⟩
          have hro2 := hro
          obtain ⟨Ao3, co3, rfl, _⟩ := hro2
          have HRG3 := Lib.hid hro
          have HPO3 := Lib.hid hpo
          clear hro hpo hao hln
          replace HBW := Lib.hid (bstep HBW.out hbA)
          replace KA9 := Lib.hid (KA9.out.belowS hbA); clear hbA; go_simp
          refine hK.out _ _ (KW.out _ HBW.out) (fun _ => ?_); clear hK K
          refine wpAnyH_ready (rs := [6, 8]) (by kernel_rfl) (by simp) ?_
          refine AllReadyH.cons rfl (fun K hK => ?_) (AllReadyH.cons rfl (fun K hK => ?_) AllReadyH.nil)
          ·
           go_simp
           refine (id_b (j) _ hjd).mono ?_
           rintro e wd6 ⟨rfl, hbA⟩
           replace HBW := Lib.hid (bstep HBW.out hbA)
           replace KA9 := Lib.hid (KA9.out.belowS hbA)
           replace HRG3 := Lib.hid (HRG3.out.below hbA); clear hbA; go_simp
           refine hK.out _ _ (KW.out _ HBW.out) (fun _ => ?_); clear hK K
           refine wpAnyH_ready (rs := [7, 8]) (by kernel_rfl) (by simp) ?_
           refine AllReadyH.cons rfl (fun K hK => ?_) (AllReadyH.cons rfl (fun K hK => ?_) AllReadyH.nil)
           ·
            go_simp
            refine (((HS2.out.below HBQ.out).below HBW.out).clip HTO.out (idW j) HIJ.out).mono ?_
            rintro e wd7 ⟨u7, out7, rfl, hro, hpo, hao, hln, hbA⟩
            have hro2 := hro
            obtain ⟨Ao7, co7, rfl, _⟩ := hro2
            have HRG7 := Lib.hid hro
            have HPO7 := Lib.hid hpo
            clear hro hpo hao hln
            replace HBW := Lib.hid (bstep HBW.out hbA)
            replace KA9 := Lib.hid (KA9.out.belowS hbA)
            replace HRG3 := Lib.hid (HRG3.out.below hbA); clear hbA; go_simp
            refine hK.out _ _ (KW.out _ HBW.out) (fun _ => ?_); clear hK K
            refine wpAnyH_ready (rs := [8]) (by kernel_rfl) (by simp) ?_
            refine AllReadyH.cons rfl (fun K hK => ?_) AllReadyH.nil; go_simp
            have HN9_8 := Lib.hid (Nat.ne_of_lt KA9.out.lt)
            have KA8 := Lib.hid (show Blk (wd7.alloc (.cells #[.slice none 0 0] 57)) (wd7.heap.size) 57 #[.slice none 0 0] from Blk.new wd7 57 #[.slice none 0 0])
            have HL8 := Lib.hid (show U.heap.size ≤ wd7.heap.size from HBW.out.size)
            have hbA : Below wd7.heap.size wd7 ((wd7.alloc (.cells #[.slice none 0 0] 57))) := bal (bre wd7) (.cells #[.slice none 0 0] 57)
            replace HBW := Lib.hid (bstep HBW.out hbA)
            replace KA9 := Lib.hid (KA9.out.belowS hbA)
            replace HRG3 := Lib.hid (HRG3.out.below hbA)
            replace HRG7 := Lib.hid (HRG7.out.below hbA); clear hbA
            refine hK.out _ _ (KW.out _ HBW.out) (fun _ => ?_); clear hK K
            refine wpAnyH_ready (rs := [10]) (by kernel_rfl) (by simp) ?_
            refine AllReadyH.cons rfl (fun K hK => ?_) AllReadyH.nil
            refine Tr.wanted_plain rfl ?_
            refine store_mid0 rfl 57 _ _ rfl (wd7.heap.size) 0 #[.slice Ao3 out3.length co3] (by rfl) (by rfl) (by have h := there_blk KA8.out; exact h) Tryz.sizeRgX (by simp [Value.oneCell']) ?_
            have xK := blk_puts1 (.slice Ao3 out3.length co3) KA8.out
            have xB := bsets HBW.out HL8.out (#[.slice Ao3 out3.length co3] : Array Value).toList 0
            have xA9 := KA9.out.farCells (HN9_8.out) (#[.slice Ao3 out3.length co3] : Array Value).toList 0
            have xHRG3 := (HRG3.out.putS KA8.out (.slice Ao3 out3.length co3))
            have xHRG7 := (HRG7.out.putS KA8.out (.slice Ao3 out3.length co3))
            obtain ⟨wS10, hwS⟩ : ∃ wS, World.setCells (wd7.alloc (.cells #[.slice none 0 0] 57)) (wd7.heap.size) 0 (#[.slice Ao3 out3.length co3] : Array Value).toList = wS := ⟨_, rfl⟩
            rw [hwS] at xK xB xA9 xHRG3 xHRG7 ⊢
            replace HBW := Lib.hid xB
            replace KA8 := Lib.hid xK
            replace KA9 := Lib.hid xA9
            replace HRG3 := Lib.hid xHRG3
            replace HRG7 := Lib.hid xHRG7
            clear hwS xK xB xA9 xHRG3 xHRG7
            refine hK.out _ _ (KW.out _ HBW.out) (fun _ => ?_); clear hK K
            refine wpAnyH_ready (rs := [11]) (by kernel_rfl) (by simp) ?_
            refine AllReadyH.cons rfl (fun K hK => ?_) AllReadyH.nil
            refine Tr.wanted_plain rfl ?_
            refine store_mid0 rfl 57 _ _ rfl (U.heap.size) 0 #[.slice Ao7 out7.length co7] (by rfl) (by rfl) (by have h := there_blk KA9.out; exact h) Tryz.sizeRgX (by simp [Value.oneCell']) ?_
            have xK := blk_puts1 (.slice Ao7 out7.length co7) KA9.out
            have xB := bsets HBW.out HL9.out (#[.slice Ao7 out7.length co7] : Array Value).toList 0
            have xA8 := KA8.out.farCells (HN9_8.out.symm) (#[.slice Ao7 out7.length co7] : Array Value).toList 0
            have xHRG3 := (HRG3.out.putS KA9.out (.slice Ao7 out7.length co7))
            have xHRG7 := (HRG7.out.putS KA9.out (.slice Ao7 out7.length co7))
            obtain ⟨wS11, hwS⟩ : ∃ wS, World.setCells wS10 (U.heap.size) 0 (#[.slice Ao7 out7.length co7] : Array Value).toList = wS := ⟨_, rfl⟩
            rw [hwS] at xK xB xA8 xHRG3 xHRG7 ⊢
            replace HBW := Lib.hid xB
            replace KA9 := Lib.hid xK
            replace KA8 := Lib.hid xA8
            replace HRG3 := Lib.hid xHRG3
            replace HRG7 := Lib.hid xHRG7
            clear hwS xK xB xA8 xHRG3 xHRG7
            refine hK.out _ _ (KW.out _ HBW.out) (fun _ => ?_); clear hK K
            refine wpAnyH_done (by kernel_rfl) ?_ _
            refine NoPanic.normal ?_
            go_wp2_with fail
            go_meet
            exact ⟨_, _, Ao3, co3, Ao7, co7, out3, out7, rfl, rfl, ⟨KA8.out, KA9.out⟩, ⟨HRG3.out, HRG7.out⟩, ⟨HPO3.out, HPO7.out⟩, HBW.out⟩
           ·
            go_simp
            have HN9_8 := Lib.hid (Nat.ne_of_lt KA9.out.lt)
            have KA8 := Lib.hid (show Blk (wd6.alloc (.cells #[.slice none 0 0] 57)) (wd6.heap.size) 57 #[.slice none 0 0] from Blk.new wd6 57 #[.slice none 0 0])
            have HL8 := Lib.hid (show U.heap.size ≤ wd6.heap.size from HBW.out.size)
            have hbA : Below wd6.heap.size wd6 ((wd6.alloc (.cells #[.slice none 0 0] 57))) := bal (bre wd6) (.cells #[.slice none 0 0] 57)
            replace HBW := Lib.hid (bstep HBW.out hbA)
            replace KA9 := Lib.hid (KA9.out.belowS hbA)
            replace HRG3 := Lib.hid (HRG3.out.below hbA); clear hbA
            refine hK.out _ _ (KW.out _ HBW.out) (fun _ => ?_); clear hK K
            refine wpAnyH_ready (rs := [7]) (by kernel_rfl) (by simp) ?_
            refine AllReadyH.cons rfl (fun K hK => ?_) AllReadyH.nil; go_simp
            refine (((HS2.out.below HBQ.out).below HBW.out).clip HTO.out (idW j) HIJ.out).mono ?_
            rintro e wd7 ⟨u7, out7, rfl, hro, hpo, hao, hln, hbA⟩
            have hro2 := hro
            obtain ⟨Ao7, co7, rfl, _⟩ := hro2
            have HRG7 := Lib.hid hro
            have HPO7 := Lib.hid hpo
            clear hro hpo hao hln
            replace HBW := Lib.hid (bstep HBW.out hbA)
            replace KA9 := Lib.hid (KA9.out.belowS hbA)
            replace KA8 := Lib.hid (KA8.out.belowS hbA)
            replace HRG3 := Lib.hid (HRG3.out.below hbA); clear hbA; go_simp
            refine hK.out _ _ (KW.out _ HBW.out) (fun _ => ?_); clear hK K
            refine wpAnyH_ready (rs := [10]) (by kernel_rfl) (by simp) ?_
            refine AllReadyH.cons rfl (fun K hK => ?_) AllReadyH.nil
            refine Tr.wanted_plain rfl ?_
            refine store_mid0 rfl 57 _ _ rfl (wd6.heap.size) 0 #[.slice Ao3 out3.length co3] (by rfl) (by rfl) (by have h := there_blk KA8.out; exact h) Tryz.sizeRgX (by simp [Value.oneCell']) ?_
            have xK := blk_puts1 (.slice Ao3 out3.length co3) KA8.out
            have xB := bsets HBW.out HL8.out (#[.slice Ao3 out3.length co3] : Array Value).toList 0
            have xA9 := KA9.out.farCells (HN9_8.out) (#[.slice Ao3 out3.length co3] : Array Value).toList 0
            have xHRG3 := (HRG3.out.putS KA8.out (.slice Ao3 out3.length co3))
            have xHRG7 := (HRG7.out.putS KA8.out (.slice Ao3 out3.length co3))
            obtain ⟨wS10, hwS⟩ : ∃ wS, World.setCells wd7 (wd6.heap.size) 0 (#[.slice Ao3 out3.length co3] : Array Value).toList = wS := ⟨_, rfl⟩
            rw [hwS] at xK xB xA9 xHRG3 xHRG7 ⊢
            replace HBW := Lib.hid xB
            replace KA8 := Lib.hid xK
            replace KA9 := Lib.hid xA9
            replace HRG3 := Lib.hid xHRG3
            replace HRG7 := Lib.hid xHRG7
            clear hwS xK xB xA9 xHRG3 xHRG7
            refine hK.out _ _ (KW.out _ HBW.out) (fun _ => ?_); clear hK K
            refine wpAnyH_ready (rs := [11]) (by kernel_rfl) (by simp) ?_
            refine AllReadyH.cons rfl (fun K hK => ?_) AllReadyH.nil
            refine Tr.wanted_plain rfl ?_
            refine store_mid0 rfl 57 _ _ rfl (U.heap.size) 0 #[.slice Ao7 out7.length co7] (by rfl) (by rfl) (by have h := there_blk KA9.out; exact h) Tryz.sizeRgX (by simp [Value.oneCell']) ?_
            have xK := blk_puts1 (.slice Ao7 out7.length co7) KA9.out
            have xB := bsets HBW.out HL9.out (#[.slice Ao7 out7.length co7] : Array Value).toList 0
            have xA8 := KA8.out.farCells (HN9_8.out.symm) (#[.slice Ao7 out7.length co7] : Array Value).toList 0
            have xHRG3 := (HRG3.out.putS KA9.out (.slice Ao7 out7.length co7))
            have xHRG7 := (HRG7.out.putS KA9.out (.slice Ao7 out7.length co7))
            obtain ⟨wS11, hwS⟩ : ∃ wS, World.setCells wS10 (U.heap.size) 0 (#[.slice Ao7 out7.length co7] : Array Value).toList = wS := ⟨_, rfl⟩
            rw [hwS] at xK xB xA8 xHRG3 xHRG7 ⊢
            replace HBW := Lib.hid xB
            replace KA9 := Lib.hid xK
            replace KA8 := Lib.hid xA8
            replace HRG3 := Lib.hid xHRG3
            replace HRG7 := Lib.hid xHRG7
            clear hwS xK xB xA8 xHRG3 xHRG7
            refine hK.out _ _ (KW.out _ HBW.out) (fun _ => ?_); clear hK K
            refine wpAnyH_done (by kernel_rfl) ?_ _
            refine NoPanic.normal ?_
            go_wp2_with fail
            go_meet
            exact ⟨_, _, Ao3, co3, Ao7, co7, out3, out7, rfl, rfl, ⟨KA8.out, KA9.out⟩, ⟨HRG3.out, HRG7.out⟩, ⟨HPO3.out, HPO7.out⟩, HBW.out⟩
          ·
           go_simp
           have HN9_8 := Lib.hid (Nat.ne_of_lt KA9.out.lt)
           have KA8 := Lib.hid (show Blk (wd3.alloc (.cells #[.slice none 0 0] 57)) (wd3.heap.size) 57 #[.slice none 0 0] from Blk.new wd3 57 #[.slice none 0 0])
           have HL8 := Lib.hid (show U.heap.size ≤ wd3.heap.size from HBW.out.size)
           have hbA : Below wd3.heap.size wd3 ((wd3.alloc (.cells #[.slice none 0 0] 57))) := bal (bre wd3) (.cells #[.slice none 0 0] 57)
           replace HBW := Lib.hid (bstep HBW.out hbA)
           replace KA9 := Lib.hid (KA9.out.belowS hbA)
           replace HRG3 := Lib.hid (HRG3.out.below hbA); clear hbA
           refine hK.out _ _ (KW.out _ HBW.out) (fun _ => ?_); clear hK K
           refine wpAnyH_ready (rs := [6]) (by kernel_rfl) (by simp) ?_
           refine AllReadyH.cons rfl (fun K hK => ?_) AllReadyH.nil; go_simp
           refine (id_b (j) _ hjd).mono ?_
           rintro e wd6 ⟨rfl, hbA⟩
           replace HBW := Lib.hid (bstep HBW.out hbA)
           replace KA9 := Lib.hid (KA9.out.belowS hbA)
           replace KA8 := Lib.hid (KA8.out.belowS hbA)
           replace HRG3 := Lib.hid (HRG3.out.below hbA); clear hbA; go_simp
           refine hK.out _ _ (KW.out _ HBW.out) (fun _ => ?_); clear hK K
           refine wpAnyH_ready (rs := [7]) (by kernel_rfl) (by simp) ?_
           refine AllReadyH.cons rfl (fun K hK => ?_) AllReadyH.nil; go_simp
           refine (((HS2.out.below HBQ.out).below HBW.out).clip HTO.out (idW j) HIJ.out).mono ?_
           rintro e wd7 ⟨u7, out7, rfl, hro, hpo, hao, hln, hbA⟩
           have hro2 := hro
           obtain ⟨Ao7, co7, rfl, _⟩ := hro2
           have HRG7 := Lib.hid hro
           have HPO7 := Lib.hid hpo
           clear hro hpo hao hln
           replace HBW := Lib.hid (bstep HBW.out hbA)
           replace KA9 := Lib.hid (KA9.out.belowS hbA)
           replace KA8 := Lib.hid (KA8.out.belowS hbA)
           replace HRG3 := Lib.hid (HRG3.out.below hbA); clear hbA; go_simp
           refine hK.out _ _ (KW.out _ HBW.out) (fun _ => ?_); clear hK K
           refine wpAnyH_ready (rs := [10]) (by kernel_rfl) (by simp) ?_
           refine AllReadyH.cons rfl (fun K hK => ?_) AllReadyH.nil
           refine Tr.wanted_plain rfl ?_
           refine store_mid0 rfl 57 _ _ rfl (wd3.heap.size) 0 #[.slice Ao3 out3.length co3] (by rfl) (by rfl) (by have h := there_blk KA8.out; exact h) Tryz.sizeRgX (by simp [Value.oneCell']) ?_
           have xK := blk_puts1 (.slice Ao3 out3.length co3) KA8.out
           have xB := bsets HBW.out HL8.out (#[.slice Ao3 out3.length co3] : Array Value).toList 0
           have xA9 := KA9.out.farCells (HN9_8.out) (#[.slice Ao3 out3.length co3] : Array Value).toList 0
           have xHRG3 := (HRG3.out.putS KA8.out (.slice Ao3 out3.length co3))
           have xHRG7 := (HRG7.out.putS KA8.out (.slice Ao3 out3.length co3))
           obtain ⟨wS10, hwS⟩ : ∃ wS, World.setCells wd7 (wd3.heap.size) 0 (#[.slice Ao3 out3.length co3] : Array Value).toList = wS := ⟨_, rfl⟩
           rw [hwS] at xK xB xA9 xHRG3 xHRG7 ⊢
           replace HBW := Lib.hid xB
           replace KA8 := Lib.hid xK
           replace KA9 := Lib.hid xA9
           replace HRG3 := Lib.hid xHRG3
           replace HRG7 := Lib.hid xHRG7
           clear hwS xK xB xA9 xHRG3 xHRG7
           refine hK.out _ _ (KW.out _ HBW.out) (fun _ => ?_); clear hK K
           refine wpAnyH_ready (rs := [11]) (by kernel_rfl) (by simp) ?_
           refine AllReadyH.cons rfl (fun K hK => ?_) AllReadyH.nil
           refine Tr.wanted_plain rfl ?_
           refine store_mid0 rfl 57 _ _ rfl (U.heap.size) 0 #[.slice Ao7 out7.length co7] (by rfl) (by rfl) (by have h := there_blk KA9.out; exact h) Tryz.sizeRgX (by simp [Value.oneCell']) ?_
           have xK := blk_puts1 (.slice Ao7 out7.length co7) KA9.out
           have xB := bsets HBW.out HL9.out (#[.slice Ao7 out7.length co7] : Array Value).toList 0
           have xA8 := KA8.out.farCells (HN9_8.out.symm) (#[.slice Ao7 out7.length co7] : Array Value).toList 0
           have xHRG3 := (HRG3.out.putS KA9.out (.slice Ao7 out7.length co7))
           have xHRG7 := (HRG7.out.putS KA9.out (.slice Ao7 out7.length co7))
           obtain ⟨wS11, hwS⟩ : ∃ wS, World.setCells wS10 (U.heap.size) 0 (#[.slice Ao7 out7.length co7] : Array Value).toList = wS := ⟨_, rfl⟩
           rw [hwS] at xK xB xA8 xHRG3 xHRG7 ⊢
           replace HBW := Lib.hid xB
           replace KA9 := Lib.hid xK
           replace KA8 := Lib.hid xA8
           replace HRG3 := Lib.hid xHRG3
           replace HRG7 := Lib.hid xHRG7
           clear hwS xK xB xA8 xHRG3 xHRG7
           refine hK.out _ _ (KW.out _ HBW.out) (fun _ => ?_); clear hK K
           refine wpAnyH_done (by kernel_rfl) ?_ _
           refine NoPanic.normal ?_
           go_wp2_with fail
           go_meet
           exact ⟨_, _, Ao3, co3, Ao7, co7, out3, out7, rfl, rfl, ⟨KA8.out, KA9.out⟩, ⟨HRG3.out, HRG7.out⟩, ⟨HPO3.out, HPO7.out⟩, HBW.out⟩
         ·
          go_simp
          have HN9_8 := Lib.hid (Nat.ne_of_lt KA9.out.lt)
          have KA8 := Lib.hid (show Blk (wd2.alloc (.cells #[.slice none 0 0] 57)) (wd2.heap.size) 57 #[.slice none 0 0] from Blk.new wd2 57 #[.slice none 0 0])
          have HL8 := Lib.hid (show U.heap.size ≤ wd2.heap.size from HBW.out.size)
          have hbA : Below wd2.heap.size wd2 ((wd2.alloc (.cells #[.slice none 0 0] 57))) := bal (bre wd2) (.cells #[.slice none 0 0] 57)
          replace HBW := Lib.hid (bstep HBW.out hbA)
          replace KA9 := Lib.hid (KA9.out.belowS hbA); clear hbA
          refine hK.out _ _ (KW.out _ HBW.out) (fun _ => ?_); clear hK K
          refine wpAnyH_ready (rs := [3]) (by kernel_rfl) (by simp) ?_
          refine AllReadyH.cons rfl (fun K hK => ?_) AllReadyH.nil; go_simp
          refine (((HS1.out.below HBQ.out).below HBW.out).clip HNO.out (idW j) HIJ.out).mono ?_
          rintro e wd3 ⟨u3, out3, rfl, hro, hpo, hao, hln, hbA⟩
          have hro2 := hro
          obtain ⟨Ao3, co3, rfl, _⟩ := hro2
          have HRG3 := Lib.hid hro
          have HPO3 := Lib.hid hpo
          clear hro hpo hao hln
          replace HBW := Lib.hid (bstep HBW.out hbA)
          replace KA9 := Lib.hid (KA9.out.belowS hbA)
          replace KA8 := Lib.hid (KA8.out.belowS hbA); clear hbA; go_simp
          refine hK.out _ _ (KW.out _ HBW.out) (fun _ => ?_); clear hK K
          refine wpAnyH_ready (rs := [6]) (by kernel_rfl) (by simp) ?_
          refine AllReadyH.cons rfl (fun K hK => ?_) AllReadyH.nil; go_simp
          refine (id_b (j) _ hjd).mono ?_
          rintro e wd6 ⟨rfl, hbA⟩
          replace HBW := Lib.hid (bstep HBW.out hbA)
          replace KA9 := Lib.hid (KA9.out.belowS hbA)
          replace KA8 := Lib.hid (KA8.out.belowS hbA)
          replace HRG3 := Lib.hid (HRG3.out.below hbA); clear hbA; go_simp
          refine hK.out _ _ (KW.out _ HBW.out) (fun _ => ?_); clear hK K
          refine wpAnyH_ready (rs := [7]) (by kernel_rfl) (by simp) ?_
          refine AllReadyH.cons rfl (fun K hK => ?_) AllReadyH.nil; go_simp
          refine (((HS2.out.below HBQ.out).below HBW.out).clip HTO.out (idW j) HIJ.out).mono ?_
          rintro e wd7 ⟨u7, out7, rfl, hro, hpo, hao, hln, hbA⟩
          have hro2 := hro
          obtain ⟨Ao7, co7, rfl, _⟩ := hro2
          have HRG7 := Lib.hid hro
          have HPO7 := Lib.hid hpo
          clear hro hpo hao hln
          replace HBW := Lib.hid (bstep HBW.out hbA)
          replace KA9 := Lib.hid (KA9.out.belowS hbA)
          replace KA8 := Lib.hid (KA8.out.belowS hbA)
          replace HRG3 := Lib.hid (HRG3.out.below hbA); clear hbA; go_simp
          refine hK.out _ _ (KW.out _ HBW.out) (fun _ => ?_); clear hK K
          refine wpAnyH_ready (rs := [10]) (by kernel_rfl) (by simp) ?_
          refine AllReadyH.cons rfl (fun K hK => ?_) AllReadyH.nil
          refine Tr.wanted_plain rfl ?_
          refine store_mid0 rfl 57 _ _ rfl (wd2.heap.size) 0 #[.slice Ao3 out3.length co3] (by rfl) (by rfl) (by have h := there_blk KA8.out; exact h) Tryz.sizeRgX (by simp [Value.oneCell']) ?_
          have xK := blk_puts1 (.slice Ao3 out3.length co3) KA8.out
          have xB := bsets HBW.out HL8.out (#[.slice Ao3 out3.length co3] : Array Value).toList 0
          have xA9 := KA9.out.farCells (HN9_8.out) (#[.slice Ao3 out3.length co3] : Array Value).toList 0
          have xHRG3 := (HRG3.out.putS KA8.out (.slice Ao3 out3.length co3))
          have xHRG7 := (HRG7.out.putS KA8.out (.slice Ao3 out3.length co3))
          obtain ⟨wS10, hwS⟩ : ∃ wS, World.setCells wd7 (wd2.heap.size) 0 (#[.slice Ao3 out3.length co3] : Array Value).toList = wS := ⟨_, rfl⟩
          rw [hwS] at xK xB xA9 xHRG3 xHRG7 ⊢
          replace HBW := Lib.hid xB
          replace KA8 := Lib.hid xK
          replace KA9 := Lib.hid xA9
          replace HRG3 := Lib.hid xHRG3
          replace HRG7 := Lib.hid xHRG7
          clear hwS xK xB xA9 xHRG3 xHRG7
          refine hK.out _ _ (KW.out _ HBW.out) (fun _ => ?_); clear hK K
          refine wpAnyH_ready (rs := [11]) (by kernel_rfl) (by simp) ?_
          refine AllReadyH.cons rfl (fun K hK => ?_) AllReadyH.nil
          refine Tr.wanted_plain rfl ?_
          refine store_mid0 rfl 57 _ _ rfl (U.heap.size) 0 #[.slice Ao7 out7.length co7] (by rfl) (by rfl) (by have h := there_blk KA9.out; exact h) Tryz.sizeRgX (by simp [Value.oneCell']) ?_
          have xK := blk_puts1 (.slice Ao7 out7.length co7) KA9.out
          have xB := bsets HBW.out HL9.out (#[.slice Ao7 out7.length co7] : Array Value).toList 0
          have xA8 := KA8.out.farCells (HN9_8.out.symm) (#[.slice Ao7 out7.length co7] : Array Value).toList 0
          have xHRG3 := (HRG3.out.putS KA9.out (.slice Ao7 out7.length co7))
          have xHRG7 := (HRG7.out.putS KA9.out (.slice Ao7 out7.length co7))
          obtain ⟨wS11, hwS⟩ : ∃ wS, World.setCells wS10 (U.heap.size) 0 (#[.slice Ao7 out7.length co7] : Array Value).toList = wS := ⟨_, rfl⟩
          rw [hwS] at xK xB xA8 xHRG3 xHRG7 ⊢
          replace HBW := Lib.hid xB
          replace KA9 := Lib.hid xK
          replace KA8 := Lib.hid xA8
          replace HRG3 := Lib.hid xHRG3
          replace HRG7 := Lib.hid xHRG7
          clear hwS xK xB xA8 xHRG3 xHRG7
          refine hK.out _ _ (KW.out _ HBW.out) (fun _ => ?_); clear hK K
          refine wpAnyH_done (by kernel_rfl) ?_ _
          refine NoPanic.normal ?_
          go_wp2_with fail
          go_meet
          exact ⟨_, _, Ao3, co3, Ao7, co7, out3, out7, rfl, rfl, ⟨KA8.out, KA9.out⟩, ⟨HRG3.out, HRG7.out⟩, ⟨HPO3.out, HPO7.out⟩, HBW.out⟩
        ·
         go_simp
         have HN9_8 := Lib.hid (show U.heap.size ≠ U.heap.size + 1 from by have h := KA9.out.lt; rw [show ((U.alloc (.cells #[.slice none 0 0] 57)).drew).heap.size = U.heap.size + 1 from (show ((U.alloc (.cells #[.slice none 0 0] 57))).heap.size = U.heap.size + 1 by simp)] at h; exact Nat.ne_of_lt h)
         have KA8 := Lib.hid (show Blk ((U.alloc (.cells #[.slice none 0 0] 57)).alloc (.cells #[.slice none 0 0] 57)).drew (U.heap.size + 1) 57 #[.slice none 0 0] from by have h := Blk.new ((U.alloc (.cells #[.slice none 0 0] 57)).drew) 57 #[.slice none 0 0]; rw [show ((U.alloc (.cells #[.slice none 0 0] 57)).drew).heap.size = U.heap.size + 1 from (show ((U.alloc (.cells #[.slice none 0 0] 57))).heap.size = U.heap.size + 1 by simp)] at h; exact h)
         have HL8 := Lib.hid (show U.heap.size ≤ U.heap.size + 1 from by have h := HBW.out.size; rw [show ((U.alloc (.cells #[.slice none 0 0] 57)).drew).heap.size = U.heap.size + 1 from (show ((U.alloc (.cells #[.slice none 0 0] 57))).heap.size = U.heap.size + 1 by simp)] at h; exact h)
         have hbA : Below (U.alloc (.cells #[.slice none 0 0] 57)).drew.heap.size (U.alloc (.cells #[.slice none 0 0] 57)).drew (((U.alloc (.cells #[.slice none 0 0] 57)).alloc (.cells #[.slice none 0 0] 57)).drew) := bal (bre (U.alloc (.cells #[.slice none 0 0] 57)).drew) (.cells #[.slice none 0 0] 57)
         replace HBW := Lib.hid (bstep HBW.out hbA)
         replace KA9 := Lib.hid (KA9.out.belowS hbA); clear hbA
         refine hK.out _ _ (KW.out _ HBW.out) (fun _ => ?_); clear hK K
         refine wpAnyH_ready (rs := [2]) (by kernel_rfl) (by simp) ?_
         refine AllReadyH.cons rfl (fun K hK => ?_) AllReadyH.nil; go_simp
         refine (id_b (j) _ hjd).mono ?_
         rintro e wd2 ⟨rfl, hbA⟩
         replace HBW := Lib.hid (bstep HBW.out hbA)
         replace KA9 := Lib.hid (KA9.out.belowS hbA)
         replace KA8 := Lib.hid (KA8.out.belowS hbA); clear hbA; go_simp
         refine hK.out _ _ (KW.out _ HBW.out) (fun _ => ?_); clear hK K
         refine wpAnyH_ready (rs := [3]) (by kernel_rfl) (by simp) ?_
         refine AllReadyH.cons rfl (fun K hK => ?_) AllReadyH.nil; go_simp
         refine (((HS1.out.below HBQ.out).below HBW.out).clip HNO.out (idW j) HIJ.out).mono ?_
         rintro e wd3 ⟨u3, out3, rfl, hro, hpo, hao, hln, hbA⟩
         have hro2 := hro
         obtain ⟨Ao3, co3, rfl, _⟩ := hro2
         have HRG3 := Lib.hid hro
         have HPO3 := Lib.hid hpo
         clear hro hpo hao hln
         replace HBW := Lib.hid (bstep HBW.out hbA)
         replace KA9 := Lib.hid (KA9.out.belowS hbA)
         replace KA8 := Lib.hid (KA8.out.belowS hbA); clear hbA; go_simp
         refine hK.out _ _ (KW.out _ HBW.out) (fun _ => ?_); clear hK K
         refine wpAnyH_ready (rs := [6]) (by kernel_rfl) (by simp) ?_
         refine AllReadyH.cons rfl (fun K hK => ?_) AllReadyH.nil; go_simp
         refine (id_b (j) _ hjd).mono ?_
         rintro e wd6 ⟨rfl, hbA⟩
         replace HBW := Lib.hid (bstep HBW.out hbA)
         replace KA9 := Lib.hid (KA9.out.belowS hbA)
         replace KA8 := Lib.hid (KA8.out.belowS hbA)
         replace HRG3 := Lib.hid (HRG3.out.below hbA); clear hbA; go_simp
         refine hK.out _ _ (KW.out _ HBW.out) (fun _ => ?_); clear hK K
         refine wpAnyH_ready (rs := [7]) (by kernel_rfl) (by simp) ?_
         refine AllReadyH.cons rfl (fun K hK => ?_) AllReadyH.nil; go_simp
         refine (((HS2.out.below HBQ.out).below HBW.out).clip HTO.out (idW j) HIJ.out).mono ?_
         rintro e wd7 ⟨u7, out7, rfl, hro, hpo, hao, hln, hbA⟩
         have hro2 := hro
         obtain ⟨Ao7, co7, rfl, _⟩ := hro2
         have HRG7 := Lib.hid hro
         have HPO7 := Lib.hid hpo
         clear hro hpo hao hln
         replace HBW := Lib.hid (bstep HBW.out hbA)
         replace KA9 := Lib.hid (KA9.out.belowS hbA)
         replace KA8 := Lib.hid (KA8.out.belowS hbA)
         replace HRG3 := Lib.hid (HRG3.out.below hbA); clear hbA; go_simp
         refine hK.out _ _ (KW.out _ HBW.out) (fun _ => ?_); clear hK K
         refine wpAnyH_ready (rs := [10]) (by kernel_rfl) (by simp) ?_
         refine AllReadyH.cons rfl (fun K hK => ?_) AllReadyH.nil
         refine Tr.wanted_plain rfl ?_
         refine store_mid0 rfl 57 _ _ rfl (U.heap.size + 1) 0 #[.slice Ao3 out3.length co3] (by rfl) (by rfl) (by have h := there_blk KA8.out; exact h) Tryz.sizeRgX (by simp [Value.oneCell']) ?_
         have xK := blk_puts1 (.slice Ao3 out3.length co3) KA8.out
         have xB := bsets HBW.out HL8.out (#[.slice Ao3 out3.length co3] : Array Value).toList 0
         have xA9 := KA9.out.farCells (HN9_8.out) (#[.slice Ao3 out3.length co3] : Array Value).toList 0
         have xHRG3 := (HRG3.out.putS KA8.out (.slice Ao3 out3.length co3))
         have xHRG7 := (HRG7.out.putS KA8.out (.slice Ao3 out3.length co3))
         obtain ⟨wS10, hwS⟩ : ∃ wS, World.setCells wd7 (U.heap.size + 1) 0 (#[.slice Ao3 out3.length co3] : Array Value).toList = wS := ⟨_, rfl⟩
         rw [hwS] at xK xB xA9 xHRG3 xHRG7 ⊢
         replace HBW := Lib.hid xB
         replace KA8 := Lib.hid xK
         replace KA9 := Lib.hid xA9
         replace HRG3 := Lib.hid xHRG3
         replace HRG7 := Lib.hid xHRG7
         clear hwS xK xB xA9 xHRG3 xHRG7
         refine hK.out _ _ (KW.out _ HBW.out) (fun _ => ?_); clear hK K
         refine wpAnyH_ready (rs := [11]) (by kernel_rfl) (by simp) ?_
         refine AllReadyH.cons rfl (fun K hK => ?_) AllReadyH.nil
         refine Tr.wanted_plain rfl ?_
         refine store_mid0 rfl 57 _ _ rfl (U.heap.size) 0 #[.slice Ao7 out7.length co7] (by rfl) (by rfl) (by have h := there_blk KA9.out; exact h) Tryz.sizeRgX (by simp [Value.oneCell']) ?_
         have xK := blk_puts1 (.slice Ao7 out7.length co7) KA9.out
         have xB := bsets HBW.out HL9.out (#[.slice Ao7 out7.length co7] : Array Value).toList 0
         have xA8 := KA8.out.farCells (HN9_8.out.symm) (#[.slice Ao7 out7.length co7] : Array Value).toList 0
         have xHRG3 := (HRG3.out.putS KA9.out (.slice Ao7 out7.length co7))
         have xHRG7 := (HRG7.out.putS KA9.out (.slice Ao7 out7.length co7))
         obtain ⟨wS11, hwS⟩ : ∃ wS, World.setCells wS10 (U.heap.size) 0 (#[.slice Ao7 out7.length co7] : Array Value).toList = wS := ⟨_, rfl⟩
         rw [hwS] at xK xB xA8 xHRG3 xHRG7 ⊢
         replace HBW := Lib.hid xB
         replace KA9 := Lib.hid xK
         replace KA8 := Lib.hid xA8
         replace HRG3 := Lib.hid xHRG3
         replace HRG7 := Lib.hid xHRG7
         clear hwS xK xB xA8 xHRG3 xHRG7
         refine hK.out _ _ (KW.out _ HBW.out) (fun _ => ?_); clear hK K
         refine wpAnyH_done (by kernel_rfl) ?_ _
         refine NoPanic.normal ?_
         go_wp2_with fail
         go_meet
         exact ⟨_, _, Ao3, co3, Ao7, co7, out3, out7, rfl, rfl, ⟨KA8.out, KA9.out⟩, ⟨HRG3.out, HRG7.out⟩, ⟨HPO3.out, HPO7.out⟩, HBW.out⟩
     obtain ⟨g19, g20, Aa, ca, Ab, cb, oa, ob, rfl, rfl, ⟨hk19, hk20⟩, ⟨hra, hrb⟩, ⟨hpa, hpb⟩, hbc⟩ := hcut
     have K19 := Lib.hid hk19
     have K20 := Lib.hid hk20
     have HRA := Lib.hid hra
     have HRB := Lib.hid hrb
     have HPA2 := Lib.hid hpa
     have HPB2 := Lib.hid hpb
     have HBV := Lib.hid (bstep HBQ.out hbc)
     clear hk19 hk20 hra hrb hpa hpb hbc
     obtain ⟨T, hT⟩ : ∃ Z, Z = wc := ⟨_, rfl⟩
     subst hT
     have e19 := K19.out.cellV (i := 0) (v := .slice Aa oa.length ca) rfl
     have e20 := K20.out.cellV (i := 0) (v := .slice Ab ob.length cb) rfl
     have hRW := HRR.out
     cases b
     ·
      have hle : ∀ x y, inB ob x y = true → inB oa x y = true := fun x y h9 => by
       rw [HPB2.out] at h9
       rw [HPA2.out]
       have hni : idW j ∉ belowAt (nodesW l) (idW (k : Int)) := fun h8 => by have := HBL.out.1 h8; cases this
       have h7 := raise_less (bx := bxS RW RH l) HNO.out HMM.out (rectP RW RH) hni x y
       rw [show_at HTO.out, show_at HNO.out] at h7
       exact h7 h9
      go_wp2_with fail
      refine (holds_any Aa Ab ca cb oa ob RW RH _ hRW.1.2 hRW.2.2 HRA.out HRB.out hle).mono ?_
      rintro e wA ⟨rfl, hbA⟩
      have HBA := Lib.hid (bstep HBV.out hbA)
      clear hbA hle
      go_wp2_with fail
      go_roundw
      case rel => exact ⟨j + 1, by go_num, by omega, HBA.out⟩
      case measure => simp [intOf]; omega
     ·
      have hle : ∀ x y, inB oa x y = true → inB ob x y = true := fun x y h9 => by
       rw [HPA2.out] at h9
       rw [HPB2.out]
       have h7 := raise_more (bx := bxS RW RH l) HNO.out HMM.out (rectP RW RH) (HBL.out.2 rfl) x y
       rw [show_at HTO.out, show_at HNO.out] at h7
       exact h7 h9
      go_wp2_with fail
      refine (holds_any Ab Aa cb ca ob oa RW RH _ hRW.1.2 hRW.2.2 HRB.out HRA.out hle).mono ?_
      rintro e wA ⟨rfl, hbA⟩
      have HBA := Lib.hid (bstep HBV.out hbA)
      clear hbA hle
      go_wp2_with fail
      go_roundw
      case rel => exact ⟨j + 1, by go_num, by omega, HBA.out⟩
      case measure => simp [intOf]; omega
  ·
   obtain rfl : j = (m9 : Int) := by omega
   have k3 : ¬ (m9 : Int) < (m9 : Int) := by omega
   go_wp2_with fail
   refine (awake31_any _).mono ?_
   rintro e w22 ⟨rfl, hb22⟩
   have HB2 := Lib.hid (bstep (bstep HB.out HBZ.out) hb22)
   clear hb22
   go_wp2_with fail
   go_ret
   exact ⟨rfl, HB2.out⟩
end Go.Proofs.YtdaedkolpfkdjaaGreat
end
