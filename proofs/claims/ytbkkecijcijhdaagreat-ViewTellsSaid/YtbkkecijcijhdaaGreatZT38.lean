/-
  The walk of the law ViewTells.
-/
import Derived.Test.YtbkkecijcijhdaaGreatZT35
import Derived.Test.YtbkkecijcijhdaaGreatZT37
section
namespace Go.Proofs.YtbkkecijcijhdaaGreat
open Go.RowKit Go.Maps Go.Shelf

theorem run_neq_ptV (w : World) (a b a' b' : Int) : (binOp .neq 53 (.agg #[.int .i64 a, .int .i64 b]) (.agg #[.int .i64 a', .int .i64 b'])).run Tryz.prog w = .ok (.bool (!(a == a' && b == b'))) w := by
  cases h1 : (a == a') <;> cases h2 : (b == b') <;> simp [go_sem, h1, h2]
theorem run_eql_ptV (w : World) (a b a' b' : Int) : (binOp .eql 53 (.agg #[.int .i64 a, .int .i64 b]) (.agg #[.int .i64 a', .int .i64 b'])).run Tryz.prog w = .ok (.bool (a == a' && b == b')) w := by
  cases h1 : (a == a') <;> cases h2 : (b == b') <;> simp [go_sem, h1, h2]
attribute [local go_sem ↓] run_neq_ptV run_eql_ptV
theorem Tryz.sizePtV : (Tryz.prog.info? 53).map (·.size) = some 2 := by kernel_rfl
/-- whoever stands below a window is no window ahead of the root. -/
theorem blwD_ge {l : List DW} (hu : UpOk l) : ∀ (f : Nat) (p : Int), -1 ≤ p → ∀ i ∈ blwD l f p, -1 ≤ i
  | 0, p, hp, i, hi => by
    obtain rfl : i = p := by simpa [blwD] using hi
    exact hp
  | f + 1, p, hp, i, hi => by
    rw [blwD_step] at hi
    rcases List.mem_cons.1 hi with rfl | h
    · exact hp
    · obtain ⟨q, _, hq⟩ := List.mem_flatMap.1 h
      exact blwD_ge hu f q.2 (by omega) i hq
theorem rd_i64 {w : World} {A : Option Addr} {n : Nat} {l : List Int} (h : Rd w A n (I64 l)) (hn : 0 < n) : ∃ b off, A = some ⟨b, off, none⟩ ∧ b < w.heap.size ∧ ∀ k x, l[k]? = some x → w.cell? ⟨b, off + k, none⟩ = some (.int .i64 x) := by
  obtain ⟨b, off, e, hb, hc⟩ := h.2 hn
  exact ⟨b, off, e, hb, fun k x hk => hc k _ (by simp [I64, hk])⟩

set_option maxRecDepth 100000 in
set_option maxHeartbeats 8000000 in
theorem viewTells_any (a b : Int) (A : Option Addr) (n c : Nat) (ps : List PN) (w : World) (ha : 0 ≤ a ∧ a ≤ 255) (hb : 0 ≤ b ∧ b ≤ 255) (hn : n ≤ maxLen) (hr : RdF PN.cells 14 w A n ps) (hok : ∀ p ∈ ps, p.ok) :
    Calls Tryz.prog 3 #[.agg #[.int .u8 a, .int .u8 b, .slice A n c]] w fun e w' => e = .returned (.bool true) ∧ Below w.heap.size w w' := by
  obtain ⟨RW, hRW⟩ : ∃ RW : Nat, (RW : Int) = 1 + a % 16 := ⟨(1 + a % 16).toNat, by omega⟩
  obtain ⟨RH, hRH⟩ : ∃ RH : Nat, (RH : Int) = 1 + b % 12 := ⟨(1 + b % 12).toNat, by omega⟩
  have HRR := Lib.hid (show (1 ≤ RW ∧ RW ≤ 128) ∧ 1 ≤ RH ∧ RH ≤ 128 by omega)
  have HSZ := Lib.hid (fun W => by have h := size_any31 a b A n c W ha hb; rw [← hRW, ← hRH] at h; exact h)
  have HR := Lib.hid hr
  have HOK := Lib.hid hok
  have HN := Lib.hid hn
  clear hr hok ha hb hRW hRH
  go_enter Tryz.func3, Tryz.ntmps3
  go_upto_region 1 with fail
  have xK := Blk.new w 24 #[.int .u8 a, .int .u8 b, .slice A n c]
  have xB := bal (bre w) (.cells #[.int .u8 a, .int .u8 b, .slice A n c] 24)
  obtain ⟨X0, hX0⟩ : ∃ X0, w.alloc (.cells #[.int .u8 a, .int .u8 b, .slice A n c] 24) = X0 := ⟨_, rfl⟩
  rw [hX0] at xK xB ⊢
  have K4 := Lib.hid xK
  have HB := Lib.hid xB
  have q0 := xK.cellV (i := 0) (v := .int .u8 a) rfl
  have q1 := xK.cellV (i := 1) (v := .int .u8 b) rfl
  have q2 := xK.cellV (i := 2) (v := .slice A n c) rfl
  clear xK xB hX0
  go_wp2_with fail
  refine (great_any a b A n c _ HN.out).mono ?_
  rintro e w1 ⟨rfl, hb1⟩
  replace HB := Lib.hid (bstep HB.out hb1)
  replace K4 := Lib.hid (K4.out.belowS hb1)
  clear hb1 q0 q1 q2
  by_cases h7 : 7 < n
  · rw [decide_eq_true h7]
    as_aux_lemma =>
      go_wp2_with fail
      refine (awake31_any _).mono ?_
      rintro e w2 ⟨rfl, hb2⟩
      have HB2 := Lib.hid (bstep HB.out hb2)
      clear hb2
      go_wp2_with fail
      go_ret
      exact ⟨rfl, HB2.out⟩
  rw [decide_eq_false h7]
  have h60 : n ≤ 60 := by omega
  have q0 := K4.out.cellV (i := 0) (v := .int .u8 a) rfl
  have q1 := K4.out.cellV (i := 1) (v := .int .u8 b) rfl
  have q2 := K4.out.cellV (i := 2) (v := .slice A n c) rfl
  go_wp2_with fail
  refine (HSZ.out _).mono ?_
  rintro e w2 ⟨rfl, hb2⟩
  replace HB := Lib.hid (bstep HB.out hb2)
  replace K4 := Lib.hid (K4.out.belowS hb2)
  clear hb2 q0 q1 q2
  have q0 := K4.out.cellV (i := 0) (v := .int .u8 a) rfl
  have q1 := K4.out.cellV (i := 1) (v := .int .u8 b) rfl
  have q2 := K4.out.cellV (i := 2) (v := .slice A n c) rfl
  go_wp2_with fail
  refine (windows31_any a b A n c ps _ h60 (HR.out.below HB.out) HOK.out).mono ?_
  rintro e w3 ⟨v, l, rfl, hl, hat, hb3⟩
  obtain ⟨Al, cl, rfl, _⟩ := own_form hat.own
  have HL := Lib.hid hat.reads
  have HUP := Lib.hid hat.up
  have HDW := Lib.hid hat.ok
  have HL7 := Lib.hid (show l.length ≤ 7 by omega)
  replace HB := Lib.hid (bstep HB.out hb3)
  clear hb3 hat hl q0 q1 q2 K4
  go_wp2_with fail
  refine (built31_any Al l.length cl l RW RH _ HL.out (by have := HL7.out; omega) HUP.out HDW.out (by have := HRR.out; omega)).mono ?_
  rintro e w4 ⟨mk, mu, mp, nk, fk, bs, rfl, hm, hb4⟩
  have HM := Lib.hid hm
  replace HL := Lib.hid (HL.out.below hb4)
  replace HB := Lib.hid (bstep HB.out hb4)
  clear hm hb4
  go_upto_region 8 with fail
  have hba := bal (bal (bre w4) (.cells #[.map mk, .map mu] 34)) (.cells #[.map mp] 37)
  have xM := HM.out.below hba
  have xL := HL.out.below hba
  have xK2 := (Blk.new w4 34 #[.map mk, .map mu]).alloc (.cells #[.map mp] 37)
  have xK3 := blk_new2 w4 (.cells #[.map mk, .map mu] 34) 37 #[.map mp]
  have xB := bal (bal HB.out (.cells #[.map mk, .map mu] 34)) (.cells #[.map mp] 37)
  obtain ⟨X1, hX1⟩ : ∃ X1, (w4.alloc (.cells #[.map mk, .map mu] 34)).alloc (.cells #[.map mp] 37) = X1 := ⟨_, rfl⟩
  rw [hX1] at xM xL xK2 xK3 xB hba ⊢
  have d20 := xK2.cellV (i := 0) (v := .map mk) rfl
  have d21 := xK2.cellV (i := 1) (v := .map mu) rfl
  have d30 := xK3.cellV (i := 0) (v := .map mp) rfl
  replace HM := Lib.hid xM
  replace HL := Lib.hid xL
  have K11 := Lib.hid xK2
  replace HB := Lib.hid xB
  clear xM xL xK2 xK3 xB hX1 hba
  go_wp2_with fail
  refine (seen_of (RW := RW) (RH := RH) (l := l) (bs := bs) (fk := fk) (nk := nk) X1 HM.out HUP.out HDW.out HL7.out HRR.out).mono ?_
  rintro e w5 ⟨v, og, rfl, hs, hb5⟩
  have HS := Lib.hid hs
  obtain ⟨Av, nv, cv, mv, nm, f, hv⟩ := hs.is
  have hsh := hv.shape
  subst hsh
  have HV := Lib.hid hv
  replace HB := Lib.hid (bstep HB.out hb5)
  replace K11 := Lib.hid (K11.out.belowS hb5)
  replace HL := Lib.hid (HL.out.below hb5)
  have HT := Lib.hid (HM.out.tree.below hb5)
  clear hs hb5 hv d20 d21 d30 HM
  go_upto_region 9 with fail
  have hba := bal (bre w5) (.cells #[.slice Av nv cv, .map mv] 43)
  have xHS := HS.out.below hba
  have xHV := HV.out.below hba
  have xHT := HT.out.below hba
  have xHL := HL.out.below hba
  have xK11 := K11.out.belowS hba
  have xHB := bal HB.out (.cells #[.slice Av nv cv, .map mv] 43)
  have xK14 := Blk.new w5 43 #[.slice Av nv cv, .map mv]
  obtain ⟨X2, hX2⟩ : ∃ X2, w5.alloc (.cells #[.slice Av nv cv, .map mv] 43) = X2 := ⟨_, rfl⟩
  rw [hX2] at xHS xHV xHT xHL xK11 xHB xK14 ⊢
  replace HS := Lib.hid xHS
  replace HV := Lib.hid xHV
  replace HT := Lib.hid xHT
  replace HL := Lib.hid xHL
  replace K11 := Lib.hid xK11
  replace HB := Lib.hid xHB
  have K14 := Lib.hid xK14
  clear hba hX2 xHS xHV xHT xHL xK11 xHB xK14
  obtain ⟨bl, hbl⟩ : ∃ bl, blwD l (l.length + 1) (-1) = bl := ⟨_, rfl⟩
  have HBL := Lib.hid (show bl.map idW = ordS RW RH l by
    rw [← hbl]
    exact blwD_ord HUP.out _ (-1) (by omega) (by omega) (vw_root (nodesW_ok HUP.out)))
  have HBB := Lib.hid (show bl.length = nv by
    have h1 := HV.out.order.1
    rw [U32_len, ← HBL.out, List.length_map] at h1
    exact h1)
  have HBI := Lib.hid (fun i (h : i ∈ bl) => show -1 ≤ i ∧ i ≤ 1000000 by
    have h1 : idW i ∈ ordS RW RH l := by rw [← HBL.out]; exact List.mem_map_of_mem h
    have h2 := (ord_mem (nodesW_ok HUP.out)).1 h1
    rw [Bool.and_eq_true] at h2
    obtain ⟨m, h3, h4, h5⟩ := hasW_inv h2.1
    have h6 := HL7.out
    rw [← hbl] at h
    have h7 := blwD_ge (l := l) HUP.out (l.length + 1) (-1) (by omega) i h
    have := idW_inj h7 h3 h5
    omega)
  have d0 := K14.out.cellV (i := 0) (v := .slice Av nv cv) rfl
  have d1 := K14.out.cellV (i := 1) (v := .map mv) rfl
  go_wp2_with fail
  refine (vwindows_any HV.out).mono ?_
  rintro e w6 ⟨u6, rfl, ho6, hb6⟩
  obtain ⟨A6, c6, rfl, _⟩ := own_form ho6
  have HR6 := Lib.hid (Rd.of_own ho6)
  clear ho6
  clear d0 d1
  replace HS := Lib.hid (HS.out.below hb6)
  replace HV := Lib.hid (HV.out.below hb6)
  replace HT := Lib.hid (HT.out.below hb6)
  replace HL := Lib.hid (HL.out.below hb6)
  replace K11 := Lib.hid (K11.out.belowS hb6)
  replace HB := Lib.hid (bstep HB.out hb6)
  replace K14 := Lib.hid (K14.out.belowS hb6)
  clear hb6
  go_wp2_with fail
  have hwl := dbelow_any Al l.length cl l (by have := HL7.out; omega) HUP.out (l.length + 1) (-1) w6 w6 (.slice none 0 0) 0 [] HL.out (bre w6) (World.ownsRow_nil _ _ _ _) (by omega) (by omega) (by
    rw [hbl, HBB.out]
    have := HV.out.few
    omega)
  rw [hbl, HBB.out, Nat.zero_add, List.nil_append] at hwl
  refine hwl.mono ?_
  clear hwl
  rintro e w7 ⟨u7, rfl, ho7, hb7⟩
  obtain ⟨A7, c7, rfl, _⟩ := own_form ho7
  have HR7 := Lib.hid (Rd.of_own ho7)
  clear ho7 hbl
  replace HS := Lib.hid (HS.out.below hb7)
  replace HV := Lib.hid (HV.out.below hb7)
  replace HT := Lib.hid (HT.out.below hb7)
  replace HL := Lib.hid (HL.out.below hb7)
  replace K11 := Lib.hid (K11.out.belowS hb7)
  replace HB := Lib.hid (bstep HB.out hb7)
  replace K14 := Lib.hid (K14.out.belowS hb7)
  replace HR6 := Lib.hid (HR6.out.below hb7)
  clear hb7
  go_upto_region 12 with fail
  go_wp2_with fail
  obtain ⟨X7, hX7⟩ : ∃ X7, w7 = X7 := ⟨_, rfl⟩
  subst hX7
  go_loopw [12] (fun i wr => ∃ k : Nat, i = .int .i64 k ∧ k ≤ nv ∧ Below w7.heap.size w7 wr) (fun i _ => nv - (intOf i).toNat)
  case atStart => exact ⟨0, rfl, by omega, bre w7⟩
  case round =>
    obtain ⟨k, rfl, hk, hB⟩ := hrel
    have HBR := Lib.hid hB
    have HS := Lib.hid (HS.out.below HBR.out)
    have HV := Lib.hid (HV.out.below HBR.out)
    have HT := Lib.hid (HT.out.below HBR.out)
    have HL := Lib.hid (HL.out.below HBR.out)
    have K11 := Lib.hid (K11.out.belowS HBR.out)
    have HB := Lib.hid (bstep HB.out HBR.out)
    have K14 := Lib.hid (K14.out.belowS HBR.out)
    have HR6 := Lib.hid (HR6.out.below HBR.out)
    have HR7 := Lib.hid (HR7.out.below HBR.out)
    clear hB
    by_cases hlt : k < nv
    · have k1 : (k : Int) < (nv : Int) := by omega
      have k0 : (0 : Int) ≤ (k : Int) := by omega
      obtain ⟨i, hx⟩ : ∃ i, bl[k]? = some i := ⟨_, List.getElem?_eq_getElem (by rw [HBB.out]; exact hlt)⟩
      obtain ⟨b6, o6, rfl, hl6, hc6⟩ := HR6.out.2 (by omega)
      have e6 := hc6 k (.int .u32 (idW i)) (by rw [← HBL.out]; simp [U32, hx])
      obtain ⟨b7, o7, rfl, hl7, hc7⟩ := rd_i64 HR7.out (by omega)
      have e7 := hc7 k i hx
      have HC6 := Lib.hid e6
      have HC7 := Lib.hid e7
      have HL6 := Lib.hid hl6
      have HL7x := Lib.hid hl7
      have hib := HBI.out i (List.mem_of_getElem? hx)
      have hnv := HV.out.few
      clear hc6 hc7 e6 e7 hl6 hl7 hx
      go_upto_region 15 with fail
      have HBW := Lib.hid (show Below wr.heap.size wr wr.drew from (bre wr).drew)
      refine wp_region_noPanic ?_
      refine wp_region_held_drew (S := (fun w' => w'.cell? ⟨b6, o6 + k, none⟩ = some (.int .u32 (idW i)) ∧ w'.cell? ⟨b7, o7 + k, none⟩ = some (.int .i64 i))) (by kernel_rfl) ?_ (fun hHeld => ?_)
      · (try dsimp only)
        exact ⟨((HBW.out.cell (p := ⟨b6, o6 + k, none⟩) HL6.out).trans HC6.out), ((HBW.out.cell (p := ⟨b7, o7 + k, none⟩) HL7x.out).trans HC7.out)⟩
      refine Tr.take_at 0 57 (.slice (some ⟨b6, o6, none⟩) nv c6) rfl rfl (by kernel_rfl) (by kernel_rfl) (by kernel_rfl) (fun _ _ _ h => h) (Or.inl ⟨by rfl, ?_⟩) (by assumption) ?_
      · intro W0 hSw
        (try dsimp only at hSw)
        go_simp
      simp only [List.set_cons_zero, List.set_cons_succ]
      refine Tr.take_at 1 58 (.int .i64 k) rfl rfl (by kernel_rfl) (by kernel_rfl) (by kernel_rfl) (fun _ _ _ h => h) (Or.inl ⟨by rfl, ?_⟩) (by assumption) ?_
      · intro W0 hSw
        (try dsimp only at hSw)
        go_simp
      simp only [List.set_cons_zero, List.set_cons_succ]
      refine Tr.take_at 2 59 (.pointer (some ⟨b6, o6 + k, none⟩)) rfl rfl (by kernel_rfl) (by kernel_rfl) (by kernel_rfl) (fun _ _ _ h => h) (Or.inl ⟨by rfl, ?_⟩) (by assumption) ?_
      · intro W0 hSw
        (try dsimp only at hSw)
        go_simp
      simp only [List.set_cons_zero, List.set_cons_succ]
      refine Tr.take_at 3 60 (.int .u32 (idW i)) rfl rfl (by kernel_rfl) (by kernel_rfl) (by kernel_rfl) (fun _ _ _ h => h) (Or.inl ⟨by rfl, ?_⟩) (by assumption) ?_
      · intro W0 hSw
        (try dsimp only at hSw)
        go_simp
      simp only [List.set_cons_zero, List.set_cons_succ]
      refine Tr.take_at 4 61 (.slice (some ⟨b7, o7, none⟩) nv c7) rfl rfl (by kernel_rfl) (by kernel_rfl) (by kernel_rfl) (fun _ _ _ h => h) (Or.inl ⟨by rfl, ?_⟩) (by assumption) ?_
      · intro W0 hSw
        (try dsimp only at hSw)
        go_simp
      simp only [List.set_cons_zero, List.set_cons_succ]
      refine Tr.take_at 5 62 (.int .i64 k) rfl rfl (by kernel_rfl) (by kernel_rfl) (by kernel_rfl) (fun _ _ _ h => h) (Or.inl ⟨by rfl, ?_⟩) (by assumption) ?_
      · intro W0 hSw
        (try dsimp only at hSw)
        go_simp
      simp only [List.set_cons_zero, List.set_cons_succ]
      refine Tr.take_at 6 63 (.pointer (some ⟨b7, o7 + k, none⟩)) rfl rfl (by kernel_rfl) (by kernel_rfl) (by kernel_rfl) (fun _ _ _ h => h) (Or.inl ⟨by rfl, ?_⟩) (by assumption) ?_
      · intro W0 hSw
        (try dsimp only at hSw)
        go_simp
      simp only [List.set_cons_zero, List.set_cons_succ]
      refine Tr.take_at 7 64 (.int .i64 i) rfl rfl (by kernel_rfl) (by kernel_rfl) (by kernel_rfl) (fun _ _ _ h => h) (Or.inl ⟨by rfl, ?_⟩) (by assumption) ?_
      · intro W0 hSw
        (try dsimp only at hSw)
        go_simp
      simp only [List.set_cons_zero, List.set_cons_succ]
      refine wpAnyH_ready (rs := [8]) (by kernel_rfl) (by simp) ?_
      refine AllReadyH.cons rfl (fun K hK => ?_) AllReadyH.nil
      go_simp
      refine (id_b i _ hib).mono ?_
      rintro e wc8 ⟨rfl, hbA⟩
      replace HBW := Lib.hid (bstep HBW.out hbA)
      clear hbA
      go_simp
      refine hK.out _ _ ?_ (fun hHeld => ?_)
      · (try dsimp only)
        exact ⟨((HBW.out.cell (p := ⟨b6, o6 + k, none⟩) HL6.out).trans HC6.out), ((HBW.out.cell (p := ⟨b7, o7 + k, none⟩) HL7x.out).trans HC7.out)⟩
      clear hK K
      refine Tr.take_at 9 66 (.bool false) rfl rfl (by kernel_rfl) (by kernel_rfl) (by kernel_rfl) (fun _ _ _ h => h) (Or.inl ⟨by rfl, ?_⟩) (by assumption) ?_
      · intro W0 hSw
        (try dsimp only at hSw)
        go_simp
      simp only [List.set_cons_zero, List.set_cons_succ]
      refine wpAnyH_done (by kernel_rfl) ?_ _
      refine NoPanic.normal ?_
      go_wp2_with fail
      go_roundw
      case rel => exact ⟨k + 1, by go_num, by omega, bstep HBR.out HBW.out⟩
      case measure => simp [intOf]; omega
    · obtain rfl : k = nv := by omega
      have k1 : ¬ (k : Int) < (k : Int) := by omega
      obtain ⟨w8, hw8⟩ : ∃ w8, w8 = wr := ⟨_, rfl⟩
      subst hw8
      clear HBR
      go_upto_region 17 with fail
      go_wp2_with fail
      go_loopw [13] (fun i wr => ∃ j : Nat, i = .int .i64 j ∧ j ≤ l.length ∧ Below w8.heap.size w8 wr) (fun i _ => l.length - (intOf i).toNat)
      case atStart => exact ⟨0, rfl, by omega, bre w8⟩
      case round =>
        obtain ⟨j, rfl, hj, hB⟩ := hrel
        have HBR := Lib.hid hB
        have HS := Lib.hid (HS.out.below HBR.out)
        have HV := Lib.hid (HV.out.below HBR.out)
        have HT := Lib.hid (HT.out.below HBR.out)
        have HL := Lib.hid (HL.out.below HBR.out)
        have K11 := Lib.hid (K11.out.belowS HBR.out)
        have HB := Lib.hid (bstep HB.out HBR.out)
        have K14 := Lib.hid (K14.out.belowS HBR.out)
        have HR6 := Lib.hid (HR6.out.below HBR.out)
        have HR7 := Lib.hid (HR7.out.below HBR.out)
        clear hB
        by_cases hlt2 : j < l.length
        · have j1 : (j : Int) < (l.length : Int) := by omega
          have j0 : (0 : Int) ≤ (j : Int) := by omega
          have HJ := Lib.hid (And.intro hj hlt2)
          have hids : -1 ≤ (j : Int) ∧ (j : Int) ≤ 1000000 := by have := HL7.out; omega
          have HIW := Lib.hid (idW_bd (n := (j : Int)) (by have := HL7.out; omega))
          obtain ⟨bv, hbv⟩ : ∃ bv, vw (nodesW l) (bxS RW RH l) (idW j) = bv := ⟨_, rfl⟩
          have HLK := Lib.hid (show (lastE (esS RW RH l) (idW j)).isSome = bv by rw [look_S HUP.out (by omega) j1, hbv])
          obtain ⟨ox, hox⟩ : ∃ ox, (ogV (esS RW RH l) og (idW j)).1 = ox := ⟨_, rfl⟩
          obtain ⟨oy, hoy⟩ : ∃ oy, (ogV (esS RW RH l) og (idW j)).2 = oy := ⟨_, rfl⟩
          have HO := Lib.hid (show (bv = true → ox = (orgN (nodesW l) (bxS RW RH l) (idW j)).1 ∧ oy = (orgN (nodesW l) (bxS RW RH l) (idW j)).2) ∧ (bv = false → ox = 0 ∧ oy = 0) by
            rw [← hox, ← hoy]
            unfold ogV
            rw [HLK.out]
            constructor
            · intro e
              rw [e, if_pos rfl, HS.out.org (j : Int) (by omega) j1]
              exact ⟨rfl, rfl⟩
            · intro e
              rw [e]
              exact ⟨rfl, rfl⟩)
          have HOX := Lib.hid (And.intro hox hoy)
          have hdv := dviewable_any Al l.length cl l (j : Int) RW RH wr (by have := HL7.out; omega) HL.out HUP.out ⟨by omega, j1⟩
          rw [hbv] at hdv
          clear hbv hox hoy
          go_wp2_with fail
          refine hdv.mono ?_
          clear hdv
          rintro e w9 ⟨rfl, hb9⟩
          replace HBR := Lib.hid (bstep HBR.out hb9)
          replace HS := Lib.hid (HS.out.below hb9)
          replace HV := Lib.hid (HV.out.below hb9)
          replace HT := Lib.hid (HT.out.below hb9)
          replace HL := Lib.hid (HL.out.below hb9)
          replace K11 := Lib.hid (K11.out.belowS hb9)
          replace HB := Lib.hid (bstep HB.out hb9)
          replace K14 := Lib.hid (K14.out.belowS hb9)
          replace HR6 := Lib.hid (HR6.out.below hb9)
          replace HR7 := Lib.hid (HR7.out.below hb9)
          clear hb9
          go_upto_region 21 with fail
          go_cut [15, 16] from 147 (fun s15 s16 wx => ∃ g : Nat, s15 = .pointer (some ⟨g, 0, none⟩) ∧ s16 = .bool bv ∧ w9.heap.size ≤ g ∧ Blk wx g 53 #[.int .i64 ox, .int .i64 oy] ∧ Below w9.heap.size w9 wx)
          case first =>
            as_aux_lemma =>
              have HBW := Lib.hid (show Below w9.heap.size w9 w9.drew from (bre w9).drew)
              refine wp_region_noPanic ?_
              refine wp_region_held_drew (S := (fun w' => w'.cell? ⟨w5.heap.size, 0, none⟩ = some (.slice Av k cv) ∧ w'.cell? ⟨w5.heap.size, 1, none⟩ = some (.map mv))) (by kernel_rfl) ?_ (fun hHeld => ?_)
              · (try dsimp only)
                exact ⟨(K14.out.belowS HBW.out).cellV (i := 0) rfl, (K14.out.belowS HBW.out).cellV (i := 1) rfl⟩
              refine Tr.take_at 0 77 (.agg #[.slice Av k cv, .map mv]) rfl rfl (by kernel_rfl) (by kernel_rfl) (by kernel_rfl) (fun _ _ _ h => h) (Or.inl ⟨by rfl, ?_⟩) (by assumption) ?_
              · intro W0 hSw
                (try dsimp only at hSw)
                go_simp
              simp only [List.set_cons_zero, List.set_cons_succ]
              refine Tr.take_at 1 78 (.int .i64 j) rfl rfl (by kernel_rfl) (by kernel_rfl) (by kernel_rfl) (fun _ _ _ h => h) (Or.inl ⟨by rfl, ?_⟩) (by assumption) ?_
              · intro W0 hSw
                (try dsimp only at hSw)
                go_simp
              simp only [List.set_cons_zero, List.set_cons_succ]
              refine wpAnyH_ready (rs := [2, 7]) (by kernel_rfl) (by simp) ?_
              refine AllReadyH.cons rfl (fun K hK => ?_) (AllReadyH.cons rfl (fun K hK => ?_) AllReadyH.nil)
              ·
                go_simp
                refine (id_b (j : Int) _ hids).mono ?_
                rintro e wc2 ⟨rfl, hbA⟩
                replace HBW := Lib.hid (bstep HBW.out hbA)
                clear hbA
                go_simp
                refine hK.out _ _ ?_ (fun hHeld => ?_)
                · (try dsimp only)
                  exact ⟨(K14.out.belowS HBW.out).cellV (i := 0) rfl, (K14.out.belowS HBW.out).cellV (i := 1) rfl⟩
                clear hK K
                refine wpAnyH_ready (rs := [3, 7]) (by kernel_rfl) (by simp) ?_
                refine AllReadyH.cons rfl (fun K hK => ?_) (AllReadyH.cons rfl (fun K hK => ?_) AllReadyH.nil)
                ·
                  go_simp
                  have ho := vorigin_any (idW j) HIW.out (HV.out.below HBW.out)
                  rw [HOX.out.1, HOX.out.2, HLK.out] at ho
                  refine ho.mono ?_
                  clear ho
                  rintro e wc3 ⟨rfl, hbA⟩
                  replace HBW := Lib.hid (bstep HBW.out hbA)
                  clear hbA
                  go_simp
                  refine hK.out _ _ ?_ (fun hHeld => ?_)
                  · (try dsimp only)
                    exact ⟨(K14.out.belowS HBW.out).cellV (i := 0) rfl, (K14.out.belowS HBW.out).cellV (i := 1) rfl⟩
                  clear hK K
                  refine Tr.take_at 4 76 (.tuple #[.agg #[.int .i64 ox, .int .i64 oy], .bool bv]) rfl rfl (by kernel_rfl) (by kernel_rfl) (by kernel_rfl) (fun _ _ _ h => h) (Or.inl ⟨by rfl, ?_⟩) (by assumption) ?_
                  · intro W0 hSw
                    (try dsimp only at hSw)
                    go_simp
                  simp only [List.set_cons_zero, List.set_cons_succ]
                  refine Tr.take_at 5 81 (.agg #[.int .i64 ox, .int .i64 oy]) rfl rfl (by kernel_rfl) (by kernel_rfl) (by kernel_rfl) (fun _ _ _ h => h) (Or.inl ⟨by rfl, ?_⟩) (by assumption) ?_
                  · intro W0 hSw
                    (try dsimp only at hSw)
                    go_simp
                  simp only [List.set_cons_zero, List.set_cons_succ]
                  refine Tr.take_at 6 82 (.bool bv) rfl rfl (by kernel_rfl) (by kernel_rfl) (by kernel_rfl) (fun _ _ _ h => h) (Or.inl ⟨by rfl, ?_⟩) (by assumption) ?_
                  · intro W0 hSw
                    (try dsimp only at hSw)
                    go_simp
                  simp only [List.set_cons_zero, List.set_cons_succ]
                  refine wpAnyH_ready (rs := [7]) (by kernel_rfl) (by simp) ?_
                  refine AllReadyH.cons rfl (fun K hK => ?_) AllReadyH.nil
                  go_simp
                  have KA7 := Lib.hid (show Blk (wc3.alloc (.cells #[.int .i64 0, .int .i64 0] 53)) (wc3.heap.size) 53 #[.int .i64 0, .int .i64 0] from Blk.new wc3 53 #[.int .i64 0, .int .i64 0])
                  have HL7 := Lib.hid (show w9.heap.size ≤ wc3.heap.size from HBW.out.size)
                  have hbA : Below wc3.heap.size wc3 ((wc3.alloc (.cells #[.int .i64 0, .int .i64 0] 53))) := bal (bre wc3) (.cells #[.int .i64 0, .int .i64 0] 53)
                  replace HBW := Lib.hid (bstep HBW.out hbA)
                  clear hbA
                  refine hK.out _ _ ?_ (fun hHeld => ?_)
                  · (try dsimp only)
                    exact ⟨(K14.out.belowS HBW.out).cellV (i := 0) rfl, (K14.out.belowS HBW.out).cellV (i := 1) rfl⟩
                  clear hK K
                  refine wpAnyH_ready (rs := [8]) (by kernel_rfl) (by simp) ?_
                  refine AllReadyH.cons rfl (fun K hK => ?_) AllReadyH.nil
                  refine Tr.wanted_plain rfl ?_
                  refine store_mid0 rfl 53 _ _ rfl (wc3.heap.size) 0 #[.int .i64 ox, .int .i64 oy] (by rfl) (by rfl) (by have h := there_blk KA7.out; exact h) Tryz.sizePtV (by simp [Value.oneCell']) ?_
                  have xK := blk_puts2 (.int .i64 ox) (.int .i64 oy) KA7.out
                  have xB := bsets HBW.out HL7.out (#[.int .i64 ox, .int .i64 oy] : Array Value).toList 0
                  obtain ⟨wS8, hwS⟩ : ∃ wS, World.setCells (wc3.alloc (.cells #[.int .i64 0, .int .i64 0] 53)) (wc3.heap.size) 0 (#[.int .i64 ox, .int .i64 oy] : Array Value).toList = wS := ⟨_, rfl⟩
                  rw [hwS] at xK xB ⊢
                  replace HBW := Lib.hid xB
                  replace KA7 := Lib.hid xK
                  clear hwS xK xB
                  refine hK.out _ _ ?_ (fun hHeld => ?_)
                  · (try dsimp only)
                    exact ⟨(K14.out.belowS HBW.out).cellV (i := 0) rfl, (K14.out.belowS HBW.out).cellV (i := 1) rfl⟩
                  clear hK K
                  refine Tr.take_at 9 16 (.bool bv) rfl rfl (by kernel_rfl) (by kernel_rfl) (by kernel_rfl) (fun _ _ _ h => h) (Or.inl ⟨by rfl, ?_⟩) (by assumption) ?_
                  · intro W0 hSw
                    (try dsimp only at hSw)
                    go_simp
                  simp only [List.set_cons_zero, List.set_cons_succ]
                  refine wpAnyH_done (by kernel_rfl) ?_ _
                  refine NoPanic.normal ?_
                  go_wp2_with fail
                  go_meet
                  exact ⟨_, rfl, rfl, HL7.out, KA7.out, HBW.out⟩
                ·
                  go_simp
                  have KA7 := Lib.hid (show Blk (wc2.alloc (.cells #[.int .i64 0, .int .i64 0] 53)) (wc2.heap.size) 53 #[.int .i64 0, .int .i64 0] from Blk.new wc2 53 #[.int .i64 0, .int .i64 0])
                  have HL7 := Lib.hid (show w9.heap.size ≤ wc2.heap.size from HBW.out.size)
                  have hbA : Below wc2.heap.size wc2 ((wc2.alloc (.cells #[.int .i64 0, .int .i64 0] 53))) := bal (bre wc2) (.cells #[.int .i64 0, .int .i64 0] 53)
                  replace HBW := Lib.hid (bstep HBW.out hbA)
                  clear hbA
                  refine hK.out _ _ ?_ (fun hHeld => ?_)
                  · (try dsimp only)
                    exact ⟨(K14.out.belowS HBW.out).cellV (i := 0) rfl, (K14.out.belowS HBW.out).cellV (i := 1) rfl⟩
                  clear hK K
                  refine wpAnyH_ready (rs := [3]) (by kernel_rfl) (by simp) ?_
                  refine AllReadyH.cons rfl (fun K hK => ?_) AllReadyH.nil
                  go_simp
                  have ho := vorigin_any (idW j) HIW.out (HV.out.below HBW.out)
                  rw [HOX.out.1, HOX.out.2, HLK.out] at ho
                  refine ho.mono ?_
                  clear ho
                  rintro e wc3 ⟨rfl, hbA⟩
                  replace HBW := Lib.hid (bstep HBW.out hbA)
                  replace KA7 := Lib.hid (KA7.out.belowS hbA)
                  clear hbA
                  go_simp
                  refine hK.out _ _ ?_ (fun hHeld => ?_)
                  · (try dsimp only)
                    exact ⟨(K14.out.belowS HBW.out).cellV (i := 0) rfl, (K14.out.belowS HBW.out).cellV (i := 1) rfl⟩
                  clear hK K
                  refine Tr.take_at 4 76 (.tuple #[.agg #[.int .i64 ox, .int .i64 oy], .bool bv]) rfl rfl (by kernel_rfl) (by kernel_rfl) (by kernel_rfl) (fun _ _ _ h => h) (Or.inl ⟨by rfl, ?_⟩) (by assumption) ?_
                  · intro W0 hSw
                    (try dsimp only at hSw)
                    go_simp
                  simp only [List.set_cons_zero, List.set_cons_succ]
                  refine Tr.take_at 5 81 (.agg #[.int .i64 ox, .int .i64 oy]) rfl rfl (by kernel_rfl) (by kernel_rfl) (by kernel_rfl) (fun _ _ _ h => h) (Or.inl ⟨by rfl, ?_⟩) (by assumption) ?_
                  · intro W0 hSw
                    (try dsimp only at hSw)
                    go_simp
                  simp only [List.set_cons_zero, List.set_cons_succ]
                  refine Tr.take_at 6 82 (.bool bv) rfl rfl (by kernel_rfl) (by kernel_rfl) (by kernel_rfl) (fun _ _ _ h => h) (Or.inl ⟨by rfl, ?_⟩) (by assumption) ?_
                  · intro W0 hSw
                    (try dsimp only at hSw)
                    go_simp
                  simp only [List.set_cons_zero, List.set_cons_succ]
                  refine wpAnyH_ready (rs := [8]) (by kernel_rfl) (by simp) ?_
                  refine AllReadyH.cons rfl (fun K hK => ?_) AllReadyH.nil
                  refine Tr.wanted_plain rfl ?_
                  refine store_mid0 rfl 53 _ _ rfl (wc2.heap.size) 0 #[.int .i64 ox, .int .i64 oy] (by rfl) (by rfl) (by have h := there_blk KA7.out; exact h) Tryz.sizePtV (by simp [Value.oneCell']) ?_
                  have xK := blk_puts2 (.int .i64 ox) (.int .i64 oy) KA7.out
                  have xB := bsets HBW.out HL7.out (#[.int .i64 ox, .int .i64 oy] : Array Value).toList 0
                  obtain ⟨wS8, hwS⟩ : ∃ wS, World.setCells wc3 (wc2.heap.size) 0 (#[.int .i64 ox, .int .i64 oy] : Array Value).toList = wS := ⟨_, rfl⟩
                  rw [hwS] at xK xB ⊢
                  replace HBW := Lib.hid xB
                  replace KA7 := Lib.hid xK
                  clear hwS xK xB
                  refine hK.out _ _ ?_ (fun hHeld => ?_)
                  · (try dsimp only)
                    exact ⟨(K14.out.belowS HBW.out).cellV (i := 0) rfl, (K14.out.belowS HBW.out).cellV (i := 1) rfl⟩
                  clear hK K
                  refine Tr.take_at 9 16 (.bool bv) rfl rfl (by kernel_rfl) (by kernel_rfl) (by kernel_rfl) (fun _ _ _ h => h) (Or.inl ⟨by rfl, ?_⟩) (by assumption) ?_
                  · intro W0 hSw
                    (try dsimp only at hSw)
                    go_simp
                  simp only [List.set_cons_zero, List.set_cons_succ]
                  refine wpAnyH_done (by kernel_rfl) ?_ _
                  refine NoPanic.normal ?_
                  go_wp2_with fail
                  go_meet
                  exact ⟨_, rfl, rfl, HL7.out, KA7.out, HBW.out⟩
              ·
                go_simp
                have KA7 := Lib.hid (show Blk (w9.alloc (.cells #[.int .i64 0, .int .i64 0] 53)).drew (w9.heap.size) 53 #[.int .i64 0, .int .i64 0] from Blk.new w9.drew 53 #[.int .i64 0, .int .i64 0])
                have HL7 := Lib.hid (show w9.heap.size ≤ w9.heap.size from HBW.out.size)
                have hbA : Below w9.drew.heap.size w9.drew ((w9.alloc (.cells #[.int .i64 0, .int .i64 0] 53)).drew) := bal (bre w9.drew) (.cells #[.int .i64 0, .int .i64 0] 53)
                replace HBW := Lib.hid (bstep HBW.out hbA)
                clear hbA
                refine hK.out _ _ ?_ (fun hHeld => ?_)
                · (try dsimp only)
                  exact ⟨(K14.out.belowS HBW.out).cellV (i := 0) rfl, (K14.out.belowS HBW.out).cellV (i := 1) rfl⟩
                clear hK K
                refine wpAnyH_ready (rs := [2]) (by kernel_rfl) (by simp) ?_
                refine AllReadyH.cons rfl (fun K hK => ?_) AllReadyH.nil
                go_simp
                refine (id_b (j : Int) _ hids).mono ?_
                rintro e wc2 ⟨rfl, hbA⟩
                replace HBW := Lib.hid (bstep HBW.out hbA)
                replace KA7 := Lib.hid (KA7.out.belowS hbA)
                clear hbA
                go_simp
                refine hK.out _ _ ?_ (fun hHeld => ?_)
                · (try dsimp only)
                  exact ⟨(K14.out.belowS HBW.out).cellV (i := 0) rfl, (K14.out.belowS HBW.out).cellV (i := 1) rfl⟩
                clear hK K
                refine wpAnyH_ready (rs := [3]) (by kernel_rfl) (by simp) ?_
                refine AllReadyH.cons rfl (fun K hK => ?_) AllReadyH.nil
                go_simp
                have ho := vorigin_any (idW j) HIW.out (HV.out.below HBW.out)
                rw [HOX.out.1, HOX.out.2, HLK.out] at ho
                refine ho.mono ?_
                clear ho
                rintro e wc3 ⟨rfl, hbA⟩
                replace HBW := Lib.hid (bstep HBW.out hbA)
                replace KA7 := Lib.hid (KA7.out.belowS hbA)
                clear hbA
                go_simp
                refine hK.out _ _ ?_ (fun hHeld => ?_)
                · (try dsimp only)
                  exact ⟨(K14.out.belowS HBW.out).cellV (i := 0) rfl, (K14.out.belowS HBW.out).cellV (i := 1) rfl⟩
                clear hK K
                refine Tr.take_at 4 76 (.tuple #[.agg #[.int .i64 ox, .int .i64 oy], .bool bv]) rfl rfl (by kernel_rfl) (by kernel_rfl) (by kernel_rfl) (fun _ _ _ h => h) (Or.inl ⟨by rfl, ?_⟩) (by assumption) ?_
                · intro W0 hSw
                  (try dsimp only at hSw)
                  go_simp
                simp only [List.set_cons_zero, List.set_cons_succ]
                refine Tr.take_at 5 81 (.agg #[.int .i64 ox, .int .i64 oy]) rfl rfl (by kernel_rfl) (by kernel_rfl) (by kernel_rfl) (fun _ _ _ h => h) (Or.inl ⟨by rfl, ?_⟩) (by assumption) ?_
                · intro W0 hSw
                  (try dsimp only at hSw)
                  go_simp
                simp only [List.set_cons_zero, List.set_cons_succ]
                refine Tr.take_at 6 82 (.bool bv) rfl rfl (by kernel_rfl) (by kernel_rfl) (by kernel_rfl) (fun _ _ _ h => h) (Or.inl ⟨by rfl, ?_⟩) (by assumption) ?_
                · intro W0 hSw
                  (try dsimp only at hSw)
                  go_simp
                simp only [List.set_cons_zero, List.set_cons_succ]
                refine wpAnyH_ready (rs := [8]) (by kernel_rfl) (by simp) ?_
                refine AllReadyH.cons rfl (fun K hK => ?_) AllReadyH.nil
                refine Tr.wanted_plain rfl ?_
                refine store_mid0 rfl 53 _ _ rfl (w9.heap.size) 0 #[.int .i64 ox, .int .i64 oy] (by rfl) (by rfl) (by have h := there_blk KA7.out; exact h) Tryz.sizePtV (by simp [Value.oneCell']) ?_
                have xK := blk_puts2 (.int .i64 ox) (.int .i64 oy) KA7.out
                have xB := bsets HBW.out HL7.out (#[.int .i64 ox, .int .i64 oy] : Array Value).toList 0
                obtain ⟨wS8, hwS⟩ : ∃ wS, World.setCells wc3 (w9.heap.size) 0 (#[.int .i64 ox, .int .i64 oy] : Array Value).toList = wS := ⟨_, rfl⟩
                rw [hwS] at xK xB ⊢
                replace HBW := Lib.hid xB
                replace KA7 := Lib.hid xK
                clear hwS xK xB
                refine hK.out _ _ ?_ (fun hHeld => ?_)
                · (try dsimp only)
                  exact ⟨(K14.out.belowS HBW.out).cellV (i := 0) rfl, (K14.out.belowS HBW.out).cellV (i := 1) rfl⟩
                clear hK K
                refine Tr.take_at 9 16 (.bool bv) rfl rfl (by kernel_rfl) (by kernel_rfl) (by kernel_rfl) (fun _ _ _ h => h) (Or.inl ⟨by rfl, ?_⟩) (by assumption) ?_
                · intro W0 hSw
                  (try dsimp only at hSw)
                  go_simp
                simp only [List.set_cons_zero, List.set_cons_succ]
                refine wpAnyH_done (by kernel_rfl) ?_ _
                refine NoPanic.normal ?_
                go_wp2_with fail
                go_meet
                exact ⟨_, rfl, rfl, HL7.out, KA7.out, HBW.out⟩
          obtain ⟨g15, rfl, rfl, hg15, hk15, hbc⟩ := hcut
          have K15 := Lib.hid hk15
          replace HBR := Lib.hid (bstep HBR.out hbc)
          clear hk15 hg15
          replace HS := Lib.hid (HS.out.below hbc)
          replace HV := Lib.hid (HV.out.below hbc)
          replace HT := Lib.hid (HT.out.below hbc)
          replace HL := Lib.hid (HL.out.below hbc)
          replace K11 := Lib.hid (K11.out.belowS hbc)
          replace HB := Lib.hid (bstep HB.out hbc)
          replace K14 := Lib.hid (K14.out.belowS hbc)
          replace HR6 := Lib.hid (HR6.out.below hbc)
          replace HR7 := Lib.hid (HR7.out.below hbc)
          clear hbc
          cases bv with
          | true =>
            as_aux_lemma =>
              go_upto_region 22 with fail
              have HBW := Lib.hid (show Below wc.heap.size wc wc.drew from (bre wc).drew)
              refine wp_region_noPanic ?_
              refine wp_region_held_drew (S := (fun w' => w'.cell? ⟨w5.heap.size, 0, none⟩ = some (.slice Av k cv) ∧ w'.cell? ⟨w5.heap.size, 1, none⟩ = some (.map mv) ∧ w'.cell? ⟨g15, 0, none⟩ = some (.int .i64 ox) ∧ w'.cell? ⟨g15, 1, none⟩ = some (.int .i64 oy))) (by kernel_rfl) ?_ (fun hHeld => ?_)
              · (try dsimp only)
                exact ⟨(K14.out.belowS HBW.out).cellV (i := 0) rfl, (K14.out.belowS HBW.out).cellV (i := 1) rfl, (K15.out.belowS HBW.out).cellV (i := 0) rfl, (K15.out.belowS HBW.out).cellV (i := 1) rfl⟩
              refine Tr.take_at 0 83 (.agg #[.slice Av k cv, .map mv]) rfl rfl (by kernel_rfl) (by kernel_rfl) (by kernel_rfl) (fun _ _ _ h => h) (Or.inl ⟨by rfl, ?_⟩) (by assumption) ?_
              · intro W0 hSw
                (try dsimp only at hSw)
                go_simp
              simp only [List.set_cons_zero, List.set_cons_succ]
              refine Tr.take_at 1 84 (.int .i64 j) rfl rfl (by kernel_rfl) (by kernel_rfl) (by kernel_rfl) (fun _ _ _ h => h) (Or.inl ⟨by rfl, ?_⟩) (by assumption) ?_
              · intro W0 hSw
                (try dsimp only at hSw)
                go_simp
              simp only [List.set_cons_zero, List.set_cons_succ]
              refine Tr.take_at 4 87 (.bool true) rfl rfl (by kernel_rfl) (by kernel_rfl) (by kernel_rfl) (fun _ _ _ h => h) (Or.inl ⟨by rfl, ?_⟩) (by assumption) ?_
              · intro W0 hSw
                (try dsimp only at hSw)
                go_simp
              simp only [List.set_cons_zero, List.set_cons_succ]
              refine wpAnyH_ready (rs := [2]) (by kernel_rfl) (by simp) ?_
              refine AllReadyH.cons rfl (fun K hK => ?_) AllReadyH.nil
              go_simp
              refine (id_b (j : Int) _ hids).mono ?_
              rintro e wd2 ⟨rfl, hbA⟩
              replace HBW := Lib.hid (bstep HBW.out hbA)
              clear hbA
              go_simp
              refine hK.out _ _ ?_ (fun hHeld => ?_)
              · (try dsimp only)
                exact ⟨(K14.out.belowS HBW.out).cellV (i := 0) rfl, (K14.out.belowS HBW.out).cellV (i := 1) rfl, (K15.out.belowS HBW.out).cellV (i := 0) rfl, (K15.out.belowS HBW.out).cellV (i := 1) rfl⟩
              clear hK K
              refine wpAnyH_ready (rs := [3]) (by kernel_rfl) (by simp) ?_
              refine AllReadyH.cons rfl (fun K hK => ?_) AllReadyH.nil
              go_simp
              have hv9 := vviewable_any (idW j) HIW.out (HV.out.below HBW.out)
              rw [HLK.out] at hv9
              refine hv9.mono ?_
              clear hv9
              rintro e wd3 ⟨rfl, hbA⟩
              replace HBW := Lib.hid (bstep HBW.out hbA)
              clear hbA
              go_simp
              refine hK.out _ _ ?_ (fun hHeld => ?_)
              · (try dsimp only)
                exact ⟨(K14.out.belowS HBW.out).cellV (i := 0) rfl, (K14.out.belowS HBW.out).cellV (i := 1) rfl, (K15.out.belowS HBW.out).cellV (i := 0) rfl, (K15.out.belowS HBW.out).cellV (i := 1) rfl⟩
              clear hK K
              refine Tr.take_at 5 88 (.bool false) rfl rfl (by kernel_rfl) (by kernel_rfl) (by kernel_rfl) (fun _ _ _ h => h) (Or.inl ⟨by rfl, ?_⟩) (by assumption) ?_
              · intro W0 hSw
                (try dsimp only at hSw)
                go_simp
              simp only [List.set_cons_zero, List.set_cons_succ]
              refine Tr.take_at 6 89 (.bool false) rfl rfl (by kernel_rfl) (by kernel_rfl) (by kernel_rfl) (fun _ _ _ h => h) (Or.inl ⟨by rfl, ?_⟩) (by assumption) ?_
              · intro W0 hSw
                (try dsimp only at hSw)
                go_simp
              simp only [List.set_cons_zero, List.set_cons_succ]
              refine Tr.take_at 7 90 (.bool true) rfl rfl (by kernel_rfl) (by kernel_rfl) (by kernel_rfl) (fun _ _ _ h => h) (Or.inl ⟨by rfl, ?_⟩) (by assumption) ?_
              · intro W0 hSw
                (try dsimp only at hSw)
                go_simp
              simp only [List.set_cons_zero, List.set_cons_succ]
              refine Tr.take_at 8 91 (.bool true) rfl rfl (by kernel_rfl) (by kernel_rfl) (by kernel_rfl) (fun _ _ _ h => h) (Or.inl ⟨by rfl, ?_⟩) (by assumption) ?_
              · intro W0 hSw
                (try dsimp only at hSw)
                go_simp
              simp only [List.set_cons_zero, List.set_cons_succ]
              refine Tr.take_at 9 92 (.bool false) rfl rfl (by kernel_rfl) (by kernel_rfl) (by kernel_rfl) (fun _ _ _ h => h) (Or.inl ⟨by rfl, ?_⟩) (by assumption) ?_
              · intro W0 hSw
                (try dsimp only at hSw)
                go_simp
              simp only [List.set_cons_zero, List.set_cons_succ]
              refine Tr.take_at 10 93 (.bool false) rfl rfl (by kernel_rfl) (by kernel_rfl) (by kernel_rfl) (fun _ _ _ h => h) (Or.inl ⟨by rfl, ?_⟩) (by assumption) ?_
              · intro W0 hSw
                (try dsimp only at hSw)
                go_simp
              simp only [List.set_cons_zero, List.set_cons_succ]
              refine Tr.take_at 11 94 (.bool false) rfl rfl (by kernel_rfl) (by kernel_rfl) (by kernel_rfl) (fun _ _ _ h => h) (Or.inl ⟨by rfl, ?_⟩) (by assumption) ?_
              · intro W0 hSw
                (try dsimp only at hSw)
                go_simp
              simp only [List.set_cons_zero, List.set_cons_succ]
              refine Tr.take_at 12 95 (.bool true) rfl rfl (by kernel_rfl) (by kernel_rfl) (by kernel_rfl) (fun _ _ _ h => h) (Or.inl ⟨by rfl, ?_⟩) (by assumption) ?_
              · intro W0 hSw
                (try dsimp only at hSw)
                go_simp
              simp only [List.set_cons_zero, List.set_cons_succ]
              refine Tr.take_at 13 96 (.bool true) rfl rfl (by kernel_rfl) (by kernel_rfl) (by kernel_rfl) (fun _ _ _ h => h) (Or.inl ⟨by rfl, ?_⟩) (by assumption) ?_
              · intro W0 hSw
                (try dsimp only at hSw)
                go_simp
              simp only [List.set_cons_zero, List.set_cons_succ]
              refine Tr.take_at 14 97 (.agg #[.int .i64 ox, .int .i64 oy]) rfl rfl (by kernel_rfl) (by kernel_rfl) (by kernel_rfl) (fun _ _ _ h => h) (Or.inl ⟨by rfl, ?_⟩) (by assumption) ?_
              · intro W0 hSw
                (try dsimp only at hSw)
                go_simp
              simp only [List.set_cons_zero, List.set_cons_succ]
              refine Tr.take_at 15 98 (.slice Al l.length cl) rfl rfl (by kernel_rfl) (by kernel_rfl) (by kernel_rfl) (fun _ _ _ h => h) (Or.inl ⟨by rfl, ?_⟩) (by assumption) ?_
              · intro W0 hSw
                (try dsimp only at hSw)
                go_simp
              simp only [List.set_cons_zero, List.set_cons_succ]
              refine Tr.take_at 16 99 (.int .i64 j) rfl rfl (by kernel_rfl) (by kernel_rfl) (by kernel_rfl) (fun _ _ _ h => h) (Or.inl ⟨by rfl, ?_⟩) (by assumption) ?_
              · intro W0 hSw
                (try dsimp only at hSw)
                go_simp
              simp only [List.set_cons_zero, List.set_cons_succ]
              refine wpAnyH_ready (rs := [17]) (by kernel_rfl) (by simp) ?_
              refine AllReadyH.cons rfl (fun K hK => ?_) AllReadyH.nil
              go_simp
              have hor := dorigin_any Al l.length cl l (j : Int) RW RH _ (by have := HL7.out; omega) (HL.out.below HBW.out) HUP.out HDW.out ⟨by omega, j1⟩
              rw [← (HO.out.1 rfl).1, ← (HO.out.1 rfl).2] at hor
              refine hor.mono ?_
              clear hor
              rintro e wd17 ⟨rfl, hbA⟩
              replace HBW := Lib.hid (bstep HBW.out hbA)
              clear hbA
              go_simp
              refine hK.out _ _ ?_ (fun hHeld => ?_)
              · (try dsimp only)
                exact ⟨(K14.out.belowS HBW.out).cellV (i := 0) rfl, (K14.out.belowS HBW.out).cellV (i := 1) rfl, (K15.out.belowS HBW.out).cellV (i := 0) rfl, (K15.out.belowS HBW.out).cellV (i := 1) rfl⟩
              clear hK K
              refine Tr.take_at 18 101 (.bool false) rfl rfl (by kernel_rfl) (by kernel_rfl) (by kernel_rfl) (fun _ _ _ h => h) (Or.inl ⟨by rfl, ?_⟩) (by assumption) ?_
              · intro W0 hSw
                (try dsimp only at hSw)
                go_simp
              simp only [List.set_cons_zero, List.set_cons_succ]
              refine Tr.take_at 19 102 (.bool false) rfl rfl (by kernel_rfl) (by kernel_rfl) (by kernel_rfl) (fun _ _ _ h => h) (Or.inl ⟨by rfl, ?_⟩) (by assumption) ?_
              · intro W0 hSw
                (try dsimp only at hSw)
                go_simp
              simp only [List.set_cons_zero, List.set_cons_succ]
              refine Tr.take_at 20 103 (.bool false) rfl rfl (by kernel_rfl) (by kernel_rfl) (by kernel_rfl) (fun _ _ _ h => h) (Or.inl ⟨by rfl, ?_⟩) (by assumption) ?_
              · intro W0 hSw
                (try dsimp only at hSw)
                go_simp
              simp only [List.set_cons_zero, List.set_cons_succ]
              refine Tr.take_at 21 104 (.bool false) rfl rfl (by kernel_rfl) (by kernel_rfl) (by kernel_rfl) (fun _ _ _ h => h) (Or.inl ⟨by rfl, ?_⟩) (by assumption) ?_
              · intro W0 hSw
                (try dsimp only at hSw)
                go_simp
              simp only [List.set_cons_zero, List.set_cons_succ]
              refine Tr.take_at 22 105 (.bool true) rfl rfl (by kernel_rfl) (by kernel_rfl) (by kernel_rfl) (fun _ _ _ h => h) (Or.inl ⟨by rfl, ?_⟩) (by assumption) ?_
              · intro W0 hSw
                (try dsimp only at hSw)
                go_simp
              simp only [List.set_cons_zero, List.set_cons_succ]
              refine Tr.take_at 23 106 (.bool false) rfl rfl (by kernel_rfl) (by kernel_rfl) (by kernel_rfl) (fun _ _ _ h => h) (Or.inl ⟨by rfl, ?_⟩) (by assumption) ?_
              · intro W0 hSw
                (try dsimp only at hSw)
                go_simp
              simp only [List.set_cons_zero, List.set_cons_succ]
              refine Tr.take_at 24 107 (.bool false) rfl rfl (by kernel_rfl) (by kernel_rfl) (by kernel_rfl) (fun _ _ _ h => h) (Or.inl ⟨by rfl, ?_⟩) (by assumption) ?_
              · intro W0 hSw
                (try dsimp only at hSw)
                go_simp
              simp only [List.set_cons_zero, List.set_cons_succ]
              refine Tr.take_at 25 108 undef rfl rfl (by kernel_rfl) (by kernel_rfl) (by kernel_rfl) (fun _ _ _ h => h) (Or.inr ⟨by rfl, rfl⟩) (by assumption) ?_
              simp only [List.set_cons_zero, List.set_cons_succ]
              refine Tr.take_at 26 109 undef rfl rfl (by kernel_rfl) (by kernel_rfl) (by kernel_rfl) (fun _ _ _ h => h) (Or.inr ⟨by rfl, rfl⟩) (by assumption) ?_
              simp only [List.set_cons_zero, List.set_cons_succ]
              refine Tr.take_at 27 110 undef rfl rfl (by kernel_rfl) (by kernel_rfl) (by kernel_rfl) (fun _ _ _ h => h) (Or.inr ⟨by rfl, rfl⟩) (by assumption) ?_
              simp only [List.set_cons_zero, List.set_cons_succ]
              refine Tr.take_at 28 111 undef rfl rfl (by kernel_rfl) (by kernel_rfl) (by kernel_rfl) (fun _ _ _ h => h) (Or.inr ⟨by rfl, rfl⟩) (by assumption) ?_
              simp only [List.set_cons_zero, List.set_cons_succ]
              refine Tr.take_at 29 112 undef rfl rfl (by kernel_rfl) (by kernel_rfl) (by kernel_rfl) (fun _ _ _ h => h) (Or.inr ⟨by rfl, rfl⟩) (by assumption) ?_
              simp only [List.set_cons_zero, List.set_cons_succ]
              refine Tr.take_at 30 113 undef rfl rfl (by kernel_rfl) (by kernel_rfl) (by kernel_rfl) (fun _ _ _ h => h) (Or.inr ⟨by rfl, rfl⟩) (by assumption) ?_
              simp only [List.set_cons_zero, List.set_cons_succ]
              refine Tr.take_at 31 114 undef rfl rfl (by kernel_rfl) (by kernel_rfl) (by kernel_rfl) (fun _ _ _ h => h) (Or.inr ⟨by rfl, rfl⟩) (by assumption) ?_
              simp only [List.set_cons_zero, List.set_cons_succ]
              refine Tr.take_at 32 115 undef rfl rfl (by kernel_rfl) (by kernel_rfl) (by kernel_rfl) (fun _ _ _ h => h) (Or.inr ⟨by rfl, rfl⟩) (by assumption) ?_
              simp only [List.set_cons_zero, List.set_cons_succ]
              refine Tr.take_at 33 116 undef rfl rfl (by kernel_rfl) (by kernel_rfl) (by kernel_rfl) (fun _ _ _ h => h) (Or.inr ⟨by rfl, rfl⟩) (by assumption) ?_
              simp only [List.set_cons_zero, List.set_cons_succ]
              refine Tr.take_at 34 117 undef rfl rfl (by kernel_rfl) (by kernel_rfl) (by kernel_rfl) (fun _ _ _ h => h) (Or.inr ⟨by rfl, rfl⟩) (by assumption) ?_
              simp only [List.set_cons_zero, List.set_cons_succ]
              refine Tr.take_at 35 118 undef rfl rfl (by kernel_rfl) (by kernel_rfl) (by kernel_rfl) (fun _ _ _ h => h) (Or.inr ⟨by rfl, rfl⟩) (by assumption) ?_
              simp only [List.set_cons_zero, List.set_cons_succ]
              refine Tr.take_at 36 119 undef rfl rfl (by kernel_rfl) (by kernel_rfl) (by kernel_rfl) (fun _ _ _ h => h) (Or.inr ⟨by rfl, rfl⟩) (by assumption) ?_
              simp only [List.set_cons_zero, List.set_cons_succ]
              refine Tr.take_at 37 120 undef rfl rfl (by kernel_rfl) (by kernel_rfl) (by kernel_rfl) (fun _ _ _ h => h) (Or.inr ⟨by rfl, rfl⟩) (by assumption) ?_
              simp only [List.set_cons_zero, List.set_cons_succ]
              refine Tr.take_at 38 121 undef rfl rfl (by kernel_rfl) (by kernel_rfl) (by kernel_rfl) (fun _ _ _ h => h) (Or.inr ⟨by rfl, rfl⟩) (by assumption) ?_
              simp only [List.set_cons_zero, List.set_cons_succ]
              refine Tr.take_at 39 122 undef rfl rfl (by kernel_rfl) (by kernel_rfl) (by kernel_rfl) (fun _ _ _ h => h) (Or.inr ⟨by rfl, rfl⟩) (by assumption) ?_
              simp only [List.set_cons_zero, List.set_cons_succ]
              refine Tr.take_at 40 123 undef rfl rfl (by kernel_rfl) (by kernel_rfl) (by kernel_rfl) (fun _ _ _ h => h) (Or.inr ⟨by rfl, rfl⟩) (by assumption) ?_
              simp only [List.set_cons_zero, List.set_cons_succ]
              refine Tr.take_at 41 124 undef rfl rfl (by kernel_rfl) (by kernel_rfl) (by kernel_rfl) (fun _ _ _ h => h) (Or.inr ⟨by rfl, rfl⟩) (by assumption) ?_
              simp only [List.set_cons_zero, List.set_cons_succ]
              refine Tr.take_at 42 125 undef rfl rfl (by kernel_rfl) (by kernel_rfl) (by kernel_rfl) (fun _ _ _ h => h) (Or.inr ⟨by rfl, rfl⟩) (by assumption) ?_
              simp only [List.set_cons_zero, List.set_cons_succ]
              refine Tr.take_at 43 126 undef rfl rfl (by kernel_rfl) (by kernel_rfl) (by kernel_rfl) (fun _ _ _ h => h) (Or.inr ⟨by rfl, rfl⟩) (by assumption) ?_
              simp only [List.set_cons_zero, List.set_cons_succ]
              refine Tr.take_at 44 127 (.bool false) rfl rfl (by kernel_rfl) (by kernel_rfl) (by kernel_rfl) (fun _ _ _ h => h) (Or.inl ⟨by rfl, ?_⟩) (by assumption) ?_
              · intro W0 hSw
                (try dsimp only at hSw)
                go_simp
              simp only [List.set_cons_zero, List.set_cons_succ]
              refine Tr.take_at 45 128 (.bool false) rfl rfl (by kernel_rfl) (by kernel_rfl) (by kernel_rfl) (fun _ _ _ h => h) (Or.inl ⟨by rfl, ?_⟩) (by assumption) ?_
              · intro W0 hSw
                (try dsimp only at hSw)
                go_simp
              simp only [List.set_cons_zero, List.set_cons_succ]
              refine wpAnyH_done (by kernel_rfl) ?_ _
              refine NoPanic.normal ?_
              go_wp2_with fail
              go_roundw
              case rel => exact ⟨j + 1, by go_num, by have := HJ.out; omega, bstep HBR.out HBW.out⟩
              case measure => simp [intOf]; omega
          | false =>
            as_aux_lemma =>
              obtain ⟨rfl, rfl⟩ := HO.out.2 rfl
              have HNO := Lib.hid (show ∀ x y, showB (esS RW RH l) x y (idW j) = false from fun x y => by
                unfold showB
                have h9 := HLK.out
                cases he : lastE (esS RW RH l) (idW j) with
                | none => rfl
                | some q => rw [he] at h9; cases h9)
              go_upto_region 22 with fail
              have HBW := Lib.hid (show Below wc.heap.size wc wc.drew from (bre wc).drew)
              refine wp_region_noPanic ?_
              refine wp_region_held_drew (S := (fun w' => w'.cell? ⟨w5.heap.size, 0, none⟩ = some (.slice Av k cv) ∧ w'.cell? ⟨w5.heap.size, 1, none⟩ = some (.map mv) ∧ w'.cell? ⟨g15, 0, none⟩ = some (.int .i64 0) ∧ w'.cell? ⟨g15, 1, none⟩ = some (.int .i64 0))) (by kernel_rfl) ?_ (fun hHeld => ?_)
              · (try dsimp only)
                exact ⟨(K14.out.belowS HBW.out).cellV (i := 0) rfl, (K14.out.belowS HBW.out).cellV (i := 1) rfl, (K15.out.belowS HBW.out).cellV (i := 0) rfl, (K15.out.belowS HBW.out).cellV (i := 1) rfl⟩
              refine Tr.take_at 0 83 (.agg #[.slice Av k cv, .map mv]) rfl rfl (by kernel_rfl) (by kernel_rfl) (by kernel_rfl) (fun _ _ _ h => h) (Or.inl ⟨by rfl, ?_⟩) (by assumption) ?_
              · intro W0 hSw
                (try dsimp only at hSw)
                go_simp
              simp only [List.set_cons_zero, List.set_cons_succ]
              refine Tr.take_at 1 84 (.int .i64 j) rfl rfl (by kernel_rfl) (by kernel_rfl) (by kernel_rfl) (fun _ _ _ h => h) (Or.inl ⟨by rfl, ?_⟩) (by assumption) ?_
              · intro W0 hSw
                (try dsimp only at hSw)
                go_simp
              simp only [List.set_cons_zero, List.set_cons_succ]
              refine Tr.take_at 4 87 (.bool false) rfl rfl (by kernel_rfl) (by kernel_rfl) (by kernel_rfl) (fun _ _ _ h => h) (Or.inl ⟨by rfl, ?_⟩) (by assumption) ?_
              · intro W0 hSw
                (try dsimp only at hSw)
                go_simp
              simp only [List.set_cons_zero, List.set_cons_succ]
              refine wpAnyH_ready (rs := [2]) (by kernel_rfl) (by simp) ?_
              refine AllReadyH.cons rfl (fun K hK => ?_) AllReadyH.nil
              go_simp
              refine (id_b (j : Int) _ hids).mono ?_
              rintro e wd2 ⟨rfl, hbA⟩
              replace HBW := Lib.hid (bstep HBW.out hbA)
              clear hbA
              go_simp
              refine hK.out _ _ ?_ (fun hHeld => ?_)
              · (try dsimp only)
                exact ⟨(K14.out.belowS HBW.out).cellV (i := 0) rfl, (K14.out.belowS HBW.out).cellV (i := 1) rfl, (K15.out.belowS HBW.out).cellV (i := 0) rfl, (K15.out.belowS HBW.out).cellV (i := 1) rfl⟩
              clear hK K
              refine wpAnyH_ready (rs := [3]) (by kernel_rfl) (by simp) ?_
              refine AllReadyH.cons rfl (fun K hK => ?_) AllReadyH.nil
              go_simp
              have hv9 := vviewable_any (idW j) HIW.out (HV.out.below HBW.out)
              rw [HLK.out] at hv9
              refine hv9.mono ?_
              clear hv9
              rintro e wd3 ⟨rfl, hbA⟩
              replace HBW := Lib.hid (bstep HBW.out hbA)
              clear hbA
              go_simp
              refine hK.out _ _ ?_ (fun hHeld => ?_)
              · (try dsimp only)
                exact ⟨(K14.out.belowS HBW.out).cellV (i := 0) rfl, (K14.out.belowS HBW.out).cellV (i := 1) rfl, (K15.out.belowS HBW.out).cellV (i := 0) rfl, (K15.out.belowS HBW.out).cellV (i := 1) rfl⟩
              clear hK K
              refine Tr.take_at 5 88 (.bool false) rfl rfl (by kernel_rfl) (by kernel_rfl) (by kernel_rfl) (fun _ _ _ h => h) (Or.inl ⟨by rfl, ?_⟩) (by assumption) ?_
              · intro W0 hSw
                (try dsimp only at hSw)
                go_simp
              simp only [List.set_cons_zero, List.set_cons_succ]
              refine Tr.take_at 6 89 (.bool false) rfl rfl (by kernel_rfl) (by kernel_rfl) (by kernel_rfl) (fun _ _ _ h => h) (Or.inl ⟨by rfl, ?_⟩) (by assumption) ?_
              · intro W0 hSw
                (try dsimp only at hSw)
                go_simp
              simp only [List.set_cons_zero, List.set_cons_succ]
              refine Tr.take_at 7 90 (.bool false) rfl rfl (by kernel_rfl) (by kernel_rfl) (by kernel_rfl) (fun _ _ _ h => h) (Or.inl ⟨by rfl, ?_⟩) (by assumption) ?_
              · intro W0 hSw
                (try dsimp only at hSw)
                go_simp
              simp only [List.set_cons_zero, List.set_cons_succ]
              refine Tr.take_at 8 91 (.bool false) rfl rfl (by kernel_rfl) (by kernel_rfl) (by kernel_rfl) (fun _ _ _ h => h) (Or.inl ⟨by rfl, ?_⟩) (by assumption) ?_
              · intro W0 hSw
                (try dsimp only at hSw)
                go_simp
              simp only [List.set_cons_zero, List.set_cons_succ]
              refine Tr.take_at 9 92 (.bool false) rfl rfl (by kernel_rfl) (by kernel_rfl) (by kernel_rfl) (fun _ _ _ h => h) (Or.inl ⟨by rfl, ?_⟩) (by assumption) ?_
              · intro W0 hSw
                (try dsimp only at hSw)
                go_simp
              simp only [List.set_cons_zero, List.set_cons_succ]
              refine Tr.take_at 10 93 (.bool false) rfl rfl (by kernel_rfl) (by kernel_rfl) (by kernel_rfl) (fun _ _ _ h => h) (Or.inl ⟨by rfl, ?_⟩) (by assumption) ?_
              · intro W0 hSw
                (try dsimp only at hSw)
                go_simp
              simp only [List.set_cons_zero, List.set_cons_succ]
              refine Tr.take_at 11 94 (.bool false) rfl rfl (by kernel_rfl) (by kernel_rfl) (by kernel_rfl) (fun _ _ _ h => h) (Or.inl ⟨by rfl, ?_⟩) (by assumption) ?_
              · intro W0 hSw
                (try dsimp only at hSw)
                go_simp
              simp only [List.set_cons_zero, List.set_cons_succ]
              refine Tr.take_at 12 95 (.bool false) rfl rfl (by kernel_rfl) (by kernel_rfl) (by kernel_rfl) (fun _ _ _ h => h) (Or.inl ⟨by rfl, ?_⟩) (by assumption) ?_
              · intro W0 hSw
                (try dsimp only at hSw)
                go_simp
              simp only [List.set_cons_zero, List.set_cons_succ]
              refine Tr.take_at 13 96 (.bool false) rfl rfl (by kernel_rfl) (by kernel_rfl) (by kernel_rfl) (fun _ _ _ h => h) (Or.inl ⟨by rfl, ?_⟩) (by assumption) ?_
              · intro W0 hSw
                (try dsimp only at hSw)
                go_simp
              simp only [List.set_cons_zero, List.set_cons_succ]
              refine Tr.take_at 14 97 undef rfl rfl (by kernel_rfl) (by kernel_rfl) (by kernel_rfl) (fun _ _ _ h => h) (Or.inr ⟨by rfl, rfl⟩) (by assumption) ?_
              simp only [List.set_cons_zero, List.set_cons_succ]
              refine Tr.take_at 15 98 undef rfl rfl (by kernel_rfl) (by kernel_rfl) (by kernel_rfl) (fun _ _ _ h => h) (Or.inr ⟨by rfl, rfl⟩) (by assumption) ?_
              simp only [List.set_cons_zero, List.set_cons_succ]
              refine Tr.take_at 16 99 undef rfl rfl (by kernel_rfl) (by kernel_rfl) (by kernel_rfl) (fun _ _ _ h => h) (Or.inr ⟨by rfl, rfl⟩) (by assumption) ?_
              simp only [List.set_cons_zero, List.set_cons_succ]
              refine Tr.take_at 17 100 undef rfl rfl (by kernel_rfl) (by kernel_rfl) (by kernel_rfl) (fun _ _ _ h => h) (Or.inr ⟨by rfl, rfl⟩) (by assumption) ?_
              simp only [List.set_cons_zero, List.set_cons_succ]
              refine Tr.take_at 18 101 undef rfl rfl (by kernel_rfl) (by kernel_rfl) (by kernel_rfl) (fun _ _ _ h => h) (Or.inr ⟨by rfl, rfl⟩) (by assumption) ?_
              simp only [List.set_cons_zero, List.set_cons_succ]
              refine Tr.take_at 19 102 (.bool false) rfl rfl (by kernel_rfl) (by kernel_rfl) (by kernel_rfl) (fun _ _ _ h => h) (Or.inl ⟨by rfl, ?_⟩) (by assumption) ?_
              · intro W0 hSw
                (try dsimp only at hSw)
                go_simp
              simp only [List.set_cons_zero, List.set_cons_succ]
              refine Tr.take_at 20 103 (.bool false) rfl rfl (by kernel_rfl) (by kernel_rfl) (by kernel_rfl) (fun _ _ _ h => h) (Or.inl ⟨by rfl, ?_⟩) (by assumption) ?_
              · intro W0 hSw
                (try dsimp only at hSw)
                go_simp
              simp only [List.set_cons_zero, List.set_cons_succ]
              refine Tr.take_at 21 104 (.bool false) rfl rfl (by kernel_rfl) (by kernel_rfl) (by kernel_rfl) (fun _ _ _ h => h) (Or.inl ⟨by rfl, ?_⟩) (by assumption) ?_
              · intro W0 hSw
                (try dsimp only at hSw)
                go_simp
              simp only [List.set_cons_zero, List.set_cons_succ]
              refine Tr.take_at 22 105 (.bool false) rfl rfl (by kernel_rfl) (by kernel_rfl) (by kernel_rfl) (fun _ _ _ h => h) (Or.inl ⟨by rfl, ?_⟩) (by assumption) ?_
              · intro W0 hSw
                (try dsimp only at hSw)
                go_simp
              simp only [List.set_cons_zero, List.set_cons_succ]
              refine Tr.take_at 23 106 (.bool true) rfl rfl (by kernel_rfl) (by kernel_rfl) (by kernel_rfl) (fun _ _ _ h => h) (Or.inl ⟨by rfl, ?_⟩) (by assumption) ?_
              · intro W0 hSw
                (try dsimp only at hSw)
                go_simp
              simp only [List.set_cons_zero, List.set_cons_succ]
              refine Tr.take_at 24 107 (.bool true) rfl rfl (by kernel_rfl) (by kernel_rfl) (by kernel_rfl) (fun _ _ _ h => h) (Or.inl ⟨by rfl, ?_⟩) (by assumption) ?_
              · intro W0 hSw
                (try dsimp only at hSw)
                go_simp
              simp only [List.set_cons_zero, List.set_cons_succ]
              refine Tr.take_at 25 108 (.agg #[.int .i64 0, .int .i64 0]) rfl rfl (by kernel_rfl) (by kernel_rfl) (by kernel_rfl) (fun _ _ _ h => h) (Or.inl ⟨by rfl, ?_⟩) (by assumption) ?_
              · intro W0 hSw
                (try dsimp only at hSw)
                go_simp
              simp only [List.set_cons_zero, List.set_cons_succ]
              refine Tr.take_at 26 109 (.agg #[.int .i64 0, .int .i64 0]) rfl rfl (by kernel_rfl) (by kernel_rfl) (by kernel_rfl) (fun _ _ _ h => h) (Or.inl ⟨by rfl, ?_⟩) (by assumption) ?_
              · intro W0 hSw
                apply y_build
                as_aux_lemma => kernel_rfl
              simp only [List.set_cons_zero, List.set_cons_succ]
              refine Tr.take_at 27 110 (.bool false) rfl rfl (by kernel_rfl) (by kernel_rfl) (by kernel_rfl) (fun _ _ _ h => h) (Or.inl ⟨by rfl, ?_⟩) (by assumption) ?_
              · intro W0 hSw
                (try dsimp only at hSw)
                go_simp
              simp only [List.set_cons_zero, List.set_cons_succ]
              refine Tr.take_at 28 111 (.bool false) rfl rfl (by kernel_rfl) (by kernel_rfl) (by kernel_rfl) (fun _ _ _ h => h) (Or.inl ⟨by rfl, ?_⟩) (by assumption) ?_
              · intro W0 hSw
                (try dsimp only at hSw)
                go_simp
              simp only [List.set_cons_zero, List.set_cons_succ]
              refine Tr.take_at 29 112 (.agg #[.slice Av k cv, .map mv]) rfl rfl (by kernel_rfl) (by kernel_rfl) (by kernel_rfl) (fun _ _ _ h => h) (Or.inl ⟨by rfl, ?_⟩) (by assumption) ?_
              · intro W0 hSw
                (try dsimp only at hSw)
                go_simp
              simp only [List.set_cons_zero, List.set_cons_succ]
              refine Tr.take_at 30 113 (.int .i64 j) rfl rfl (by kernel_rfl) (by kernel_rfl) (by kernel_rfl) (fun _ _ _ h => h) (Or.inl ⟨by rfl, ?_⟩) (by assumption) ?_
              · intro W0 hSw
                (try dsimp only at hSw)
                go_simp
              simp only [List.set_cons_zero, List.set_cons_succ]
              refine wpAnyH_ready (rs := [31]) (by kernel_rfl) (by simp) ?_
              refine AllReadyH.cons rfl (fun K hK => ?_) AllReadyH.nil
              go_simp
              refine (id_b (j : Int) _ hids).mono ?_
              rintro e wd31 ⟨rfl, hbA⟩
              replace HBW := Lib.hid (bstep HBW.out hbA)
              clear hbA
              go_simp
              refine hK.out _ _ ?_ (fun hHeld => ?_)
              · (try dsimp only)
                exact ⟨(K14.out.belowS HBW.out).cellV (i := 0) rfl, (K14.out.belowS HBW.out).cellV (i := 1) rfl, (K15.out.belowS HBW.out).cellV (i := 0) rfl, (K15.out.belowS HBW.out).cellV (i := 1) rfl⟩
              clear hK K
              refine wpAnyH_ready (rs := [32]) (by kernel_rfl) (by simp) ?_
              refine AllReadyH.cons rfl (fun K hK => ?_) AllReadyH.nil
              go_simp
              refine ((HS.out.below HBW.out).visible (idW j) HIW.out).mono ?_
              rintro e wd32 ⟨u32, out32, rfl, hro, hpo, _, _, hbA⟩
              have hout := none_empty hro (fun x y => by rw [hpo]; exact HNO.out _ _)
              obtain ⟨Ao32, co32, rfl, _⟩ := hro
              subst hout
              clear hpo
              replace HBW := Lib.hid (bstep HBW.out hbA)
              clear hbA
              go_simp
              refine hK.out _ _ ?_ (fun hHeld => ?_)
              · (try dsimp only)
                exact ⟨(K14.out.belowS HBW.out).cellV (i := 0) rfl, (K14.out.belowS HBW.out).cellV (i := 1) rfl, (K15.out.belowS HBW.out).cellV (i := 0) rfl, (K15.out.belowS HBW.out).cellV (i := 1) rfl⟩
              clear hK K
              refine wpAnyH_ready (rs := [33]) (by kernel_rfl) (by simp) ?_
              refine AllReadyH.cons rfl (fun K hK => ?_) AllReadyH.nil
              go_simp
              refine (empty_any Ao32 _ co32 _).mono ?_
              rintro e wd33 ⟨rfl, hbA⟩
              replace HBW := Lib.hid (bstep HBW.out hbA)
              clear hbA
              go_simp
              refine hK.out _ _ ?_ (fun hHeld => ?_)
              · (try dsimp only)
                exact ⟨(K14.out.belowS HBW.out).cellV (i := 0) rfl, (K14.out.belowS HBW.out).cellV (i := 1) rfl, (K15.out.belowS HBW.out).cellV (i := 0) rfl, (K15.out.belowS HBW.out).cellV (i := 1) rfl⟩
              clear hK K
              refine Tr.take_at 34 117 (.bool false) rfl rfl (by kernel_rfl) (by kernel_rfl) (by kernel_rfl) (fun _ _ _ h => h) (Or.inl ⟨by rfl, ?_⟩) (by assumption) ?_
              · intro W0 hSw
                (try dsimp only at hSw)
                go_simp
              simp only [List.set_cons_zero, List.set_cons_succ]
              refine Tr.take_at 35 118 (.bool false) rfl rfl (by kernel_rfl) (by kernel_rfl) (by kernel_rfl) (fun _ _ _ h => h) (Or.inl ⟨by rfl, ?_⟩) (by assumption) ?_
              · intro W0 hSw
                (try dsimp only at hSw)
                go_simp
              simp only [List.set_cons_zero, List.set_cons_succ]
              refine Tr.take_at 36 119 (.bool false) rfl rfl (by kernel_rfl) (by kernel_rfl) (by kernel_rfl) (fun _ _ _ h => h) (Or.inl ⟨by rfl, ?_⟩) (by assumption) ?_
              · intro W0 hSw
                (try dsimp only at hSw)
                go_simp
              simp only [List.set_cons_zero, List.set_cons_succ]
              refine Tr.take_at 37 120 (.agg #[.slice Av k cv, .map mv]) rfl rfl (by kernel_rfl) (by kernel_rfl) (by kernel_rfl) (fun _ _ _ h => h) (Or.inl ⟨by rfl, ?_⟩) (by assumption) ?_
              · intro W0 hSw
                (try dsimp only at hSw)
                go_simp
              simp only [List.set_cons_zero, List.set_cons_succ]
              refine Tr.take_at 38 121 (.int .i64 j) rfl rfl (by kernel_rfl) (by kernel_rfl) (by kernel_rfl) (fun _ _ _ h => h) (Or.inl ⟨by rfl, ?_⟩) (by assumption) ?_
              · intro W0 hSw
                (try dsimp only at hSw)
                go_simp
              simp only [List.set_cons_zero, List.set_cons_succ]
              refine wpAnyH_ready (rs := [39]) (by kernel_rfl) (by simp) ?_
              refine AllReadyH.cons rfl (fun K hK => ?_) AllReadyH.nil
              go_simp
              refine (id_b (j : Int) _ hids).mono ?_
              rintro e wd39 ⟨rfl, hbA⟩
              replace HBW := Lib.hid (bstep HBW.out hbA)
              clear hbA
              go_simp
              refine hK.out _ _ ?_ (fun hHeld => ?_)
              · (try dsimp only)
                exact ⟨(K14.out.belowS HBW.out).cellV (i := 0) rfl, (K14.out.belowS HBW.out).cellV (i := 1) rfl, (K15.out.belowS HBW.out).cellV (i := 0) rfl, (K15.out.belowS HBW.out).cellV (i := 1) rfl⟩
              clear hK K
              refine wpAnyH_ready (rs := [40]) (by kernel_rfl) (by simp) ?_
              refine AllReadyH.cons rfl (fun K hK => ?_) AllReadyH.nil
              go_simp
              refine ((HS.out.below HBW.out).clip (idW j) HIW.out).mono ?_
              rintro e wd40 ⟨u40, out40, rfl, hro, hpo, _, _, hbA⟩
              have hout := none_empty hro (fun x y => by rw [hpo]; exact HNO.out _ _)
              obtain ⟨Ao40, co40, rfl, _⟩ := hro
              subst hout
              clear hpo
              replace HBW := Lib.hid (bstep HBW.out hbA)
              clear hbA
              go_simp
              refine hK.out _ _ ?_ (fun hHeld => ?_)
              · (try dsimp only)
                exact ⟨(K14.out.belowS HBW.out).cellV (i := 0) rfl, (K14.out.belowS HBW.out).cellV (i := 1) rfl, (K15.out.belowS HBW.out).cellV (i := 0) rfl, (K15.out.belowS HBW.out).cellV (i := 1) rfl⟩
              clear hK K
              refine wpAnyH_ready (rs := [41]) (by kernel_rfl) (by simp) ?_
              refine AllReadyH.cons rfl (fun K hK => ?_) AllReadyH.nil
              go_simp
              refine (empty_any Ao40 _ co40 _).mono ?_
              rintro e wd41 ⟨rfl, hbA⟩
              replace HBW := Lib.hid (bstep HBW.out hbA)
              clear hbA
              go_simp
              refine hK.out _ _ ?_ (fun hHeld => ?_)
              · (try dsimp only)
                exact ⟨(K14.out.belowS HBW.out).cellV (i := 0) rfl, (K14.out.belowS HBW.out).cellV (i := 1) rfl, (K15.out.belowS HBW.out).cellV (i := 0) rfl, (K15.out.belowS HBW.out).cellV (i := 1) rfl⟩
              clear hK K
              refine Tr.take_at 42 125 (.bool false) rfl rfl (by kernel_rfl) (by kernel_rfl) (by kernel_rfl) (fun _ _ _ h => h) (Or.inl ⟨by rfl, ?_⟩) (by assumption) ?_
              · intro W0 hSw
                (try dsimp only at hSw)
                go_simp
              simp only [List.set_cons_zero, List.set_cons_succ]
              refine Tr.take_at 43 126 (.bool false) rfl rfl (by kernel_rfl) (by kernel_rfl) (by kernel_rfl) (fun _ _ _ h => h) (Or.inl ⟨by rfl, ?_⟩) (by assumption) ?_
              · intro W0 hSw
                (try dsimp only at hSw)
                go_simp
              simp only [List.set_cons_zero, List.set_cons_succ]
              refine Tr.take_at 44 127 (.bool false) rfl rfl (by kernel_rfl) (by kernel_rfl) (by kernel_rfl) (fun _ _ _ h => h) (Or.inl ⟨by rfl, ?_⟩) (by assumption) ?_
              · intro W0 hSw
                (try dsimp only at hSw)
                go_simp
              simp only [List.set_cons_zero, List.set_cons_succ]
              refine Tr.take_at 45 128 (.bool false) rfl rfl (by kernel_rfl) (by kernel_rfl) (by kernel_rfl) (fun _ _ _ h => h) (Or.inl ⟨by rfl, ?_⟩) (by assumption) ?_
              · intro W0 hSw
                (try dsimp only at hSw)
                go_simp
              simp only [List.set_cons_zero, List.set_cons_succ]
              refine wpAnyH_done (by kernel_rfl) ?_ _
              refine NoPanic.normal ?_
              go_wp2_with fail
              go_roundw
              case rel => exact ⟨j + 1, by go_num, by have := HJ.out; omega, bstep HBR.out HBW.out⟩
              case measure => simp [intOf]; omega
        · obtain rfl : j = l.length := by omega
          have j1 : ¬ (l.length : Int) < (l.length : Int) := by omega
          have HLR := Lib.hid (show lastE (esS RW RH l) 1 ≠ none ∧ (lastE (esS RW RH l) 1).isSome = true by
            have h1 := look_S (RW := RW) (RH := RH) HUP.out (i := -1) (by omega) (by omega)
            rw [idW_root, vw_root (nodesW_ok HUP.out)] at h1
            exact ⟨fun e => (by rw [e] at h1; cases h1), h1⟩)
          have HOR := Lib.hid (show ogV (esS RW RH l) og 1 = (0, 0) by
            unfold ogV
            rw [HLR.out.2, if_pos rfl]
            have h1 := HS.out.org (-1) (by omega) (by omega)
            rw [idW_root, orgN_root (nodesW_ok HUP.out)] at h1
            exact h1)
          clear HBR
          have d0 := K14.out.cellV (i := 0) (v := .slice Av k cv) rfl
          have d1 := K14.out.cellV (i := 1) (v := .map mv) rfl
          go_wp2_with fail
          have ho := vorigin_any 1 (by decide) HV.out
          rw [HOR.out, HLR.out.2] at ho
          refine ho.mono ?_
          clear ho
          rintro e w20 ⟨rfl, hb20⟩
          clear d0 d1
          replace HS := Lib.hid (HS.out.below hb20)
          replace HV := Lib.hid (HV.out.below hb20)
          replace HT := Lib.hid (HT.out.below hb20)
          replace HL := Lib.hid (HL.out.below hb20)
          replace K11 := Lib.hid (K11.out.belowS hb20)
          replace HB := Lib.hid (bstep HB.out hb20)
          replace K14 := Lib.hid (K14.out.belowS hb20)
          replace HR6 := Lib.hid (HR6.out.below hb20)
          replace HR7 := Lib.hid (HR7.out.below hb20)
          clear hb20
          go_upto_region 25 with fail
          have hba := bal (bre w20) (.cells #[.int .i64 0, .int .i64 0] 53)
          have xHS := HS.out.below hba
          have xHV := HV.out.below hba
          have xHT := HT.out.below hba
          have xHL := HL.out.below hba
          have xK11 := K11.out.belowS hba
          have xHB := bal HB.out (.cells #[.int .i64 0, .int .i64 0] 53)
          have xK14 := K14.out.belowS hba
          have xHR6 := HR6.out.below hba
          have xHR7 := HR7.out.below hba
          have xK17 := Blk.new w20 53 #[.int .i64 0, .int .i64 0]
          obtain ⟨X20, hX20⟩ : ∃ X20, w20.alloc (.cells #[.int .i64 0, .int .i64 0] 53) = X20 := ⟨_, rfl⟩
          rw [hX20] at xHS xHV xHT xHL xK11 xHB xK14 xHR6 xHR7 xK17 ⊢
          replace HS := Lib.hid xHS
          replace HV := Lib.hid xHV
          replace HT := Lib.hid xHT
          replace HL := Lib.hid xHL
          replace K11 := Lib.hid xK11
          replace HB := Lib.hid xHB
          replace K14 := Lib.hid xK14
          replace HR6 := Lib.hid xHR6
          replace HR7 := Lib.hid xHR7
          have K17 := Lib.hid xK17
          clear hba hX20 xHS xHV xHT xHL xK11 xHB xK14 xHR6 xHR7 xK17
          have d0 := K14.out.cellV (i := 0) (v := .slice Av k cv) rfl
          have d1 := K14.out.cellV (i := 1) (v := .map mv) rfl
          have p0 := K17.out.cellV (i := 0) (v := .int .i64 0) rfl
          have p1 := K17.out.cellV (i := 1) (v := .int .i64 0) rfl
          go_wp2_with fail
          have hv9 := vviewable_any 1 (by decide) HV.out
          rw [HLR.out.2] at hv9
          refine hv9.mono ?_
          clear hv9
          rintro e w21 ⟨rfl, hb21⟩
          clear d0 d1 p0 p1
          replace HS := Lib.hid (HS.out.below hb21)
          replace HV := Lib.hid (HV.out.below hb21)
          replace HT := Lib.hid (HT.out.below hb21)
          replace HL := Lib.hid (HL.out.below hb21)
          replace K11 := Lib.hid (K11.out.belowS hb21)
          replace HB := Lib.hid (bstep HB.out hb21)
          replace K14 := Lib.hid (K14.out.belowS hb21)
          replace HR6 := Lib.hid (HR6.out.below hb21)
          replace HR7 := Lib.hid (HR7.out.below hb21)
          replace K17 := Lib.hid (K17.out.belowS hb21)
          clear hb21
          have d0 := K14.out.cellV (i := 0) (v := .slice Av k cv) rfl
          have d1 := K14.out.cellV (i := 1) (v := .map mv) rfl
          have p0 := K17.out.cellV (i := 0) (v := .int .i64 0) rfl
          have p1 := K17.out.cellV (i := 1) (v := .int .i64 0) rfl
          go_wp2_with fail
          refine (awake31_any _).mono ?_
          rintro e w22 ⟨rfl, hb22⟩
          have HB2 := Lib.hid (bstep HB.out hb22)
          clear hb22
          go_wp2_with fail
          go_ret
          exact ⟨rfl, HB2.out⟩
end Go.Proofs.YtbkkecijcijhdaaGreat
end
