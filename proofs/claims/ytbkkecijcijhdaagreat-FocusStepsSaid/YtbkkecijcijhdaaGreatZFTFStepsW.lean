/-
  The walk of the law FocusSteps.
-/
import Derived.Test.YtbkkecijcijhdaaGreatZF34
import Derived.Test.YtbkkecijcijhdaaGreatZFTStepL
import Derived.Deep.CutBlock
section
namespace Go.Proofs.YtbkkecijcijhdaaGreat
open Go.RowKit Go.Maps Go.Shelf

attribute [local go_sem ↓] run_neq_st
theorem hasW_zero (l : List DW) : hasN (nodesW l) 0 = false := by
  cases h : hasN (nodesW l) 0 with
  | false => rfl
  | true =>
    obtain ⟨n, h1, h2, h3⟩ := hasW_inv h
    unfold idW at h3
    split at h3 <;> omega
theorem own_few {w : World} {base e size n : Nat} {v : Value} {xs : List Value} (h : w.ownsRow base e size v n xs) : n ≤ maxLen := by
  rcases h.2 with ⟨_, rfl⟩ | ⟨g, cap, cur, _, _, _, h1, h2, _⟩
  · simp
  · omega
theorem SPs_at {l : List SP} {k : Nat} {s : SP} (h : l[k]? = some s) : (SPs l)[k * 3 + 0]? = some (.int .u32 s.I) ∧ (SPs l)[k * 3 + 1]? = some (.bool s.E) ∧ (SPs l)[k * 3 + 2]? = some (.int .i64 s.D) :=
  ⟨flat_get SP.cells 3 SP.cells_len l k s 0 h (by decide), flat_get SP.cells 3 SP.cells_len l k s 1 h (by decide), flat_get SP.cells 3 SP.cells_len l k s 2 h (by decide)⟩
set_option maxRecDepth 100000 in
set_option maxHeartbeats 8000000 in
theorem focusSteps_any (A : Option Addr) (n c : Nat) (fs : List FW) (fr tt : Int) (w : World) (hn : n ≤ maxLen) (hr : RdF FW.cells 3 w A n fs) (hok : ∀ f ∈ fs, f.ok) (hfr : 0 ≤ fr ∧ fr ≤ 4294967295) (htt : 0 ≤ tt ∧ tt ≤ 4294967295) :
    Calls Tryz.prog 19 #[.slice A n c, .int .u32 fr, .int .u32 tt] w fun e w' => e = .returned (.bool true) ∧ Below w.heap.size w w' := by
  have HN := Lib.hid hn
  have HR := Lib.hid hr
  have HOK := Lib.hid hok
  have HFR := Lib.hid hfr
  have HTO := Lib.hid htt
  clear hfr htt
  clear hn hr hok
  go_enter Tryz.func19, Tryz.ntmps19
  go_upto_region 1 with fail
  have HB := Lib.hid (bre w)
  go_wp2_with fail
  by_cases h10 : n ≤ 10
  case neg =>
    refine (made37_many A n c _ (by omega) HN.out).mono ?_
    rintro e w1 ⟨rfl, hb1⟩
    have HB1 := Lib.hid (bstep HB.out hb1)
    clear hb1
    go_wp2_with fail
    refine (awake37_any _).mono ?_
    rintro e w2 ⟨rfl, hb2⟩
    have HB2 := Lib.hid (bstep (bal (bal HB1.out (.cells #[.map none, .map none] 34)) (.cells #[.slice none 0 0, .map none] 43)) hb2)
    clear hb2
    go_wp2_with fail
    go_ret
    exact ⟨rfl, HB2.out⟩
  refine (made37_any A n c fs _ h10 (HR.out.below HB.out) HOK.out).mono ?_
  rintro e w1 ⟨mk, mu, nk, fk, v, og, v9, rfl, ht, hv, ho9, hb⟩
  obtain ⟨Av, nv, cv, mv, rfl⟩ := hv.form
  obtain ⟨A9, c9, rfl, _⟩ := own_form ho9
  obtain ⟨n9, h9⟩ : ∃ q, (shL (dwsF fs) n).length = q := ⟨_, rfl⟩
  have hSH := shL_len (l := dwsF fs) n
  rw [h9] at ho9 hSH ⊢
  have hLN : (dwsF fs).length = n := by rw [dwsF_len]; exact HR.out.1
  have HUP := Lib.hid (dwsF_up HOK.out)
  have hba := bal (bal (bre w1) (.cells #[.map mk, .map mu] 34)) (.cells #[.slice Av nv cv, .map mv] 43)
  have xT := ht.below hba
  have xV := hv.below hba
  have xR9 := (Rd.of_own ho9).below hba
  have xK7 := (Blk.new w1 34 #[.map mk, .map mu]).alloc (.cells #[.slice Av nv cv, .map mv] 43)
  have xK8 := blk_new2 w1 (.cells #[.map mk, .map mu] 34) 43 #[.slice Av nv cv, .map mv]
  have xB := bstep (bstep HB.out hb) hba
  rw [← hLN] at xR9 hSH
  obtain ⟨l, hl⟩ : ∃ l, dwsF fs = l := ⟨_, rfl⟩
  rw [hl] at xT xV xR9 HUP hLN hSH
  have HLN := Lib.hid hLN
  have HTK := Lib.hid (nodesW_ok HUP.out)
  clear ht hv ho9 hb hba hLN
  try rw [hl]
  go_upto_region 2 with fail
  obtain ⟨X1, hX1⟩ : ∃ X1, (w1.alloc (.cells #[.map mk, .map mu] 34)).alloc (.cells #[.slice Av nv cv, .map mv] 43) = X1 := ⟨_, rfl⟩
  rw [hX1] at xT xV xR9 xK7 xK8 xB ⊢
  have HT := Lib.hid xT
  have HV := Lib.hid xV
  have HR9 := Lib.hid xR9
  have K7 := Lib.hid xK7
  have K8 := Lib.hid xK8
  replace HB := Lib.hid xB
  have HSHL := Lib.hid hSH
  clear xT xV xR9 xK7 xK8 xB hX1 hl hSH h9
  go_upto_region 4 with fail
  have a0 := K7.out.cellV (i := 0) (v := .map mk) rfl
  have a1 := K7.out.cellV (i := 1) (v := .map mu) rfl
  go_wp2_with fail
  refine (steps37_any fr tt HFR.out HTO.out HT.out HTK.out).mono ?_
  rintro e w2 ⟨u, rfl, ho, hb2⟩
  obtain ⟨A1, c1, rfl, hc1⟩ := own_form ho
  have HS1 := Lib.hid (RdF.of_own SP.cells_len ho rfl)
  clear ho hc1 a0 a1
  replace HT := Lib.hid (HT.out.below hb2)
  replace HV := Lib.hid (HV.out.below hb2)
  replace HR9 := Lib.hid (HR9.out.below hb2)
  replace K7 := Lib.hid (K7.out.belowS hb2)
  replace K8 := Lib.hid (K8.out.belowS hb2)
  replace HB := Lib.hid (bstep HB.out hb2)
  clear hb2
  have a0 := K7.out.cellV (i := 0) (v := .map mk) rfl
  have a1 := K7.out.cellV (i := 1) (v := .map mu) rfl
  go_upto_region 6 with fail
  obtain ⟨X2, hX2⟩ : ∃ X2, X2 = w2 := ⟨_, rfl⟩
  subst hX2
  go_cut [13, 14] from 97 (fun s13 s14 wx => s13 = .bool (hasN (nodesW l) fr) ∧ s14 = .bool (hasN (nodesW l) tt) ∧ Below X2.heap.size X2 wx)
  case first =>
    as_aux_lemma =>
      have hz := hasW_zero l
      by_cases f0 : fr = 0
      · have e1 : (fr != 0) = false := by simp [f0]
        have F0 := Lib.hid f0
        clear f0
        by_cases t0 : tt = 0
        · have e2 : (tt != 0) = false := by simp [t0]
          have T0 := Lib.hid t0
          clear t0
          go_wp2_with fail
          go_meet
          exact ⟨by rw [F0.out, hz], by rw [T0.out, hz], bre _⟩
        · have e2 : (tt != 0) = true := by simp [t0]
          go_wp2_with fail
          refine (has_any _ (nodesW l) mk mu nk fk tt _ HTO.out HT.out).mono ?_
          rintro e w3 ⟨rfl, hb3⟩
          have HB3 := Lib.hid hb3
          clear hb3
          go_wp2_with fail
          go_meet
          exact ⟨by rw [F0.out, hz], rfl, HB3.out⟩
      · have e1 : (fr != 0) = true := by simp [f0]
        go_wp2_with fail
        refine (has_any _ (nodesW l) mk mu nk fk fr _ HFR.out HT.out).mono ?_
        rintro e w3 ⟨rfl, hb3⟩
        have HB3 := Lib.hid hb3
        clear hb3 a0 a1
        have a0 := (K7.out.belowS HB3.out).cellV (i := 0) (v := .map mk) rfl
        have a1 := (K7.out.belowS HB3.out).cellV (i := 1) (v := .map mu) rfl
        by_cases t0 : tt = 0
        · have e2 : (tt != 0) = false := by simp [t0]
          have T0 := Lib.hid t0
          clear t0
          go_wp2_with fail
          go_meet
          exact ⟨rfl, by rw [T0.out, hz], HB3.out⟩
        · have e2 : (tt != 0) = true := by simp [t0]
          go_wp2_with fail
          refine (has_any _ (nodesW l) mk mu nk fk tt _ HTO.out (HT.out.below HB3.out)).mono ?_
          rintro e w4 ⟨rfl, hb4⟩
          have HB4 := Lib.hid (bstep HB3.out hb4)
          clear hb4
          go_wp2_with fail
          go_meet
          exact ⟨rfl, rfl, HB4.out⟩
  obtain ⟨rfl, rfl, hbc⟩ := hcut
  clear a0 a1
  replace HT := Lib.hid (HT.out.below hbc)
  replace HV := Lib.hid (HV.out.below hbc)
  replace HR9 := Lib.hid (HR9.out.below hbc)
  replace K7 := Lib.hid (K7.out.belowS hbc)
  replace K8 := Lib.hid (K8.out.belowS hbc)
  replace HB := Lib.hid (bstep HB.out hbc)
  replace HS1 := Lib.hid (HS1.out.below hbc)
  clear hbc
  have a0 := K7.out.cellV (i := 0) (v := .map mk) rfl
  have a1 := K7.out.cellV (i := 1) (v := .map mu) rfl
  obtain ⟨X3, hX3⟩ : ∃ X3, X3 = wc := ⟨_, rfl⟩
  subst hX3
  obtain ⟨S, hS⟩ : ∃ S, steps37 (nodesW l) fr tt = S := ⟨_, rfl⟩
  have HSE := Lib.hid hS
  have xS := HS1.out
  rw [hS] at xS ⊢
  replace HS1 := Lib.hid xS
  clear xS hS
  go_upto_block 0 with fail
  obtain ⟨p, hp⟩ : ∃ p, hasN (nodesW l) fr = p := ⟨_, rfl⟩
  obtain ⟨q, hq⟩ : ∃ q, hasN (nodesW l) tt = q := ⟨_, rfl⟩
  rw [hp, hq]
  have HP := Lib.hid hp
  have HQ := Lib.hid hq
  clear hp hq
  go_cut [12] from 97 (fun s12 wx => ∃ (A2 : Option Addr) (c2 : Nat), S.length ≤ maxLen ∧ s12 = .slice A2 S.length c2 ∧ RdF SP.cells 3 wx A2 S.length S ∧ Below X3.heap.size X3 wx)
  case first =>
    as_aux_lemma =>
      have hse := HSE.out
      unfold steps37 at hse
      rw [HP.out, HQ.out] at hse
      cases p <;> cases q <;> dsimp only at hse
      · rw [ite_self] at hse
        go_wp2_with fail
        go_meet
        exact ⟨none, 0, by rw [← hse]; simp, by rw [← hse]; rfl, by rw [← hse]; exact ⟨rfl, fun h => absurd h (by simp)⟩, bre _⟩
      · have hne : ¬ fr = tt := fun h => by have h1 := HP.out; rw [h, HQ.out] at h1; cases h1
        rw [if_neg hne] at hse
        go_wp2_with fail
        go_meet
        exact ⟨some ⟨X3.heap.size, 0, none⟩, 1, by rw [← hse]; simp [maxLen], by rw [← hse]; rfl, by rw [← hse]; exact RdF.of_blk (f := SP.cells) (l := [⟨tt, true, 3⟩]) (n := 1) (m := 3) SP.cells_len (Blk.new X3 148 #[.int .u32 tt, .bool true, .int .i64 3]) rfl, bal (bre _) _⟩
      · have hne : ¬ fr = tt := fun h => by have h1 := HP.out; rw [h, HQ.out] at h1; cases h1
        rw [if_neg hne] at hse
        go_wp2_with fail
        go_meet
        exact ⟨some ⟨X3.heap.size, 0, none⟩, 1, by rw [← hse]; simp [maxLen], by rw [← hse]; rfl, by rw [← hse]; exact RdF.of_blk (f := SP.cells) (l := [⟨fr, false, 3⟩]) (n := 1) (m := 3) SP.cells_len (Blk.new X3 148 #[.int .u32 fr, .bool false, .int .i64 3]) rfl, bal (bre _) _⟩
      · by_cases hne : fr = tt
        · rw [if_pos hne] at hse
          have e1 : (fr != tt) = false := by simp [hne]
          go_wp2_with fail
          go_meet
          exact ⟨none, 0, by rw [← hse]; simp, by rw [← hse]; rfl, by rw [← hse]; exact ⟨rfl, fun h => absurd h (by simp)⟩, bre _⟩
        · rw [if_neg hne] at hse
          have e1 : (fr != tt) = true := by simp [hne]
          go_wp2_with fail
          refine (path36_any fr tt HFR.out HTO.out HT.out HTK.out).mono ?_
          rintro e w5 ⟨u, rfl, ho, hb5⟩
          obtain ⟨A2, c2, rfl, _⟩ := own_form ho
          have HB5 := Lib.hid hb5
          have HO := Lib.hid (RdF.of_own SP.cells_len ho rfl)
          have HOM := Lib.hid (own_few ho)
          clear ho hb5
          rw [hse] at HO HOM ⊢
          go_wp2_with fail
          go_meet
          exact ⟨A2, c2, HOM.out, rfl, HO.out, HB5.out⟩
  obtain ⟨A2, c2, hNM, rfl, hs2, hbc⟩ := hcut
  have HS2 := Lib.hid hs2
  clear hs2 a0 a1
  replace HT := Lib.hid (HT.out.below hbc)
  replace HV := Lib.hid (HV.out.below hbc)
  replace HR9 := Lib.hid (HR9.out.below hbc)
  replace K7 := Lib.hid (K7.out.belowS hbc)
  replace K8 := Lib.hid (K8.out.belowS hbc)
  replace HB := Lib.hid (bstep HB.out hbc)
  replace HS1 := Lib.hid (HS1.out.below hbc)
  clear hbc
  obtain ⟨N, hN⟩ : ∃ N, S.length = N := ⟨_, rfl⟩
  have HLS := Lib.hid hN
  have x1 := HS1.out
  have x2 := HS2.out
  rw [hN] at x1 x2 hNM ⊢
  replace HS1 := Lib.hid x1
  replace HS2 := Lib.hid x2
  have HNM := Lib.hid (show N ≤ maxLen from hNM)
  clear x1 x2 hN hNM
  obtain ⟨X4, hX4⟩ : ∃ X4, X4 = wc := ⟨_, rfl⟩
  subst hX4
  have e0 : ((N : Int) != (N : Int)) = false := by simp
  go_wp2_with fail
  go_loopw [83, 15] (fun i _ wr => ∃ k : Nat, i = .int .i64 k ∧ k ≤ N ∧ Below X4.heap.size X4 wr) (fun i _ _ => N - (intOf i).toNat)
  case atStart => exact ⟨0, rfl, by omega, bre _⟩
  case round =>
    obtain ⟨k, rfl, hk, hbr⟩ := hrel
    have HBR := Lib.hid hbr
    have hnm := HNM.out
    simp only [maxLen] at hnm
    by_cases hlt : k < N
    · obtain ⟨s, hs⟩ : ∃ s, S[k]? = some s := ⟨_, List.getElem?_eq_getElem (by have := HLS.out; omega)⟩
      obtain ⟨b, o, rfl, hb, hcl⟩ := (HS1.out.below hbr).2 (by omega)
      obtain ⟨b', o', rfl, hb', hcl'⟩ := (HS2.out.below hbr).2 (by omega)
      have x0 : wr.cell? ⟨b, o + k * 3, none⟩ = some (.int .u32 s.I) := hcl k s hs 0 _ rfl
      have x1 : wr.cell? ⟨b, o + k * 3 + 1, none⟩ = some (.bool s.E) := hcl k s hs 1 _ rfl
      have x2 : wr.cell? ⟨b, o + k * 3 + 2, none⟩ = some (.int .i64 s.D) := hcl k s hs 2 _ rfl
      have y0 : wr.cell? ⟨b', o' + k * 3, none⟩ = some (.int .u32 s.I) := hcl' k s hs 0 _ rfl
      have y1 : wr.cell? ⟨b', o' + k * 3 + 1, none⟩ = some (.bool s.E) := hcl' k s hs 1 _ rfl
      have y2 : wr.cell? ⟨b', o' + k * 3 + 2, none⟩ = some (.int .i64 s.D) := hcl' k s hs 2 _ rfl
      have k1 : (k : Int) < (N : Int) := by omega
      have k0 : (0 : Int) ≤ (k : Int) := by omega
      clear hbr hs hcl hcl'
      go_wp2_with fail
      go_quiet (fail)
      go_wp2_with fail
      go_roundw
      case rel => exact ⟨k + 1, by go_num, by omega, below_drewN HBR.out _⟩
      case measure => simp [intOf]; omega
    · obtain rfl : k = N := by omega
      clear hbr
      have k1 : ¬ (k : Int) < (k : Int) := by omega
      go_wp2_with fail
      refine (awake37_any _).mono ?_
      rintro e w9 ⟨rfl, hb9⟩
      have HB9 := Lib.hid hb9
      clear hb9
      go_wp2_with fail
      go_ret
      exact ⟨rfl, bstep (bstep HB.out HBR.out) HB9.out⟩
end Go.Proofs.YtbkkecijcijhdaaGreat
end
