/-
  The walk of the law FocusWays.
-/
import Derived.Test.YtbkkecijcijhdaaGreatZF34
import Derived.Test.YtbkkecijcijhdaaGreatZF35
import Derived.Test.YtbkkecijcijhdaaGreatZF33
section
namespace Go.Proofs.YtbkkecijcijhdaaGreat
open Go.RowKit Go.Maps Go.Shelf

theorem way_last (f : FC) (p : List Int) (has : Bool) (q : Nat) (h : (wayF f p has).length = q + 1) : (wayF f p has)[q]? = some f.W := by
  unfold wayF at h ⊢
  split at h
  · simp at h
  · rename_i h0
    rw [if_neg h0]
    split at h
    · rename_i h1
      rw [if_pos h1]
      rw [List.length_append, List.length_singleton] at h
      rw [List.getElem?_append_right (by omega), show q - (cutU p f.W).length = 0 by omega]
      rfl
    · rename_i h1
      rw [if_neg h1]
      simp at h
      subst h
      rfl
theorem way_len (f : FC) (p : List Int) (has : Bool) : (wayF f p has).length ≤ p.length + 1 := by
  unfold wayF
  split
  · simp
  · split
    · rw [List.length_append, List.length_singleton]
      have : (cutU p f.W).length ≤ p.length := (List.takeWhile_sublist _).length_le
      omega
    · simp
set_option maxRecDepth 100000 in
set_option maxHeartbeats 8000000 in
theorem focusWays_any (A : Option Addr) (n c : Nat) (fs : List FW) (f : FC) (un : Int) (w : World) (hn : n ≤ maxLen) (hr : RdF FW.cells 3 w A n fs) (hok : ∀ f ∈ fs, f.ok) (hf : f.ok) (hun : 0 ≤ un ∧ un ≤ 4294967295) :
    Calls Tryz.prog 15 #[.slice A n c, f.v, .int .u32 un] w fun e w' => e = .returned (.bool true) ∧ Below w.heap.size w w' := by
  have HN := Lib.hid hn
  have HR := Lib.hid hr
  have HOK := Lib.hid hok
  have HF := Lib.hid hf
  have HUN := Lib.hid hun
  clear hun
  clear hn hr hok hf
  go_enter Tryz.func15, Tryz.ntmps15
  go_upto_region 1 with fail
  have xK := Blk.new w 122 #[.int .u32 f.W, .int .i64 f.R, .int .u32 f.T]
  have xB := bal (bre w) (.cells #[.int .u32 f.W, .int .i64 f.R, .int .u32 f.T] 122)
  obtain ⟨X0, hX0⟩ : ∃ X0, w.alloc (.cells #[.int .u32 f.W, .int .i64 f.R, .int .u32 f.T] 122) = X0 := ⟨_, rfl⟩
  rw [hX0] at xK xB ⊢
  have Kf := Lib.hid xK
  have HB := Lib.hid xB
  clear xK xB hX0
  go_wp2_with fail
  by_cases h10 : n ≤ 10
  case neg =>
    refine (made37_many A n c _ (by omega) HN.out).mono ?_
    rintro e w1 ⟨rfl, hb1⟩
    have HB1 := Lib.hid (bstep HB.out hb1)
    clear hb1
    go_wp2_with fail
    refine (awake37_any _).mono ?_
    rintro e w2 ⟨rfl, hb2⟩
    have HB2 := Lib.hid (bstep (bal (bal HB1.out (.cells #[.map none, .map none] 34)) (.cells #[.slice none 0 0, .map none] 43)) hb2)
    clear hb2
    go_wp2_with fail
    go_ret
    exact ⟨rfl, HB2.out⟩
  refine (made37_any A n c fs _ h10 (HR.out.below HB.out) HOK.out).mono ?_
  rintro e w1 ⟨mk, mu, nk, fk, v, og, v9, rfl, ht, hv, ho9, hb⟩
  obtain ⟨Av, nv, cv, mv, rfl⟩ := hv.form
  obtain ⟨A9, c9, rfl, _⟩ := own_form ho9
  obtain ⟨n9, h9⟩ : ∃ q, (shL (dwsF fs) n).length = q := ⟨_, rfl⟩
  have hSH := shL_len (l := dwsF fs) n
  rw [h9] at ho9 hSH ⊢
  have hLN : (dwsF fs).length = n := by rw [dwsF_len]; exact HR.out.1
  have HUP := Lib.hid (dwsF_up HOK.out)
  have hba := bal (bal (bre w1) (.cells #[.map mk, .map mu] 34)) (.cells #[.slice Av nv cv, .map mv] 43)
  have xT := ht.below hba
  have xV := hv.below hba
  have xR9 := (Rd.of_own ho9).below hba
  have xK7 := (Blk.new w1 34 #[.map mk, .map mu]).alloc (.cells #[.slice Av nv cv, .map mv] 43)
  have xK8 := blk_new2 w1 (.cells #[.map mk, .map mu] 34) 43 #[.slice Av nv cv, .map mv]
  have xB := bstep (bstep HB.out hb) hba
  have xKf := (Kf.out.belowS hb).belowS hba
  rw [← hLN] at xR9 hSH
  obtain ⟨l, hl⟩ : ∃ l, dwsF fs = l := ⟨_, rfl⟩
  rw [hl] at xT xV xR9 HUP hLN hSH
  have HLN := Lib.hid hLN
  have HTK := Lib.hid (nodesW_ok HUP.out)
  clear ht hv ho9 hb hba hLN
  try rw [hl]
  go_upto_region 2 with fail
  obtain ⟨X1, hX1⟩ : ∃ X1, (w1.alloc (.cells #[.map mk, .map mu] 34)).alloc (.cells #[.slice Av nv cv, .map mv] 43) = X1 := ⟨_, rfl⟩
  rw [hX1] at xT xV xR9 xK7 xK8 xB xKf ⊢
  have HT := Lib.hid xT
  have HV := Lib.hid xV
  have HR9 := Lib.hid xR9
  have K7 := Lib.hid xK7
  have K8 := Lib.hid xK8
  replace HB := Lib.hid xB
  replace Kf := Lib.hid xKf
  have HSHL := Lib.hid hSH
  clear xT xV xR9 xK7 xK8 xB xKf hX1 hl hSH h9
  go_upto_region 4 with fail
  have a0 := Kf.out.cellV (i := 0) (v := .int .u32 f.W) rfl
  have a1 := Kf.out.cellV (i := 1) (v := .int .i64 f.R) rfl
  have a2 := Kf.out.cellV (i := 2) (v := .int .u32 f.T) rfl
  have b0 := K7.out.cellV (i := 0) (v := .map mk) rfl
  have b1 := K7.out.cellV (i := 1) (v := .map mu) rfl
  go_wp2_with fail
  refine (way_any f HF.out un HUN.out HT.out HTK.out).mono ?_
  rintro e w2 ⟨u, rfl, ho, hb2⟩
  obtain ⟨P, hP⟩ : ∃ P, pathN (nodesW l) un = P := ⟨_, rfl⟩
  have HPL := Lib.hid (show P.length ≤ 1001 by rw [← hP]; have := path_len HTK.out un; have := HT.out.few; omega)
  have HPP := Lib.hid hP
  rw [hP] at ho
  obtain ⟨wq, hwq⟩ : ∃ wq, wayF f P (hasN (nodesW l) f.W) = wq := ⟨_, rfl⟩
  have HWL := Lib.hid (show wq.length ≤ 1002 by rw [← hwq]; have := way_len f P (hasN (nodesW l) f.W); have := HPL.out; omega)
  have HLAST := Lib.hid (show ∀ q, wq.length = q + 1 → wq[q]? = some f.W by rw [← hwq]; exact way_last f P _)
  have HWQ := Lib.hid hwq
  rw [hwq] at ho
  obtain ⟨Aw, cw, rfl, _⟩ := own_form ho
  have HRW := Lib.hid (Rd.of_own ho)
  obtain ⟨nw, hnw⟩ : ∃ nw, wq.length = nw := ⟨_, rfl⟩
  rw [hnw] at HRW HWL ⊢
  have HNW := Lib.hid hnw
  clear ho hP hwq hnw a0 a1 a2 b0 b1
  replace HT := Lib.hid (HT.out.below hb2)
  replace HV := Lib.hid (HV.out.below hb2)
  replace HR9 := Lib.hid (HR9.out.below hb2)
  replace Kf := Lib.hid (Kf.out.belowS hb2)
  replace K7 := Lib.hid (K7.out.belowS hb2)
  replace K8 := Lib.hid (K8.out.belowS hb2)
  replace HB := Lib.hid (bstep HB.out hb2)
  clear hb2
  go_upto_region 5 with fail
  go_cut [42] from 60 (fun s42 wx => s42 = .bool false ∧ Below w2.heap.size w2 wx)
  case first =>
    as_aux_lemma =>
      by_cases h0 : f.W = 0
      · have HWR := Lib.hid (show wayF f P false = wq by rw [← HWQ.out]; unfold wayF; rw [if_pos (.inl h0), if_pos (.inl h0)])
        have h0' : (f.W != 0) = false := by simpa using h0
        clear h0
        have HBW := Lib.hid (show Below w2.heap.size w2 w2.drew from (bre w2).drew)
        refine wp_region_noPanic ?_
        refine wp_region_held_drew (S := (fun w' => w'.cell? ⟨w.heap.size, 0, none⟩ = some (.int .u32 f.W) ∧ w'.cell? ⟨w.heap.size, 1, none⟩ = some (.int .i64 f.R) ∧ w'.cell? ⟨w.heap.size, 2, none⟩ = some (.int .u32 f.T) ∧ w'.cell? ⟨w1.heap.size, 0, none⟩ = some (.map mk) ∧ w'.cell? ⟨w1.heap.size, 1, none⟩ = some (.map mu))) (by kernel_rfl) ?_ (fun hHeld => ?_)
        · (try dsimp only)
          exact ⟨(Kf.out.belowS HBW.out).cellV (i := 0) rfl, (Kf.out.belowS HBW.out).cellV (i := 1) rfl, (Kf.out.belowS HBW.out).cellV (i := 2) rfl, (K7.out.belowS HBW.out).cellV (i := 0) rfl, (K7.out.belowS HBW.out).cellV (i := 1) rfl⟩
        refine Tr.take_at 0 26 (.slice Aw nw cw) rfl rfl (by kernel_rfl) (by kernel_rfl) (by kernel_rfl) (fun _ _ _ h => h) (Or.inl ⟨by rfl, ?_⟩) (by assumption) ?_
        · intro W0 hSw
          (try dsimp only at hSw)
          go_simp
        simp only [List.set_cons_zero, List.set_cons_succ]
        refine Tr.take_at 1 27 (.agg #[.int .u32 f.W, .int .i64 f.R, .int .u32 f.T]) rfl rfl (by kernel_rfl) (by kernel_rfl) (by kernel_rfl) (fun _ _ _ h => h) (Or.inl ⟨by rfl, ?_⟩) (by assumption) ?_
        · intro W0 hSw
          (try dsimp only at hSw)
          go_simp
        simp only [List.set_cons_zero, List.set_cons_succ]
        refine Tr.take_at 2 28 (.agg #[.map mk, .map mu]) rfl rfl (by kernel_rfl) (by kernel_rfl) (by kernel_rfl) (fun _ _ _ h => h) (Or.inl ⟨by rfl, ?_⟩) (by assumption) ?_
        · intro W0 hSw
          (try dsimp only at hSw)
          go_simp
        simp only [List.set_cons_zero, List.set_cons_succ]
        refine Tr.take_at 3 29 (.int .u32 un) rfl rfl (by kernel_rfl) (by kernel_rfl) (by kernel_rfl) (fun _ _ _ h => h) (Or.inl ⟨by rfl, ?_⟩) (by assumption) ?_
        · intro W0 hSw
          (try dsimp only at hSw)
          go_simp
        simp only [List.set_cons_zero, List.set_cons_succ]
        refine Tr.take_at 5 31 (.pointer (some ⟨w.heap.size, 0, none⟩)) rfl rfl (by kernel_rfl) (by kernel_rfl) (by kernel_rfl) (fun _ _ _ h => h) (Or.inl ⟨by rfl, ?_⟩) (by assumption) ?_
        · intro W0 hSw
          (try dsimp only at hSw)
          go_simp
        simp only [List.set_cons_zero, List.set_cons_succ]
        refine Tr.take_at 6 32 (.int .u32 f.W) rfl rfl (by kernel_rfl) (by kernel_rfl) (by kernel_rfl) (fun _ _ _ h => h) (Or.inl ⟨by rfl, ?_⟩) (by assumption) ?_
        · intro W0 hSw
          (try dsimp only at hSw)
          go_simp
        simp only [List.set_cons_zero, List.set_cons_succ]
        refine Tr.take_at 7 33 (.bool false) rfl rfl (by kernel_rfl) (by kernel_rfl) (by kernel_rfl) (fun _ _ _ h => h) (Or.inl ⟨by rfl, ?_⟩) (by assumption) ?_
        · intro W0 hSw
          (try dsimp only at hSw)
          go_simp
        simp only [List.set_cons_zero, List.set_cons_succ]
        refine wpAnyH_ready (rs := [4]) (by kernel_rfl) (by simp) ?_
        refine AllReadyH.cons rfl (fun K hK => ?_) AllReadyH.nil
        go_simp
        refine (path_any (.agg #[.map mk, .map mu]) (nodesW l) mk mu nk fk un _ HUN.out (HT.out.below HBW.out) HTK.out).mono ?_
        rintro e wc4 ⟨u, rfl, ho, hbA⟩
        rw [HPP.out] at ho
        obtain ⟨Ap, cp, rfl, _⟩ := own_form ho
        obtain ⟨np, hnp⟩ : ∃ q, P.length = q := ⟨_, rfl⟩
        have HNP := Lib.hid (show np ≤ 1001 by rw [← hnp]; exact HPL.out)
        rw [hnp] at ho ⊢
        have HRP := Lib.hid (Rd.of_own ho)
        clear ho hnp
        replace HBW := Lib.hid (bstep HBW.out hbA)
        clear hbA
        go_simp
        refine hK.out _ _ ?_ (fun hHeld => ?_)
        · (try dsimp only)
          exact ⟨(Kf.out.belowS HBW.out).cellV (i := 0) rfl, (Kf.out.belowS HBW.out).cellV (i := 1) rfl, (Kf.out.belowS HBW.out).cellV (i := 2) rfl, (K7.out.belowS HBW.out).cellV (i := 0) rfl, (K7.out.belowS HBW.out).cellV (i := 1) rfl⟩
        clear hK K
        refine Tr.take_at 8 34 (.bool false) rfl rfl (by kernel_rfl) (by kernel_rfl) (by kernel_rfl) (fun _ _ _ h => h) (Or.inl ⟨by rfl, ?_⟩) (by assumption) ?_
        · intro W0 hSw
          (try dsimp only at hSw)
          go_simp
        simp only [List.set_cons_zero, List.set_cons_succ]
        refine Tr.take_at 9 35 undef rfl rfl (by kernel_rfl) (by kernel_rfl) (by kernel_rfl) (fun _ _ _ h => h) (Or.inr ⟨by rfl, rfl⟩) (by assumption) ?_
        simp only [List.set_cons_zero, List.set_cons_succ]
        refine Tr.take_at 10 36 undef rfl rfl (by kernel_rfl) (by kernel_rfl) (by kernel_rfl) (fun _ _ _ h => h) (Or.inr ⟨by rfl, rfl⟩) (by assumption) ?_
        simp only [List.set_cons_zero, List.set_cons_succ]
        refine Tr.take_at 11 37 undef rfl rfl (by kernel_rfl) (by kernel_rfl) (by kernel_rfl) (fun _ _ _ h => h) (Or.inr ⟨by rfl, rfl⟩) (by assumption) ?_
        simp only [List.set_cons_zero, List.set_cons_succ]
        refine Tr.take_at 12 38 undef rfl rfl (by kernel_rfl) (by kernel_rfl) (by kernel_rfl) (fun _ _ _ h => h) (Or.inr ⟨by rfl, rfl⟩) (by assumption) ?_
        simp only [List.set_cons_zero, List.set_cons_succ]
        refine Tr.take_at 13 39 (.bool false) rfl rfl (by kernel_rfl) (by kernel_rfl) (by kernel_rfl) (fun _ _ _ h => h) (Or.inl ⟨by rfl, ?_⟩) (by assumption) ?_
        · intro W0 hSw
          (try dsimp only at hSw)
          go_simp
        simp only [List.set_cons_zero, List.set_cons_succ]
        refine wpAnyH_ready (rs := [14]) (by kernel_rfl) (by simp) ?_
        refine AllReadyH.cons rfl (fun K hK => ?_) AllReadyH.nil
        go_simp
        have hwy := rway_any f Ap np cp P false (by have := HNP.out; omega) HRP.out
        rw [HWR.out] at hwy
        refine hwy.mono ?_
        clear hwy
        rintro e wc14 ⟨u, rfl, ho, hbA⟩
        obtain ⟨Ar, cr, rfl, _⟩ := own_form ho
        rw [HNW.out] at ho ⊢
        have HRR := Lib.hid (Rd.of_own ho)
        clear ho
        replace HBW := Lib.hid (bstep HBW.out hbA)
        replace HRP := Lib.hid (HRP.out.below hbA)
        clear hbA
        go_simp
        refine hK.out _ _ ?_ (fun hHeld => ?_)
        · (try dsimp only)
          exact ⟨(Kf.out.belowS HBW.out).cellV (i := 0) rfl, (Kf.out.belowS HBW.out).cellV (i := 1) rfl, (Kf.out.belowS HBW.out).cellV (i := 2) rfl, (K7.out.belowS HBW.out).cellV (i := 0) rfl, (K7.out.belowS HBW.out).cellV (i := 1) rfl⟩
        clear hK K
        refine wpAnyH_ready (rs := [15]) (by kernel_rfl) (by simp) ?_
        refine AllReadyH.cons rfl (fun K hK => ?_) AllReadyH.nil
        go_simp
        refine (same37_any Aw Ar nw cw cr wq _ (by have := HWL.out; omega) (HRW.out.below HBW.out) HRR.out).mono ?_
        rintro e wc15 ⟨rfl, hbA⟩
        replace HBW := Lib.hid (bstep HBW.out hbA)
        replace HRP := Lib.hid (HRP.out.below hbA)
        replace HRR := Lib.hid (HRR.out.below hbA)
        clear hbA
        go_simp
        refine hK.out _ _ ?_ (fun hHeld => ?_)
        · (try dsimp only)
          exact ⟨(Kf.out.belowS HBW.out).cellV (i := 0) rfl, (Kf.out.belowS HBW.out).cellV (i := 1) rfl, (Kf.out.belowS HBW.out).cellV (i := 2) rfl, (K7.out.belowS HBW.out).cellV (i := 0) rfl, (K7.out.belowS HBW.out).cellV (i := 1) rfl⟩
        clear hK K
        refine Tr.take_at 16 42 (.bool false) rfl rfl (by kernel_rfl) (by kernel_rfl) (by kernel_rfl) (fun _ _ _ h => h) (Or.inl ⟨by rfl, ?_⟩) (by assumption) ?_
        · intro W0 hSw
          (try dsimp only at hSw)
          go_simp
        simp only [List.set_cons_zero, List.set_cons_succ]
        refine wpAnyH_done (by kernel_rfl) ?_ _
        refine NoPanic.normal ?_
        go_wp2_with fail
        go_meet
        exact ⟨rfl, HBW.out⟩
      · have h0' : (f.W != 0) = true := by simpa using h0
        obtain ⟨bq, hbq⟩ : ∃ bq, hasN (nodesW l) f.W = bq := ⟨_, rfl⟩
        have HQ := Lib.hid hbq
        have HWR := Lib.hid (show wayF f P bq = wq by rw [← HWQ.out, hbq])
        clear hbq h0
        have HBW := Lib.hid (show Below w2.heap.size w2 w2.drew from (bre w2).drew)
        refine wp_region_noPanic ?_
        refine wp_region_held_drew (S := (fun w' => w'.cell? ⟨w.heap.size, 0, none⟩ = some (.int .u32 f.W) ∧ w'.cell? ⟨w.heap.size, 1, none⟩ = some (.int .i64 f.R) ∧ w'.cell? ⟨w.heap.size, 2, none⟩ = some (.int .u32 f.T) ∧ w'.cell? ⟨w1.heap.size, 0, none⟩ = some (.map mk) ∧ w'.cell? ⟨w1.heap.size, 1, none⟩ = some (.map mu))) (by kernel_rfl) ?_ (fun hHeld => ?_)
        · (try dsimp only)
          exact ⟨(Kf.out.belowS HBW.out).cellV (i := 0) rfl, (Kf.out.belowS HBW.out).cellV (i := 1) rfl, (Kf.out.belowS HBW.out).cellV (i := 2) rfl, (K7.out.belowS HBW.out).cellV (i := 0) rfl, (K7.out.belowS HBW.out).cellV (i := 1) rfl⟩
        refine Tr.take_at 0 26 (.slice Aw nw cw) rfl rfl (by kernel_rfl) (by kernel_rfl) (by kernel_rfl) (fun _ _ _ h => h) (Or.inl ⟨by rfl, ?_⟩) (by assumption) ?_
        · intro W0 hSw
          (try dsimp only at hSw)
          go_simp
        simp only [List.set_cons_zero, List.set_cons_succ]
        refine Tr.take_at 1 27 (.agg #[.int .u32 f.W, .int .i64 f.R, .int .u32 f.T]) rfl rfl (by kernel_rfl) (by kernel_rfl) (by kernel_rfl) (fun _ _ _ h => h) (Or.inl ⟨by rfl, ?_⟩) (by assumption) ?_
        · intro W0 hSw
          (try dsimp only at hSw)
          go_simp
        simp only [List.set_cons_zero, List.set_cons_succ]
        refine Tr.take_at 2 28 (.agg #[.map mk, .map mu]) rfl rfl (by kernel_rfl) (by kernel_rfl) (by kernel_rfl) (fun _ _ _ h => h) (Or.inl ⟨by rfl, ?_⟩) (by assumption) ?_
        · intro W0 hSw
          (try dsimp only at hSw)
          go_simp
        simp only [List.set_cons_zero, List.set_cons_succ]
        refine Tr.take_at 3 29 (.int .u32 un) rfl rfl (by kernel_rfl) (by kernel_rfl) (by kernel_rfl) (fun _ _ _ h => h) (Or.inl ⟨by rfl, ?_⟩) (by assumption) ?_
        · intro W0 hSw
          (try dsimp only at hSw)
          go_simp
        simp only [List.set_cons_zero, List.set_cons_succ]
        refine Tr.take_at 5 31 (.pointer (some ⟨w.heap.size, 0, none⟩)) rfl rfl (by kernel_rfl) (by kernel_rfl) (by kernel_rfl) (fun _ _ _ h => h) (Or.inl ⟨by rfl, ?_⟩) (by assumption) ?_
        · intro W0 hSw
          (try dsimp only at hSw)
          go_simp
        simp only [List.set_cons_zero, List.set_cons_succ]
        refine Tr.take_at 6 32 (.int .u32 f.W) rfl rfl (by kernel_rfl) (by kernel_rfl) (by kernel_rfl) (fun _ _ _ h => h) (Or.inl ⟨by rfl, ?_⟩) (by assumption) ?_
        · intro W0 hSw
          (try dsimp only at hSw)
          go_simp
        simp only [List.set_cons_zero, List.set_cons_succ]
        refine Tr.take_at 7 33 (.bool true) rfl rfl (by kernel_rfl) (by kernel_rfl) (by kernel_rfl) (fun _ _ _ h => h) (Or.inl ⟨by rfl, ?_⟩) (by assumption) ?_
        · intro W0 hSw
          (try dsimp only at hSw)
          go_simp
        simp only [List.set_cons_zero, List.set_cons_succ]
        refine wpAnyH_ready (rs := [4]) (by kernel_rfl) (by simp) ?_
        refine AllReadyH.cons rfl (fun K hK => ?_) AllReadyH.nil
        go_simp
        refine (path_any (.agg #[.map mk, .map mu]) (nodesW l) mk mu nk fk un _ HUN.out (HT.out.below HBW.out) HTK.out).mono ?_
        rintro e wc4 ⟨u, rfl, ho, hbA⟩
        rw [HPP.out] at ho
        obtain ⟨Ap, cp, rfl, _⟩ := own_form ho
        obtain ⟨np, hnp⟩ : ∃ q, P.length = q := ⟨_, rfl⟩
        have HNP := Lib.hid (show np ≤ 1001 by rw [← hnp]; exact HPL.out)
        rw [hnp] at ho ⊢
        have HRP := Lib.hid (Rd.of_own ho)
        clear ho hnp
        replace HBW := Lib.hid (bstep HBW.out hbA)
        clear hbA
        go_simp
        refine hK.out _ _ ?_ (fun hHeld => ?_)
        · (try dsimp only)
          exact ⟨(Kf.out.belowS HBW.out).cellV (i := 0) rfl, (Kf.out.belowS HBW.out).cellV (i := 1) rfl, (Kf.out.belowS HBW.out).cellV (i := 2) rfl, (K7.out.belowS HBW.out).cellV (i := 0) rfl, (K7.out.belowS HBW.out).cellV (i := 1) rfl⟩
        clear hK K
        refine Tr.take_at 8 34 (.bool true) rfl rfl (by kernel_rfl) (by kernel_rfl) (by kernel_rfl) (fun _ _ _ h => h) (Or.inl ⟨by rfl, ?_⟩) (by assumption) ?_
        · intro W0 hSw
          (try dsimp only at hSw)
          go_simp
        simp only [List.set_cons_zero, List.set_cons_succ]
        refine Tr.take_at 9 35 (.agg #[.map mk, .map mu]) rfl rfl (by kernel_rfl) (by kernel_rfl) (by kernel_rfl) (fun _ _ _ h => h) (Or.inl ⟨by rfl, ?_⟩) (by assumption) ?_
        · intro W0 hSw
          (try dsimp only at hSw)
          go_simp
        simp only [List.set_cons_zero, List.set_cons_succ]
        refine Tr.take_at 10 36 (.pointer (some ⟨w.heap.size, 0, none⟩)) rfl rfl (by kernel_rfl) (by kernel_rfl) (by kernel_rfl) (fun _ _ _ h => h) (Or.inl ⟨by rfl, ?_⟩) (by assumption) ?_
        · intro W0 hSw
          (try dsimp only at hSw)
          go_simp
        simp only [List.set_cons_zero, List.set_cons_succ]
        refine Tr.take_at 11 37 (.int .u32 f.W) rfl rfl (by kernel_rfl) (by kernel_rfl) (by kernel_rfl) (fun _ _ _ h => h) (Or.inl ⟨by rfl, ?_⟩) (by assumption) ?_
        · intro W0 hSw
          (try dsimp only at hSw)
          go_simp
        simp only [List.set_cons_zero, List.set_cons_succ]
        refine wpAnyH_ready (rs := [12]) (by kernel_rfl) (by simp) ?_
        refine AllReadyH.cons rfl (fun K hK => ?_) AllReadyH.nil
        go_simp
        refine (has_any _ (nodesW l) mk mu nk fk f.W _ HF.out.1 (HT.out.below HBW.out)).mono ?_
        rintro e wc12 ⟨rfl, hbA⟩
        rw [HQ.out]
        replace HBW := Lib.hid (bstep HBW.out hbA)
        replace HRP := Lib.hid (HRP.out.below hbA)
        clear hbA
        go_simp
        refine hK.out _ _ ?_ (fun hHeld => ?_)
        · (try dsimp only)
          exact ⟨(Kf.out.belowS HBW.out).cellV (i := 0) rfl, (Kf.out.belowS HBW.out).cellV (i := 1) rfl, (Kf.out.belowS HBW.out).cellV (i := 2) rfl, (K7.out.belowS HBW.out).cellV (i := 0) rfl, (K7.out.belowS HBW.out).cellV (i := 1) rfl⟩
        clear hK K
        refine Tr.take_at 13 39 (.bool bq) rfl rfl (by kernel_rfl) (by kernel_rfl) (by kernel_rfl) (fun _ _ _ h => h) (Or.inl ⟨by rfl, ?_⟩) (by assumption) ?_
        · intro W0 hSw
          (try dsimp only at hSw)
          go_simp
        simp only [List.set_cons_zero, List.set_cons_succ]
        refine wpAnyH_ready (rs := [14]) (by kernel_rfl) (by simp) ?_
        refine AllReadyH.cons rfl (fun K hK => ?_) AllReadyH.nil
        go_simp
        have hwy := rway_any f Ap np cp P bq (by have := HNP.out; omega) HRP.out
        rw [HWR.out] at hwy
        refine hwy.mono ?_
        clear hwy
        rintro e wc14 ⟨u, rfl, ho, hbA⟩
        obtain ⟨Ar, cr, rfl, _⟩ := own_form ho
        rw [HNW.out] at ho ⊢
        have HRR := Lib.hid (Rd.of_own ho)
        clear ho
        replace HBW := Lib.hid (bstep HBW.out hbA)
        replace HRP := Lib.hid (HRP.out.below hbA)
        clear hbA
        go_simp
        refine hK.out _ _ ?_ (fun hHeld => ?_)
        · (try dsimp only)
          exact ⟨(Kf.out.belowS HBW.out).cellV (i := 0) rfl, (Kf.out.belowS HBW.out).cellV (i := 1) rfl, (Kf.out.belowS HBW.out).cellV (i := 2) rfl, (K7.out.belowS HBW.out).cellV (i := 0) rfl, (K7.out.belowS HBW.out).cellV (i := 1) rfl⟩
        clear hK K
        refine wpAnyH_ready (rs := [15]) (by kernel_rfl) (by simp) ?_
        refine AllReadyH.cons rfl (fun K hK => ?_) AllReadyH.nil
        go_simp
        refine (same37_any Aw Ar nw cw cr wq _ (by have := HWL.out; omega) (HRW.out.below HBW.out) HRR.out).mono ?_
        rintro e wc15 ⟨rfl, hbA⟩
        replace HBW := Lib.hid (bstep HBW.out hbA)
        replace HRP := Lib.hid (HRP.out.below hbA)
        replace HRR := Lib.hid (HRR.out.below hbA)
        clear hbA
        go_simp
        refine hK.out _ _ ?_ (fun hHeld => ?_)
        · (try dsimp only)
          exact ⟨(Kf.out.belowS HBW.out).cellV (i := 0) rfl, (Kf.out.belowS HBW.out).cellV (i := 1) rfl, (Kf.out.belowS HBW.out).cellV (i := 2) rfl, (K7.out.belowS HBW.out).cellV (i := 0) rfl, (K7.out.belowS HBW.out).cellV (i := 1) rfl⟩
        clear hK K
        refine Tr.take_at 16 42 (.bool false) rfl rfl (by kernel_rfl) (by kernel_rfl) (by kernel_rfl) (fun _ _ _ h => h) (Or.inl ⟨by rfl, ?_⟩) (by assumption) ?_
        · intro W0 hSw
          (try dsimp only at hSw)
          go_simp
        simp only [List.set_cons_zero, List.set_cons_succ]
        refine wpAnyH_done (by kernel_rfl) ?_ _
        refine NoPanic.normal ?_
        go_wp2_with fail
        go_meet
        exact ⟨rfl, HBW.out⟩
  obtain ⟨rfl, hbc⟩ := hcut
  replace HT := Lib.hid (HT.out.below hbc)
  replace HV := Lib.hid (HV.out.below hbc)
  replace HR9 := Lib.hid (HR9.out.below hbc)
  replace Kf := Lib.hid (Kf.out.belowS hbc)
  replace K7 := Lib.hid (K7.out.belowS hbc)
  replace K8 := Lib.hid (K8.out.belowS hbc)
  replace HB := Lib.hid (bstep HB.out hbc)
  replace HRW := Lib.hid (HRW.out.below hbc)
  clear hbc
  obtain ⟨Y, hY⟩ : ∃ Y, Y = wc := ⟨_, rfl⟩
  subst hY
  rcases nw with _ | q
  · as_aux_lemma =>
      go_upto_region 7 with fail
      have HBW := Lib.hid (show Below Y.heap.size Y Y.drew from (bre Y).drew)
      refine wp_region_noPanic ?_
      refine wp_region_held_drew (S := (fun w' => True)) (by kernel_rfl) ?_ (fun hHeld => ?_)
      · (try dsimp only)
        all_goals exact trivial
      refine wpAnyH_ready (rs := [0]) (by kernel_rfl) (by simp) ?_
      refine AllReadyH.cons rfl (fun K hK => ?_) AllReadyH.nil
      go_simp
      refine (awake37_any _).mono ?_
      rintro e wd0 ⟨rfl, hbA⟩
      replace HBW := Lib.hid (bstep HBW.out hbA)
      clear hbA
      go_simp
      refine hK.out _ _ ?_ (fun hHeld => ?_)
      · (try dsimp only)
        all_goals exact trivial
      clear hK K
      refine Tr.take_at 1 44 (.bool true) rfl rfl (by kernel_rfl) (by kernel_rfl) (by kernel_rfl) (fun _ _ _ h => h) (Or.inl ⟨by rfl, ?_⟩) (by assumption) ?_
      · intro W0 hSw
        (try dsimp only at hSw)
        go_simp
      simp only [List.set_cons_zero, List.set_cons_succ]
      refine Tr.take_at 2 45 (.slice Aw 0 cw) rfl rfl (by kernel_rfl) (by kernel_rfl) (by kernel_rfl) (fun _ _ _ h => h) (Or.inl ⟨by rfl, ?_⟩) (by assumption) ?_
      · intro W0 hSw
        (try dsimp only at hSw)
        go_simp
      simp only [List.set_cons_zero, List.set_cons_succ]
      refine Tr.take_at 3 46 (.int .i64 0) rfl rfl (by kernel_rfl) (by kernel_rfl) (by kernel_rfl) (fun _ _ _ h => h) (Or.inl ⟨by rfl, ?_⟩) (by assumption) ?_
      · intro W0 hSw
        (try dsimp only at hSw)
        go_simp
      simp only [List.set_cons_zero, List.set_cons_succ]
      refine Tr.take_at 4 47 (.bool true) rfl rfl (by kernel_rfl) (by kernel_rfl) (by kernel_rfl) (fun _ _ _ h => h) (Or.inl ⟨by rfl, ?_⟩) (by assumption) ?_
      · intro W0 hSw
        (try dsimp only at hSw)
        go_simp
      simp only [List.set_cons_zero, List.set_cons_succ]
      refine Tr.take_at 5 48 (.bool true) rfl rfl (by kernel_rfl) (by kernel_rfl) (by kernel_rfl) (fun _ _ _ h => h) (Or.inl ⟨by rfl, ?_⟩) (by assumption) ?_
      · intro W0 hSw
        (try dsimp only at hSw)
        go_simp
      simp only [List.set_cons_zero, List.set_cons_succ]
      refine Tr.take_at 6 49 undef rfl rfl (by kernel_rfl) (by kernel_rfl) (by kernel_rfl) (fun _ _ _ h => h) (Or.inr ⟨by rfl, rfl⟩) (by assumption) ?_
      simp only [List.set_cons_zero, List.set_cons_succ]
      refine Tr.take_at 7 50 undef rfl rfl (by kernel_rfl) (by kernel_rfl) (by kernel_rfl) (fun _ _ _ h => h) (Or.inr ⟨by rfl, rfl⟩) (by assumption) ?_
      simp only [List.set_cons_zero, List.set_cons_succ]
      refine Tr.take_at 8 51 undef rfl rfl (by kernel_rfl) (by kernel_rfl) (by kernel_rfl) (fun _ _ _ h => h) (Or.inr ⟨by rfl, rfl⟩) (by assumption) ?_
      simp only [List.set_cons_zero, List.set_cons_succ]
      refine Tr.take_at 9 52 undef rfl rfl (by kernel_rfl) (by kernel_rfl) (by kernel_rfl) (fun _ _ _ h => h) (Or.inr ⟨by rfl, rfl⟩) (by assumption) ?_
      simp only [List.set_cons_zero, List.set_cons_succ]
      refine Tr.take_at 10 53 undef rfl rfl (by kernel_rfl) (by kernel_rfl) (by kernel_rfl) (fun _ _ _ h => h) (Or.inr ⟨by rfl, rfl⟩) (by assumption) ?_
      simp only [List.set_cons_zero, List.set_cons_succ]
      refine Tr.take_at 11 54 undef rfl rfl (by kernel_rfl) (by kernel_rfl) (by kernel_rfl) (fun _ _ _ h => h) (Or.inr ⟨by rfl, rfl⟩) (by assumption) ?_
      simp only [List.set_cons_zero, List.set_cons_succ]
      refine Tr.take_at 12 55 undef rfl rfl (by kernel_rfl) (by kernel_rfl) (by kernel_rfl) (fun _ _ _ h => h) (Or.inr ⟨by rfl, rfl⟩) (by assumption) ?_
      simp only [List.set_cons_zero, List.set_cons_succ]
      refine Tr.take_at 13 56 undef rfl rfl (by kernel_rfl) (by kernel_rfl) (by kernel_rfl) (fun _ _ _ h => h) (Or.inr ⟨by rfl, rfl⟩) (by assumption) ?_
      simp only [List.set_cons_zero, List.set_cons_succ]
      refine Tr.take_at 14 57 undef rfl rfl (by kernel_rfl) (by kernel_rfl) (by kernel_rfl) (fun _ _ _ h => h) (Or.inr ⟨by rfl, rfl⟩) (by assumption) ?_
      simp only [List.set_cons_zero, List.set_cons_succ]
      refine Tr.take_at 15 58 (.bool true) rfl rfl (by kernel_rfl) (by kernel_rfl) (by kernel_rfl) (fun _ _ _ h => h) (Or.inl ⟨by rfl, ?_⟩) (by assumption) ?_
      · intro W0 hSw
        (try dsimp only at hSw)
        go_simp
      simp only [List.set_cons_zero, List.set_cons_succ]
      refine Tr.take_at 16 59 (.bool true) rfl rfl (by kernel_rfl) (by kernel_rfl) (by kernel_rfl) (fun _ _ _ h => h) (Or.inl ⟨by rfl, ?_⟩) (by assumption) ?_
      · intro W0 hSw
        (try dsimp only at hSw)
        go_simp
      simp only [List.set_cons_zero, List.set_cons_succ]
      refine Tr.take_at 17 6 (.bool true) rfl rfl (by kernel_rfl) (by kernel_rfl) (by kernel_rfl) (fun _ _ _ h => h) (Or.inl ⟨by rfl, ?_⟩) (by assumption) ?_
      · intro W0 hSw
        (try dsimp only at hSw)
        go_simp
      simp only [List.set_cons_zero, List.set_cons_succ]
      refine wpAnyH_done (by kernel_rfl) ?_ _
      refine NoPanic.normal ?_
      go_wp2_with fail
      go_ret
      exact ⟨rfl, bstep HB.out HBW.out⟩
  · as_aux_lemma =>
      have hlast := HLAST.out q HNW.out
      obtain ⟨b, off, rfl, hb, hc⟩ := HRW.out.2 (by omega)
      have HCL := Lib.hid (hc q _ (U32_at hlast))
      have HBB := Lib.hid hb
      have hq : (q : Int) + 1 ≤ 1002 := by have := HWL.out; omega
      have q0 : (0 : Int) ≤ (q : Int) := by omega
      have q1 : (q : Int) < (q : Int) + 1 := by omega
      have wq1 : IntKind.i64.wrap ((q : Int) + 1 - 1) = (q : Int) := by rw [IntWalk.i64_in _ (by omega)]; omega
      have wq2 : IntKind.i64.wrap (q : Int) = (q : Int) := IntWalk.i64_in _ (by omega)
      have wq3 : ¬ (q : Int) + 1 = 0 := by omega
      clear hc hb hlast
      go_upto_region 7 with fail
      have HBW := Lib.hid (show Below Y.heap.size Y Y.drew from (bre Y).drew)
      refine wp_region_noPanic ?_
      refine wp_region_held_drew (S := (fun w' => w'.cell? ⟨b, off + q, none⟩ = some (.int .u32 f.W) ∧ w'.cell? ⟨w.heap.size, 0, none⟩ = some (.int .u32 f.W))) (by kernel_rfl) ?_ (fun hHeld => ?_)
      · (try dsimp only)
        exact ⟨((HBW.out.cell (p := ⟨b, off + q, none⟩) HBB.out).trans HCL.out), (Kf.out.belowS HBW.out).cellV (i := 0) rfl⟩
      refine wpAnyH_ready (rs := [0]) (by kernel_rfl) (by simp) ?_
      refine AllReadyH.cons rfl (fun K hK => ?_) AllReadyH.nil
      go_simp
      refine (awake37_any _).mono ?_
      rintro e wd0 ⟨rfl, hbA⟩
      replace HBW := Lib.hid (bstep HBW.out hbA)
      clear hbA
      go_simp
      refine hK.out _ _ ?_ (fun hHeld => ?_)
      · (try dsimp only)
        exact ⟨((HBW.out.cell (p := ⟨b, off + q, none⟩) HBB.out).trans HCL.out), (Kf.out.belowS HBW.out).cellV (i := 0) rfl⟩
      clear hK K
      refine Tr.take_at 1 44 (.bool true) rfl rfl (by kernel_rfl) (by kernel_rfl) (by kernel_rfl) (fun _ _ _ h => h) (Or.inl ⟨by rfl, ?_⟩) (by assumption) ?_
      · intro W0 hSw
        (try dsimp only at hSw)
        go_simp
      simp only [List.set_cons_zero, List.set_cons_succ]
      refine Tr.take_at 2 45 (.slice (some ⟨b, off, none⟩) (q + 1) cw) rfl rfl (by kernel_rfl) (by kernel_rfl) (by kernel_rfl) (fun _ _ _ h => h) (Or.inl ⟨by rfl, ?_⟩) (by assumption) ?_
      · intro W0 hSw
        (try dsimp only at hSw)
        go_simp
      simp only [List.set_cons_zero, List.set_cons_succ]
      refine Tr.take_at 3 46 (.int .i64 ((q : Int) + 1)) rfl rfl (by kernel_rfl) (by kernel_rfl) (by kernel_rfl) (fun _ _ _ h => h) (Or.inl ⟨by rfl, ?_⟩) (by assumption) ?_
      · intro W0 hSw
        (try dsimp only at hSw)
        go_simp
      simp only [List.set_cons_zero, List.set_cons_succ]
      refine Tr.take_at 4 47 (.bool false) rfl rfl (by kernel_rfl) (by kernel_rfl) (by kernel_rfl) (fun _ _ _ h => h) (Or.inl ⟨by rfl, ?_⟩) (by assumption) ?_
      · intro W0 hSw
        (try dsimp only at hSw)
        go_simp
      simp only [List.set_cons_zero, List.set_cons_succ]
      refine Tr.take_at 5 48 (.bool false) rfl rfl (by kernel_rfl) (by kernel_rfl) (by kernel_rfl) (fun _ _ _ h => h) (Or.inl ⟨by rfl, ?_⟩) (by assumption) ?_
      · intro W0 hSw
        (try dsimp only at hSw)
        go_simp
      simp only [List.set_cons_zero, List.set_cons_succ]
      refine Tr.take_at 6 49 (.slice (some ⟨b, off, none⟩) (q + 1) cw) rfl rfl (by kernel_rfl) (by kernel_rfl) (by kernel_rfl) (fun _ _ _ h => h) (Or.inl ⟨by rfl, ?_⟩) (by assumption) ?_
      · intro W0 hSw
        (try dsimp only at hSw)
        go_simp
      simp only [List.set_cons_zero, List.set_cons_succ]
      refine Tr.take_at 7 50 (.slice (some ⟨b, off, none⟩) (q + 1) cw) rfl rfl (by kernel_rfl) (by kernel_rfl) (by kernel_rfl) (fun _ _ _ h => h) (Or.inl ⟨by rfl, ?_⟩) (by assumption) ?_
      · intro W0 hSw
        (try dsimp only at hSw)
        go_simp
      simp only [List.set_cons_zero, List.set_cons_succ]
      refine Tr.take_at 8 51 (.int .i64 ((q : Int) + 1)) rfl rfl (by kernel_rfl) (by kernel_rfl) (by kernel_rfl) (fun _ _ _ h => h) (Or.inl ⟨by rfl, ?_⟩) (by assumption) ?_
      · intro W0 hSw
        (try dsimp only at hSw)
        go_simp
      simp only [List.set_cons_zero, List.set_cons_succ]
      refine Tr.take_at 9 52 (.int .i64 q) rfl rfl (by kernel_rfl) (by kernel_rfl) (by kernel_rfl) (fun _ _ _ h => h) (Or.inl ⟨by rfl, ?_⟩) (by assumption) ?_
      · intro W0 hSw
        (try dsimp only at hSw)
        go_simp
      simp only [List.set_cons_zero, List.set_cons_succ]
      refine Tr.take_at 10 53 (.pointer (some ⟨b, off + q, none⟩)) rfl rfl (by kernel_rfl) (by kernel_rfl) (by kernel_rfl) (fun _ _ _ h => h) (Or.inl ⟨by rfl, ?_⟩) (by assumption) ?_
      · intro W0 hSw
        (try dsimp only at hSw)
        go_simp
      simp only [List.set_cons_zero, List.set_cons_succ]
      refine Tr.take_at 11 54 (.int .u32 f.W) rfl rfl (by kernel_rfl) (by kernel_rfl) (by kernel_rfl) (fun _ _ _ h => h) (Or.inl ⟨by rfl, ?_⟩) (by assumption) ?_
      · intro W0 hSw
        (try dsimp only at hSw)
        go_simp
      simp only [List.set_cons_zero, List.set_cons_succ]
      refine Tr.take_at 12 55 (.pointer (some ⟨w.heap.size, 0, none⟩)) rfl rfl (by kernel_rfl) (by kernel_rfl) (by kernel_rfl) (fun _ _ _ h => h) (Or.inl ⟨by rfl, ?_⟩) (by assumption) ?_
      · intro W0 hSw
        (try dsimp only at hSw)
        go_simp
      simp only [List.set_cons_zero, List.set_cons_succ]
      refine Tr.take_at 13 56 (.int .u32 f.W) rfl rfl (by kernel_rfl) (by kernel_rfl) (by kernel_rfl) (fun _ _ _ h => h) (Or.inl ⟨by rfl, ?_⟩) (by assumption) ?_
      · intro W0 hSw
        (try dsimp only at hSw)
        go_simp
      simp only [List.set_cons_zero, List.set_cons_succ]
      refine Tr.take_at 14 57 (.bool true) rfl rfl (by kernel_rfl) (by kernel_rfl) (by kernel_rfl) (fun _ _ _ h => h) (Or.inl ⟨by rfl, ?_⟩) (by assumption) ?_
      · intro W0 hSw
        (try dsimp only at hSw)
        go_simp
      simp only [List.set_cons_zero, List.set_cons_succ]
      refine Tr.take_at 15 58 (.bool true) rfl rfl (by kernel_rfl) (by kernel_rfl) (by kernel_rfl) (fun _ _ _ h => h) (Or.inl ⟨by rfl, ?_⟩) (by assumption) ?_
      · intro W0 hSw
        (try dsimp only at hSw)
        go_simp
      simp only [List.set_cons_zero, List.set_cons_succ]
      refine Tr.take_at 16 59 (.bool true) rfl rfl (by kernel_rfl) (by kernel_rfl) (by kernel_rfl) (fun _ _ _ h => h) (Or.inl ⟨by rfl, ?_⟩) (by assumption) ?_
      · intro W0 hSw
        (try dsimp only at hSw)
        go_simp
      simp only [List.set_cons_zero, List.set_cons_succ]
      refine Tr.take_at 17 6 (.bool true) rfl rfl (by kernel_rfl) (by kernel_rfl) (by kernel_rfl) (fun _ _ _ h => h) (Or.inl ⟨by rfl, ?_⟩) (by assumption) ?_
      · intro W0 hSw
        (try dsimp only at hSw)
        go_simp
      simp only [List.set_cons_zero, List.set_cons_succ]
      refine wpAnyH_done (by kernel_rfl) ?_ _
      refine NoPanic.normal ?_
      go_wp2_with fail
      go_ret
      exact ⟨rfl, bstep HB.out HBW.out⟩
end Go.Proofs.YtbkkecijcijhdaaGreat
end
