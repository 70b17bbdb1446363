/-
  The walk of the law FocusLoses.
-/
import Derived.Test.YtbkkecijcijhdaaGreatZFTFSetsW
section
namespace Go.Proofs.YtbkkecijcijhdaaGreat
open Go.RowKit Go.Maps Go.Shelf

attribute [local go_sem ↓] run_eql_fc run_eql_rfc
set_option maxRecDepth 100000 in
theorem Tryz.sizeRf : (Tryz.prog.info? 127).map (·.size) = some 3 := by kernel_rfl
theorem root_shows {l : List DW} (h : UpOk l) : shV37 (nodesW l) (bxS 8 8 l) 1 = true := by
  unfold shV37
  rw [hasN_root, vw_root (nodesW_ok h)]
  rfl
/-- a focus that was lost is lost no more. -/
theorem lost_twice {S : Int → Bool} (h1 : S 1 = true) (f : FC) (path p2 : List Int) {g : FC} {b : Bool} (h : lostF f S path = (g, b)) : lostF g S p2 = (g, false) := by
  have key : ∀ g : FC, g.W = 0 ∨ S g.W = true → lostF g S p2 = (g, false) := fun g hg => by unfold lostF; rw [if_pos hg]
  unfold lostF at h
  by_cases c0 : f.W = 0 ∨ S f.W = true
  · rw [if_pos c0] at h
    injection h with h2 _
    subst h2
    exact key _ c0
  · rw [if_neg c0] at h
    by_cases c1 : f.R = 1
    · rw [if_pos c1] at h
      injection h with h2 _
      subst h2
      exact key _ (.inr h1)
    · rw [if_neg c1] at h
      by_cases c2 : f.R = 2
      · rw [if_pos c2] at h
        injection h with h2 _
        subst h2
        refine key _ (.inr ?_)
        dsimp only
        cases hf : (path.drop 1).find? S with
        | none => exact h1
        | some x => exact List.find?_some hf
      · rw [if_neg c2] at h
        injection h with h2 _
        subst h2
        exact key _ (.inl rfl)
theorem lost_ok {S : Int → Bool} (f : FC) (hf : f.ok) (path : List Int) (hp : ∀ i ∈ path, 0 ≤ i ∧ i ≤ 4294967295) {g : FC} {b : Bool} (h : lostF f S path = (g, b)) : g.ok := by
  have e : (lostF f S path).1 = g := by rw [h]
  rw [← e]
  have h0 := hf
  unfold FC.ok at hf ⊢
  unfold lostF
  by_cases c0 : f.W = 0 ∨ S f.W = true
  · rw [if_pos c0]; exact hf
  · rw [if_neg c0]
    by_cases c1 : f.R = 1
    · rw [if_pos c1]; exact ⟨by dsimp only; decide, hf.2⟩
    · rw [if_neg c1]
      by_cases c2 : f.R = 2
      · rw [if_pos c2]
        refine ⟨?_, hf.2⟩
        dsimp only
        cases hq : (path.drop 1).find? S with
        | none => decide
        | some x => exact hp x (List.mem_of_mem_drop (List.mem_of_find?_eq_some hq))
      · rw [if_neg c2]; exact ⟨by dsimp only; decide, hf.2⟩
set_option maxRecDepth 100000 in
set_option maxHeartbeats 8000000 in
theorem focusLoses_any (A : Option Addr) (n c : Nat) (fs : List FW) (f : FC) (w : World) (hn : n ≤ maxLen) (hr : RdF FW.cells 3 w A n fs) (hok : ∀ f ∈ fs, f.ok) (hf : f.ok) :
    Calls Tryz.prog 14 #[.slice A n c, f.v] w fun e w' => e = .returned (.bool true) ∧ Below w.heap.size w w' := by
  have HN := Lib.hid hn
  have HR := Lib.hid hr
  have HOK := Lib.hid hok
  have HF := Lib.hid hf
  clear hn hr hok hf
  go_enter Tryz.func14, Tryz.ntmps14
  go_upto_region 1 with fail
  have xK := Blk.new w 122 #[.int .u32 f.W, .int .i64 f.R, .int .u32 f.T]
  have xB := bal (bre w) (.cells #[.int .u32 f.W, .int .i64 f.R, .int .u32 f.T] 122)
  obtain ⟨X0, hX0⟩ : ∃ X0, w.alloc (.cells #[.int .u32 f.W, .int .i64 f.R, .int .u32 f.T] 122) = X0 := ⟨_, rfl⟩
  rw [hX0] at xK xB ⊢
  have Kf := Lib.hid xK
  have HB := Lib.hid xB
  clear xK xB hX0
  go_wp2_with fail
  by_cases h10 : n ≤ 10
  case neg =>
    refine (made37_many A n c _ (by omega) HN.out).mono ?_
    rintro e w1 ⟨rfl, hb1⟩
    have HB1 := Lib.hid (bstep HB.out hb1)
    clear hb1
    go_wp2_with fail
    refine (awake37_any _).mono ?_
    rintro e w2 ⟨rfl, hb2⟩
    have HB2 := Lib.hid (bstep (bal (bal HB1.out (.cells #[.map none, .map none] 34)) (.cells #[.slice none 0 0, .map none] 43)) hb2)
    clear hb2
    go_wp2_with fail
    go_ret
    exact ⟨rfl, HB2.out⟩
  refine (made37_any A n c fs _ h10 (HR.out.below HB.out) HOK.out).mono ?_
  rintro e w1 ⟨mk, mu, nk, fk, v, og, v9, rfl, ht, hv, ho9, hb⟩
  obtain ⟨Av, nv, cv, mv, rfl⟩ := hv.form
  obtain ⟨A9, c9, rfl, _⟩ := own_form ho9
  obtain ⟨n9, h9⟩ : ∃ q, (shL (dwsF fs) n).length = q := ⟨_, rfl⟩
  have hSH := shL_len (l := dwsF fs) n
  rw [h9] at ho9 hSH ⊢
  have hLN : (dwsF fs).length = n := by rw [dwsF_len]; exact HR.out.1
  have HUP := Lib.hid (dwsF_up HOK.out)
  have hba := bal (bal (bre w1) (.cells #[.map mk, .map mu] 34)) (.cells #[.slice Av nv cv, .map mv] 43)
  have xT := ht.below hba
  have xV := hv.below hba
  have xR9 := (Rd.of_own ho9).below hba
  have xK7 := (Blk.new w1 34 #[.map mk, .map mu]).alloc (.cells #[.slice Av nv cv, .map mv] 43)
  have xK8 := blk_new2 w1 (.cells #[.map mk, .map mu] 34) 43 #[.slice Av nv cv, .map mv]
  have xB := bstep (bstep HB.out hb) hba
  have xKf := (Kf.out.belowS hb).belowS hba
  rw [← hLN] at xR9 hSH
  obtain ⟨l, hl⟩ : ∃ l, dwsF fs = l := ⟨_, rfl⟩
  rw [hl] at xT xV xR9 HUP hLN hSH
  have HLN := Lib.hid hLN
  have HTK := Lib.hid (nodesW_ok HUP.out)
  clear ht hv ho9 hb hba hLN
  try rw [hl]
  go_upto_region 2 with fail
  obtain ⟨X1, hX1⟩ : ∃ X1, (w1.alloc (.cells #[.map mk, .map mu] 34)).alloc (.cells #[.slice Av nv cv, .map mv] 43) = X1 := ⟨_, rfl⟩
  rw [hX1] at xT xV xR9 xK7 xK8 xB xKf ⊢
  have HT := Lib.hid xT
  have HV := Lib.hid xV
  have HR9 := Lib.hid xR9
  have K7 := Lib.hid xK7
  have K8 := Lib.hid xK8
  replace HB := Lib.hid xB
  replace Kf := Lib.hid xKf
  have HSHL := Lib.hid hSH
  clear xT xV xR9 xK7 xK8 xB xKf hX1 hl hSH h9
  go_upto_region 4 with fail
  have a0 := Kf.out.cellV (i := 0) (v := .int .u32 f.W) rfl
  have a1 := Kf.out.cellV (i := 1) (v := .int .i64 f.R) rfl
  have a2 := Kf.out.cellV (i := 2) (v := .int .u32 f.T) rfl
  have c0 := K8.out.cellV (i := 0) (v := .slice Av nv cv) rfl
  have c1 := K8.out.cellV (i := 1) (v := .map mv) rfl
  have b0 := K7.out.cellV (i := 0) (v := .map mk) rfl
  have b1 := K7.out.cellV (i := 1) (v := .map mu) rfl
  obtain ⟨r, hr⟩ : ∃ r, lostF f (shV37 (nodesW l) (bxS 8 8 l)) (pathN (nodesW l) f.W) = r := ⟨_, rfl⟩
  obtain ⟨g, gb⟩ := r
  have HG := Lib.hid hr
  have HGK := Lib.hid (lost_ok f HF.out _ (fun i hi => path_ok HT.out.ok HTK.out HF.out.1 hi) hr)
  have HG2 := Lib.hid (lost_twice (root_shows HUP.out) f _ (pathN (nodesW l) g.W) hr)
  clear hr
  go_wp2_with fail
  have hl := lost_any f HF.out HT.out HTK.out HV.out
  rw [HG.out] at hl
  refine hl.mono ?_
  clear hl
  rintro e w2 ⟨rfl, hb2⟩
  clear a0 a1 a2 c0 c1 b0 b1
  replace HT := Lib.hid (HT.out.below hb2)
  replace HV := Lib.hid (HV.out.below hb2)
  replace HR9 := Lib.hid (HR9.out.below hb2)
  replace Kf := Lib.hid (Kf.out.belowS hb2)
  replace K7 := Lib.hid (K7.out.belowS hb2)
  replace K8 := Lib.hid (K8.out.belowS hb2)
  replace HB := Lib.hid (bstep HB.out hb2)
  clear hb2
  go_upto_region 5 with fail
  have hba := bal (bre w2) (.cells #[.int .u32 g.W, .int .i64 g.R, .int .u32 g.T] 122)
  have xHT := HT.out.below hba
  have xHV := HV.out.below hba
  have xHR9 := HR9.out.below hba
  have xKf := Kf.out.belowS hba
  have xK7 := K7.out.belowS hba
  have xK8 := K8.out.belowS hba
  have xHB := bal HB.out (.cells #[.int .u32 g.W, .int .i64 g.R, .int .u32 g.T] 122)
  have xK9 := Blk.new w2 122 #[.int .u32 g.W, .int .i64 g.R, .int .u32 g.T]
  obtain ⟨X2, hX2⟩ : ∃ X2, w2.alloc (.cells #[.int .u32 g.W, .int .i64 g.R, .int .u32 g.T] 122) = X2 := ⟨_, rfl⟩
  rw [hX2] at xHT xHV xHR9 xKf xK7 xK8 xHB xK9 ⊢
  replace HT := Lib.hid xHT
  replace HV := Lib.hid xHV
  replace HR9 := Lib.hid xHR9
  replace Kf := Lib.hid xKf
  replace K7 := Lib.hid xK7
  replace K8 := Lib.hid xK8
  replace HB := Lib.hid xHB
  have K9 := Lib.hid xK9
  clear hba hX2 xHT xHV xHR9 xKf xK7 xK8 xHB xK9
  go_cut [11, 12] from 69 (fun s11 s12 wx => ∃ q : Nat, s11 = .pointer (some ⟨q, 0, none⟩) ∧ s12 = .bool gb ∧ X2.heap.size ≤ q ∧ Blk wx q 127 #[.int .u32 g.W, .int .i64 g.R, .int .u32 g.T] ∧ Below X2.heap.size X2 wx)
  case first =>
    as_aux_lemma =>
      have HBW := Lib.hid (show Below X2.heap.size X2 X2.drew from (bre X2).drew)
      refine wp_region_noPanic ?_
      refine wp_region_held_drew (S := (fun w' => w'.cell? ⟨w.heap.size, 0, none⟩ = some (.int .u32 f.W) ∧ w'.cell? ⟨w.heap.size, 1, none⟩ = some (.int .i64 f.R) ∧ w'.cell? ⟨w.heap.size, 2, none⟩ = some (.int .u32 f.T) ∧ w'.cell? ⟨w1.heap.size, 0, none⟩ = some (.map mk) ∧ w'.cell? ⟨w1.heap.size, 1, none⟩ = some (.map mu))) (by kernel_rfl) ?_ (fun hHeld => ?_)
      · (try dsimp only)
        exact ⟨(Kf.out.belowS HBW.out).cellV (i := 0) rfl, (Kf.out.belowS HBW.out).cellV (i := 1) rfl, (Kf.out.belowS HBW.out).cellV (i := 2) rfl, (K7.out.belowS HBW.out).cellV (i := 0) rfl, (K7.out.belowS HBW.out).cellV (i := 1) rfl⟩
      refine Tr.take_at 0 33 (.agg #[.int .u32 f.W, .int .i64 f.R, .int .u32 f.T]) rfl rfl (by kernel_rfl) (by kernel_rfl) (by kernel_rfl) (fun _ _ _ h => h) (Or.inl ⟨by rfl, ?_⟩) (by assumption) ?_
      · intro W0 hSw
        (try dsimp only at hSw)
        go_simp
      simp only [List.set_cons_zero, List.set_cons_succ]
      refine Tr.take_at 1 34 (.slice A9 n9 c9) rfl rfl (by kernel_rfl) (by kernel_rfl) (by kernel_rfl) (fun _ _ _ h => h) (Or.inl ⟨by rfl, ?_⟩) (by assumption) ?_
      · intro W0 hSw
        (try dsimp only at hSw)
        go_simp
      simp only [List.set_cons_zero, List.set_cons_succ]
      refine Tr.take_at 2 35 (.agg #[.map mk, .map mu]) rfl rfl (by kernel_rfl) (by kernel_rfl) (by kernel_rfl) (fun _ _ _ h => h) (Or.inl ⟨by rfl, ?_⟩) (by assumption) ?_
      · intro W0 hSw
        (try dsimp only at hSw)
        go_simp
      simp only [List.set_cons_zero, List.set_cons_succ]
      refine Tr.take_at 3 36 (.pointer (some ⟨w.heap.size, 0, none⟩)) rfl rfl (by kernel_rfl) (by kernel_rfl) (by kernel_rfl) (fun _ _ _ h => h) (Or.inl ⟨by rfl, ?_⟩) (by assumption) ?_
      · intro W0 hSw
        (try dsimp only at hSw)
        go_simp
      simp only [List.set_cons_zero, List.set_cons_succ]
      refine Tr.take_at 4 37 (.int .u32 f.W) rfl rfl (by kernel_rfl) (by kernel_rfl) (by kernel_rfl) (fun _ _ _ h => h) (Or.inl ⟨by rfl, ?_⟩) (by assumption) ?_
      · intro W0 hSw
        (try dsimp only at hSw)
        go_simp
      simp only [List.set_cons_zero, List.set_cons_succ]
      refine wpAnyH_ready (rs := [5, 10]) (by kernel_rfl) (by simp) ?_
      refine AllReadyH.cons rfl (fun K hK => ?_) (AllReadyH.cons rfl (fun K hK => ?_) AllReadyH.nil)
      ·
        go_simp
        refine (path_any (.agg #[.map mk, .map mu]) (nodesW l) mk mu nk fk f.W _ HF.out.1 (HT.out.below HBW.out) HTK.out).mono ?_
        rintro e wc5 ⟨u, rfl, ho, hbA⟩
        obtain ⟨Ap, cp, rfl, _⟩ := own_form ho
        obtain ⟨np, hnp⟩ : ∃ q, (pathN (nodesW l) f.W).length = q := ⟨_, rfl⟩
        have HNP := Lib.hid (show np ≤ 1001 by have := path_len HTK.out f.W; have := HT.out.few; omega)
        rw [hnp] at ho ⊢
        have HRP := Lib.hid (Rd.of_own ho)
        clear ho hnp
        replace HBW := Lib.hid (bstep HBW.out hbA)
        clear hbA
        go_simp
        refine hK.out _ _ ?_ (fun hHeld => ?_)
        · (try dsimp only)
          exact ⟨(Kf.out.belowS HBW.out).cellV (i := 0) rfl, (Kf.out.belowS HBW.out).cellV (i := 1) rfl, (Kf.out.belowS HBW.out).cellV (i := 2) rfl, (K7.out.belowS HBW.out).cellV (i := 0) rfl, (K7.out.belowS HBW.out).cellV (i := 1) rfl⟩
        clear hK K
        refine wpAnyH_ready (rs := [6, 10]) (by kernel_rfl) (by simp) ?_
        refine AllReadyH.cons rfl (fun K hK => ?_) (AllReadyH.cons rfl (fun K hK => ?_) AllReadyH.nil)
        ·
          go_simp
          have hl := rlost_any f A9 Ap n9 c9 np cp (shL l l.length) (pathN (nodesW l) f.W) (by have := HSHL.out; have := HLN.out; omega) (by have := HNP.out; omega) (HR9.out.below HBW.out) HRP.out
          rw [inU_sh, HG.out] at hl
          refine hl.mono ?_
          clear hl
          rintro e wc6 ⟨rfl, hbA⟩
          replace HBW := Lib.hid (bstep HBW.out hbA)
          replace HRP := Lib.hid (HRP.out.below hbA)
          clear hbA
          go_simp
          refine hK.out _ _ ?_ (fun hHeld => ?_)
          · (try dsimp only)
            exact ⟨(Kf.out.belowS HBW.out).cellV (i := 0) rfl, (Kf.out.belowS HBW.out).cellV (i := 1) rfl, (Kf.out.belowS HBW.out).cellV (i := 2) rfl, (K7.out.belowS HBW.out).cellV (i := 0) rfl, (K7.out.belowS HBW.out).cellV (i := 1) rfl⟩
          clear hK K
          refine Tr.take_at 7 32 (.tuple #[.agg #[.int .u32 g.W, .int .i64 g.R, .int .u32 g.T], .bool gb]) rfl rfl (by kernel_rfl) (by kernel_rfl) (by kernel_rfl) (fun _ _ _ h => h) (Or.inl ⟨by rfl, ?_⟩) (by assumption) ?_
          · intro W0 hSw
            (try dsimp only at hSw)
            go_simp
          simp only [List.set_cons_zero, List.set_cons_succ]
          refine Tr.take_at 8 40 (.agg #[.int .u32 g.W, .int .i64 g.R, .int .u32 g.T]) rfl rfl (by kernel_rfl) (by kernel_rfl) (by kernel_rfl) (fun _ _ _ h => h) (Or.inl ⟨by rfl, ?_⟩) (by assumption) ?_
          · intro W0 hSw
            (try dsimp only at hSw)
            go_simp
          simp only [List.set_cons_zero, List.set_cons_succ]
          refine Tr.take_at 9 41 (.bool gb) rfl rfl (by kernel_rfl) (by kernel_rfl) (by kernel_rfl) (fun _ _ _ h => h) (Or.inl ⟨by rfl, ?_⟩) (by assumption) ?_
          · intro W0 hSw
            (try dsimp only at hSw)
            go_simp
          simp only [List.set_cons_zero, List.set_cons_succ]
          refine wpAnyH_ready (rs := [10]) (by kernel_rfl) (by simp) ?_
          refine AllReadyH.cons rfl (fun K hK => ?_) AllReadyH.nil
          go_simp
          have KA10 := Lib.hid (show Blk (wc6.alloc (.cells #[.int .u32 0, .int .i64 0, .int .u32 0] 127)) (wc6.heap.size) 127 #[.int .u32 0, .int .i64 0, .int .u32 0] from Blk.new wc6 127 #[.int .u32 0, .int .i64 0, .int .u32 0])
          have HL10 := Lib.hid (show X2.heap.size ≤ wc6.heap.size from HBW.out.size)
          have hbA : Below wc6.heap.size wc6 ((wc6.alloc (.cells #[.int .u32 0, .int .i64 0, .int .u32 0] 127))) := bal (bre wc6) (.cells #[.int .u32 0, .int .i64 0, .int .u32 0] 127)
          replace HBW := Lib.hid (bstep HBW.out hbA)
          clear hbA
          refine hK.out _ _ ?_ (fun hHeld => ?_)
          · (try dsimp only)
            exact ⟨(Kf.out.belowS HBW.out).cellV (i := 0) rfl, (Kf.out.belowS HBW.out).cellV (i := 1) rfl, (Kf.out.belowS HBW.out).cellV (i := 2) rfl, (K7.out.belowS HBW.out).cellV (i := 0) rfl, (K7.out.belowS HBW.out).cellV (i := 1) rfl⟩
          clear hK K
          refine wpAnyH_ready (rs := [11]) (by kernel_rfl) (by simp) ?_
          refine AllReadyH.cons rfl (fun K hK => ?_) AllReadyH.nil
          refine Tr.wanted_plain rfl ?_
          refine store_mid0 rfl 127 _ _ rfl (wc6.heap.size) 0 #[.int .u32 g.W, .int .i64 g.R, .int .u32 g.T] (by rfl) (by rfl) (by have h := there_blk KA10.out; exact h) Tryz.sizeRf (by simp [Value.oneCell']) ?_
          have xK := blk_puts3 (.int .u32 g.W) (.int .i64 g.R) (.int .u32 g.T) KA10.out
          have xB := bsets HBW.out HL10.out (#[.int .u32 g.W, .int .i64 g.R, .int .u32 g.T] : Array Value).toList 0
          obtain ⟨wS11, hwS⟩ : ∃ wS, World.setCells (wc6.alloc (.cells #[.int .u32 0, .int .i64 0, .int .u32 0] 127)) (wc6.heap.size) 0 (#[.int .u32 g.W, .int .i64 g.R, .int .u32 g.T] : Array Value).toList = wS := ⟨_, rfl⟩
          rw [hwS] at xK xB ⊢
          replace HBW := Lib.hid xB
          replace KA10 := Lib.hid xK
          clear hwS xK xB
          refine hK.out _ _ ?_ (fun hHeld => ?_)
          · (try dsimp only)
            exact ⟨(Kf.out.belowS HBW.out).cellV (i := 0) rfl, (Kf.out.belowS HBW.out).cellV (i := 1) rfl, (Kf.out.belowS HBW.out).cellV (i := 2) rfl, (K7.out.belowS HBW.out).cellV (i := 0) rfl, (K7.out.belowS HBW.out).cellV (i := 1) rfl⟩
          clear hK K
          refine Tr.take_at 12 12 (.bool gb) rfl rfl (by kernel_rfl) (by kernel_rfl) (by kernel_rfl) (fun _ _ _ h => h) (Or.inl ⟨by rfl, ?_⟩) (by assumption) ?_
          · intro W0 hSw
            (try dsimp only at hSw)
            go_simp
          simp only [List.set_cons_zero, List.set_cons_succ]
          refine wpAnyH_done (by kernel_rfl) ?_ _
          refine NoPanic.normal ?_
          go_wp2_with fail
          go_meet
          exact ⟨_, rfl, rfl, HL10.out, KA10.out, HBW.out⟩
        ·
          go_simp
          have KA10 := Lib.hid (show Blk (wc5.alloc (.cells #[.int .u32 0, .int .i64 0, .int .u32 0] 127)) (wc5.heap.size) 127 #[.int .u32 0, .int .i64 0, .int .u32 0] from Blk.new wc5 127 #[.int .u32 0, .int .i64 0, .int .u32 0])
          have HL10 := Lib.hid (show X2.heap.size ≤ wc5.heap.size from HBW.out.size)
          have hbA : Below wc5.heap.size wc5 ((wc5.alloc (.cells #[.int .u32 0, .int .i64 0, .int .u32 0] 127))) := bal (bre wc5) (.cells #[.int .u32 0, .int .i64 0, .int .u32 0] 127)
          replace HBW := Lib.hid (bstep HBW.out hbA)
          replace HRP := Lib.hid (HRP.out.below hbA)
          clear hbA
          refine hK.out _ _ ?_ (fun hHeld => ?_)
          · (try dsimp only)
            exact ⟨(Kf.out.belowS HBW.out).cellV (i := 0) rfl, (Kf.out.belowS HBW.out).cellV (i := 1) rfl, (Kf.out.belowS HBW.out).cellV (i := 2) rfl, (K7.out.belowS HBW.out).cellV (i := 0) rfl, (K7.out.belowS HBW.out).cellV (i := 1) rfl⟩
          clear hK K
          refine wpAnyH_ready (rs := [6]) (by kernel_rfl) (by simp) ?_
          refine AllReadyH.cons rfl (fun K hK => ?_) AllReadyH.nil
          go_simp
          have hl := rlost_any f A9 Ap n9 c9 np cp (shL l l.length) (pathN (nodesW l) f.W) (by have := HSHL.out; have := HLN.out; omega) (by have := HNP.out; omega) (HR9.out.below HBW.out) HRP.out
          rw [inU_sh, HG.out] at hl
          refine hl.mono ?_
          clear hl
          rintro e wc6 ⟨rfl, hbA⟩
          replace HBW := Lib.hid (bstep HBW.out hbA)
          replace KA10 := Lib.hid (KA10.out.belowS hbA)
          replace HRP := Lib.hid (HRP.out.below hbA)
          clear hbA
          go_simp
          refine hK.out _ _ ?_ (fun hHeld => ?_)
          · (try dsimp only)
            exact ⟨(Kf.out.belowS HBW.out).cellV (i := 0) rfl, (Kf.out.belowS HBW.out).cellV (i := 1) rfl, (Kf.out.belowS HBW.out).cellV (i := 2) rfl, (K7.out.belowS HBW.out).cellV (i := 0) rfl, (K7.out.belowS HBW.out).cellV (i := 1) rfl⟩
          clear hK K
          refine Tr.take_at 7 32 (.tuple #[.agg #[.int .u32 g.W, .int .i64 g.R, .int .u32 g.T], .bool gb]) rfl rfl (by kernel_rfl) (by kernel_rfl) (by kernel_rfl) (fun _ _ _ h => h) (Or.inl ⟨by rfl, ?_⟩) (by assumption) ?_
          · intro W0 hSw
            (try dsimp only at hSw)
            go_simp
          simp only [List.set_cons_zero, List.set_cons_succ]
          refine Tr.take_at 8 40 (.agg #[.int .u32 g.W, .int .i64 g.R, .int .u32 g.T]) rfl rfl (by kernel_rfl) (by kernel_rfl) (by kernel_rfl) (fun _ _ _ h => h) (Or.inl ⟨by rfl, ?_⟩) (by assumption) ?_
          · intro W0 hSw
            (try dsimp only at hSw)
            go_simp
          simp only [List.set_cons_zero, List.set_cons_succ]
          refine Tr.take_at 9 41 (.bool gb) rfl rfl (by kernel_rfl) (by kernel_rfl) (by kernel_rfl) (fun _ _ _ h => h) (Or.inl ⟨by rfl, ?_⟩) (by assumption) ?_
          · intro W0 hSw
            (try dsimp only at hSw)
            go_simp
          simp only [List.set_cons_zero, List.set_cons_succ]
          refine wpAnyH_ready (rs := [11]) (by kernel_rfl) (by simp) ?_
          refine AllReadyH.cons rfl (fun K hK => ?_) AllReadyH.nil
          refine Tr.wanted_plain rfl ?_
          refine store_mid0 rfl 127 _ _ rfl (wc5.heap.size) 0 #[.int .u32 g.W, .int .i64 g.R, .int .u32 g.T] (by rfl) (by rfl) (by have h := there_blk KA10.out; exact h) Tryz.sizeRf (by simp [Value.oneCell']) ?_
          have xK := blk_puts3 (.int .u32 g.W) (.int .i64 g.R) (.int .u32 g.T) KA10.out
          have xB := bsets HBW.out HL10.out (#[.int .u32 g.W, .int .i64 g.R, .int .u32 g.T] : Array Value).toList 0
          obtain ⟨wS11, hwS⟩ : ∃ wS, World.setCells wc6 (wc5.heap.size) 0 (#[.int .u32 g.W, .int .i64 g.R, .int .u32 g.T] : Array Value).toList = wS := ⟨_, rfl⟩
          rw [hwS] at xK xB ⊢
          replace HBW := Lib.hid xB
          replace KA10 := Lib.hid xK
          clear hwS xK xB
          refine hK.out _ _ ?_ (fun hHeld => ?_)
          · (try dsimp only)
            exact ⟨(Kf.out.belowS HBW.out).cellV (i := 0) rfl, (Kf.out.belowS HBW.out).cellV (i := 1) rfl, (Kf.out.belowS HBW.out).cellV (i := 2) rfl, (K7.out.belowS HBW.out).cellV (i := 0) rfl, (K7.out.belowS HBW.out).cellV (i := 1) rfl⟩
          clear hK K
          refine Tr.take_at 12 12 (.bool gb) rfl rfl (by kernel_rfl) (by kernel_rfl) (by kernel_rfl) (fun _ _ _ h => h) (Or.inl ⟨by rfl, ?_⟩) (by assumption) ?_
          · intro W0 hSw
            (try dsimp only at hSw)
            go_simp
          simp only [List.set_cons_zero, List.set_cons_succ]
          refine wpAnyH_done (by kernel_rfl) ?_ _
          refine NoPanic.normal ?_
          go_wp2_with fail
          go_meet
          exact ⟨_, rfl, rfl, HL10.out, KA10.out, HBW.out⟩
      ·
        go_simp
        have KA10 := Lib.hid (show Blk (X2.alloc (.cells #[.int .u32 0, .int .i64 0, .int .u32 0] 127)).drew (X2.heap.size) 127 #[.int .u32 0, .int .i64 0, .int .u32 0] from Blk.new X2.drew 127 #[.int .u32 0, .int .i64 0, .int .u32 0])
        have HL10 := Lib.hid (show X2.heap.size ≤ X2.heap.size from HBW.out.size)
        have hbA : Below X2.drew.heap.size X2.drew ((X2.alloc (.cells #[.int .u32 0, .int .i64 0, .int .u32 0] 127)).drew) := bal (bre X2.drew) (.cells #[.int .u32 0, .int .i64 0, .int .u32 0] 127)
        replace HBW := Lib.hid (bstep HBW.out hbA)
        clear hbA
        refine hK.out _ _ ?_ (fun hHeld => ?_)
        · (try dsimp only)
          exact ⟨(Kf.out.belowS HBW.out).cellV (i := 0) rfl, (Kf.out.belowS HBW.out).cellV (i := 1) rfl, (Kf.out.belowS HBW.out).cellV (i := 2) rfl, (K7.out.belowS HBW.out).cellV (i := 0) rfl, (K7.out.belowS HBW.out).cellV (i := 1) rfl⟩
        clear hK K
        refine wpAnyH_ready (rs := [5]) (by kernel_rfl) (by simp) ?_
        refine AllReadyH.cons rfl (fun K hK => ?_) AllReadyH.nil
        go_simp
        refine (path_any (.agg #[.map mk, .map mu]) (nodesW l) mk mu nk fk f.W _ HF.out.1 (HT.out.below HBW.out) HTK.out).mono ?_
        rintro e wc5 ⟨u, rfl, ho, hbA⟩
        obtain ⟨Ap, cp, rfl, _⟩ := own_form ho
        obtain ⟨np, hnp⟩ : ∃ q, (pathN (nodesW l) f.W).length = q := ⟨_, rfl⟩
        have HNP := Lib.hid (show np ≤ 1001 by have := path_len HTK.out f.W; have := HT.out.few; omega)
        rw [hnp] at ho ⊢
        have HRP := Lib.hid (Rd.of_own ho)
        clear ho hnp
        replace HBW := Lib.hid (bstep HBW.out hbA)
        replace KA10 := Lib.hid (KA10.out.belowS hbA)
        clear hbA
        go_simp
        refine hK.out _ _ ?_ (fun hHeld => ?_)
        · (try dsimp only)
          exact ⟨(Kf.out.belowS HBW.out).cellV (i := 0) rfl, (Kf.out.belowS HBW.out).cellV (i := 1) rfl, (Kf.out.belowS HBW.out).cellV (i := 2) rfl, (K7.out.belowS HBW.out).cellV (i := 0) rfl, (K7.out.belowS HBW.out).cellV (i := 1) rfl⟩
        clear hK K
        refine wpAnyH_ready (rs := [6]) (by kernel_rfl) (by simp) ?_
        refine AllReadyH.cons rfl (fun K hK => ?_) AllReadyH.nil
        go_simp
        have hl := rlost_any f A9 Ap n9 c9 np cp (shL l l.length) (pathN (nodesW l) f.W) (by have := HSHL.out; have := HLN.out; omega) (by have := HNP.out; omega) (HR9.out.below HBW.out) HRP.out
        rw [inU_sh, HG.out] at hl
        refine hl.mono ?_
        clear hl
        rintro e wc6 ⟨rfl, hbA⟩
        replace HBW := Lib.hid (bstep HBW.out hbA)
        replace KA10 := Lib.hid (KA10.out.belowS hbA)
        replace HRP := Lib.hid (HRP.out.below hbA)
        clear hbA
        go_simp
        refine hK.out _ _ ?_ (fun hHeld => ?_)
        · (try dsimp only)
          exact ⟨(Kf.out.belowS HBW.out).cellV (i := 0) rfl, (Kf.out.belowS HBW.out).cellV (i := 1) rfl, (Kf.out.belowS HBW.out).cellV (i := 2) rfl, (K7.out.belowS HBW.out).cellV (i := 0) rfl, (K7.out.belowS HBW.out).cellV (i := 1) rfl⟩
        clear hK K
        refine Tr.take_at 7 32 (.tuple #[.agg #[.int .u32 g.W, .int .i64 g.R, .int .u32 g.T], .bool gb]) rfl rfl (by kernel_rfl) (by kernel_rfl) (by kernel_rfl) (fun _ _ _ h => h) (Or.inl ⟨by rfl, ?_⟩) (by assumption) ?_
        · intro W0 hSw
          (try dsimp only at hSw)
          go_simp
        simp only [List.set_cons_zero, List.set_cons_succ]
        refine Tr.take_at 8 40 (.agg #[.int .u32 g.W, .int .i64 g.R, .int .u32 g.T]) rfl rfl (by kernel_rfl) (by kernel_rfl) (by kernel_rfl) (fun _ _ _ h => h) (Or.inl ⟨by rfl, ?_⟩) (by assumption) ?_
        · intro W0 hSw
          (try dsimp only at hSw)
          go_simp
        simp only [List.set_cons_zero, List.set_cons_succ]
        refine Tr.take_at 9 41 (.bool gb) rfl rfl (by kernel_rfl) (by kernel_rfl) (by kernel_rfl) (fun _ _ _ h => h) (Or.inl ⟨by rfl, ?_⟩) (by assumption) ?_
        · intro W0 hSw
          (try dsimp only at hSw)
          go_simp
        simp only [List.set_cons_zero, List.set_cons_succ]
        refine wpAnyH_ready (rs := [11]) (by kernel_rfl) (by simp) ?_
        refine AllReadyH.cons rfl (fun K hK => ?_) AllReadyH.nil
        refine Tr.wanted_plain rfl ?_
        refine store_mid0 rfl 127 _ _ rfl (X2.heap.size) 0 #[.int .u32 g.W, .int .i64 g.R, .int .u32 g.T] (by rfl) (by rfl) (by have h := there_blk KA10.out; exact h) Tryz.sizeRf (by simp [Value.oneCell']) ?_
        have xK := blk_puts3 (.int .u32 g.W) (.int .i64 g.R) (.int .u32 g.T) KA10.out
        have xB := bsets HBW.out HL10.out (#[.int .u32 g.W, .int .i64 g.R, .int .u32 g.T] : Array Value).toList 0
        obtain ⟨wS11, hwS⟩ : ∃ wS, World.setCells wc6 (X2.heap.size) 0 (#[.int .u32 g.W, .int .i64 g.R, .int .u32 g.T] : Array Value).toList = wS := ⟨_, rfl⟩
        rw [hwS] at xK xB ⊢
        replace HBW := Lib.hid xB
        replace KA10 := Lib.hid xK
        clear hwS xK xB
        refine hK.out _ _ ?_ (fun hHeld => ?_)
        · (try dsimp only)
          exact ⟨(Kf.out.belowS HBW.out).cellV (i := 0) rfl, (Kf.out.belowS HBW.out).cellV (i := 1) rfl, (Kf.out.belowS HBW.out).cellV (i := 2) rfl, (K7.out.belowS HBW.out).cellV (i := 0) rfl, (K7.out.belowS HBW.out).cellV (i := 1) rfl⟩
        clear hK K
        refine Tr.take_at 12 12 (.bool gb) rfl rfl (by kernel_rfl) (by kernel_rfl) (by kernel_rfl) (fun _ _ _ h => h) (Or.inl ⟨by rfl, ?_⟩) (by assumption) ?_
        · intro W0 hSw
          (try dsimp only at hSw)
          go_simp
        simp only [List.set_cons_zero, List.set_cons_succ]
        refine wpAnyH_done (by kernel_rfl) ?_ _
        refine NoPanic.normal ?_
        go_wp2_with fail
        go_meet
        exact ⟨_, rfl, rfl, HL10.out, KA10.out, HBW.out⟩
  obtain ⟨q11, rfl, rfl, hg11, hk11, hbc⟩ := hcut
  have K11 := Lib.hid hk11
  clear hg11 hk11
  replace HT := Lib.hid (HT.out.below hbc)
  replace HV := Lib.hid (HV.out.below hbc)
  replace HR9 := Lib.hid (HR9.out.below hbc)
  replace Kf := Lib.hid (Kf.out.belowS hbc)
  replace K7 := Lib.hid (K7.out.belowS hbc)
  replace K8 := Lib.hid (K8.out.belowS hbc)
  replace HB := Lib.hid (bstep HB.out hbc)
  replace K9 := Lib.hid (K9.out.belowS hbc)
  clear hbc
  have a0 := K9.out.cellV (i := 0) (v := .int .u32 g.W) rfl
  have a1 := K9.out.cellV (i := 1) (v := .int .i64 g.R) rfl
  have a2 := K9.out.cellV (i := 2) (v := .int .u32 g.T) rfl
  have c0 := K8.out.cellV (i := 0) (v := .slice Av nv cv) rfl
  have c1 := K8.out.cellV (i := 1) (v := .map mv) rfl
  have b0 := K7.out.cellV (i := 0) (v := .map mk) rfl
  have b1 := K7.out.cellV (i := 1) (v := .map mu) rfl
  go_wp2_with fail
  have hl := lost_any g HGK.out HT.out HTK.out HV.out
  rw [HG2.out] at hl
  refine hl.mono ?_
  clear hl
  rintro e w4 ⟨rfl, hb4⟩
  clear a0 a1 a2 c0 c1 b0 b1
  replace HT := Lib.hid (HT.out.below hb4)
  replace HV := Lib.hid (HV.out.below hb4)
  replace HR9 := Lib.hid (HR9.out.below hb4)
  replace Kf := Lib.hid (Kf.out.belowS hb4)
  replace K7 := Lib.hid (K7.out.belowS hb4)
  replace K8 := Lib.hid (K8.out.belowS hb4)
  replace HB := Lib.hid (bstep HB.out hb4)
  replace K9 := Lib.hid (K9.out.belowS hb4)
  replace K11 := Lib.hid (K11.out.belowS hb4)
  clear hb4
  go_upto_region 7 with fail
  have hba := bal (bre w4) (.cells #[.int .u32 g.W, .int .i64 g.R, .int .u32 g.T] 122)
  have xHT := HT.out.below hba
  have xHV := HV.out.below hba
  have xHR9 := HR9.out.below hba
  have xKf := Kf.out.belowS hba
  have xK7 := K7.out.belowS hba
  have xK8 := K8.out.belowS hba
  have xHB := bal HB.out (.cells #[.int .u32 g.W, .int .i64 g.R, .int .u32 g.T] 122)
  have xK9 := K9.out.belowS hba
  have xK11 := K11.out.belowS hba
  have xK13 := Blk.new w4 122 #[.int .u32 g.W, .int .i64 g.R, .int .u32 g.T]
  obtain ⟨X4, hX4⟩ : ∃ X4, w4.alloc (.cells #[.int .u32 g.W, .int .i64 g.R, .int .u32 g.T] 122) = X4 := ⟨_, rfl⟩
  rw [hX4] at xHT xHV xHR9 xKf xK7 xK8 xHB xK9 xK11 xK13 ⊢
  replace HT := Lib.hid xHT
  replace HV := Lib.hid xHV
  replace HR9 := Lib.hid xHR9
  replace Kf := Lib.hid xKf
  replace K7 := Lib.hid xK7
  replace K8 := Lib.hid xK8
  replace HB := Lib.hid xHB
  replace K9 := Lib.hid xK9
  replace K11 := Lib.hid xK11
  have K13 := Lib.hid xK13
  clear hba hX4 xHT xHV xHR9 xKf xK7 xK8 xHB xK9 xK11 xK13
  go_wp2_with fail
  refine (awake37_any _).mono ?_
  rintro e w5 ⟨rfl, hb5⟩
  replace HT := Lib.hid (HT.out.below hb5)
  replace HV := Lib.hid (HV.out.below hb5)
  replace HR9 := Lib.hid (HR9.out.below hb5)
  replace Kf := Lib.hid (Kf.out.belowS hb5)
  replace K7 := Lib.hid (K7.out.belowS hb5)
  replace K8 := Lib.hid (K8.out.belowS hb5)
  replace HB := Lib.hid (bstep HB.out hb5)
  replace K9 := Lib.hid (K9.out.belowS hb5)
  replace K11 := Lib.hid (K11.out.belowS hb5)
  replace K13 := Lib.hid (K13.out.belowS hb5)
  clear hb5
  have a0 := K9.out.cellV (i := 0) (v := .int .u32 g.W) rfl
  have a1 := K9.out.cellV (i := 1) (v := .int .i64 g.R) rfl
  have a2 := K9.out.cellV (i := 2) (v := .int .u32 g.T) rfl
  have b0 := K11.out.cellV (i := 0) (v := .int .u32 g.W) rfl
  have b1 := K11.out.cellV (i := 1) (v := .int .i64 g.R) rfl
  have b2 := K11.out.cellV (i := 2) (v := .int .u32 g.T) rfl
  have c0 := K13.out.cellV (i := 0) (v := .int .u32 g.W) rfl
  have c1 := K13.out.cellV (i := 1) (v := .int .i64 g.R) rfl
  have c2 := K13.out.cellV (i := 2) (v := .int .u32 g.T) rfl
  go_wp2_with fail
  go_ret
  exact ⟨rfl, HB.out⟩
end Go.Proofs.YtbkkecijcijhdaaGreat
end
