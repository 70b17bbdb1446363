/-
  The walks of focus: Lost, Set; and the document's.
-/
import Derived.Test.YtbkkecijcijhdaaGreatZF29
section
namespace Go.Proofs.YtbkkecijcijhdaaGreat
open Go.RowKit Go.Maps Go.Shelf

section
variable {w : World} {v : Value} {RW RH : Nat} {ns : Nodes} {bx : Int → Option VB} {og : Int → Int × Int} {mk mu : Option Nat} {nk : Nat} {fk : Int → Option Value}
set_option maxRecDepth 100000 in
set_option maxHeartbeats 4000000 in
theorem lost_any (f : FC) (hf : f.ok) (hT : TreeIs w (.agg #[.map mk, .map mu]) ns mk mu nk fk) (htk : TreeOk ns) (hV : SeenG w v RW RH ns bx og) :
    Calls Tryz.prog 64 #[f.v, .agg #[.map mk, .map mu], v] w fun e w' => e = .returned (.tuple #[(lostF f (shV37 ns bx) (pathN ns f.W)).1.v, .bool (lostF f (shV37 ns bx) (pathN ns f.W)).2]) ∧ Below w.heap.size w w' := by
  obtain ⟨Av, nv, cv, mv, rfl⟩ := hV.form
  have HT := Lib.hid hT
  have HV := Lib.hid hV
  have HTK := Lib.hid htk
  have HF := Lib.hid hf
  clear hT hV htk hf
  go_enter Tryz.func64, Tryz.ntmps64
  go_upto_region 1 with fail
  have xB := bal (bal (bal (bal (bre w) (.cells #[.int .u32 f.W, .int .i64 f.R, .int .u32 f.T] 122)) (.cells #[.map mk, .map mu] 34)) (.cells #[.slice Av nv cv, .map mv] 43)) (.cells #[.int .u32 0, .int .i64 0, .int .u32 0] 122)
  have xK3 := (((Blk.new w  122 #[.int .u32 f.W, .int .i64 f.R, .int .u32 f.T]).alloc (.cells #[.map mk, .map mu] 34)).alloc (.cells #[.slice Av nv cv, .map mv] 43)).alloc (.cells #[.int .u32 0, .int .i64 0, .int .u32 0] 122)
  have xK4 := ((blk_new2 w (.cells #[.int .u32 f.W, .int .i64 f.R, .int .u32 f.T] 122) 34 #[.map mk, .map mu]).alloc (.cells #[.slice Av nv cv, .map mv] 43)).alloc (.cells #[.int .u32 0, .int .i64 0, .int .u32 0] 122)
  have xK5 := (blk_new3 w (.cells #[.int .u32 f.W, .int .i64 f.R, .int .u32 f.T] 122) (.cells #[.map mk, .map mu] 34) 43 #[.slice Av nv cv, .map mv]).alloc (.cells #[.int .u32 0, .int .i64 0, .int .u32 0] 122)
  have xK6 := blk_newC w (.cells #[.int .u32 f.W, .int .i64 f.R, .int .u32 f.T] 122) (.cells #[.map mk, .map mu] 34) (.cells #[.slice Av nv cv, .map mv] 43) 122 #[.int .u32 0, .int .i64 0, .int .u32 0]
  obtain ⟨X0, hX⟩ : ∃ X, ((((w.alloc (.cells #[.int .u32 f.W, .int .i64 f.R, .int .u32 f.T] 122)).alloc (.cells #[.map mk, .map mu] 34)).alloc (.cells #[.slice Av nv cv, .map mv] 43)).alloc (.cells #[.int .u32 0, .int .i64 0, .int .u32 0] 122)) = X := ⟨_, rfl⟩
  rw [hX] at xB xK3 xK4 xK5 xK6 ⊢
  have HB := Lib.hid xB
  have K3 := Lib.hid xK3
  have K4 := Lib.hid xK4
  have K5 := Lib.hid xK5
  have K6 := Lib.hid xK6
  clear hX xB xK3 xK4 xK5 xK6
  have a0 := K3.out.cellV (i := 0) (v := .int .u32 f.W) rfl
  have a1 := K3.out.cellV (i := 1) (v := .int .i64 f.R) rfl
  have a2 := K3.out.cellV (i := 2) (v := .int .u32 f.T) rfl
  have b0 := K4.out.cellV (i := 0) (v := .map mk) rfl
  have b1 := K4.out.cellV (i := 1) (v := .map mu) rfl
  have c0 := K5.out.cellV (i := 0) (v := .slice Av nv cv) rfl
  have c1 := K5.out.cellV (i := 1) (v := .map mv) rfl
  have kc0 := K6.out.cellV (i := 0) (v := .int .u32 0) rfl
  have kc1 := K6.out.cellV (i := 1) (v := .int .i64 0) rfl
  have kc2 := K6.out.cellV (i := 2) (v := .int .u32 0) rfl
  have kf0 := K6.out.frozen 0
  have kf1 := K6.out.frozen 1
  have kf2 := K6.out.frozen 2
  have kl := K6.out.lt
  by_cases h0 : f.W = 0
  · have HE := Lib.hid (show lostF f (shV37 ns bx) (pathN ns f.W) = (f, false) by unfold lostF; rw [if_pos (.inl h0)])
    have h0' : (f.W == 0) = true := by simpa using h0
    clear h0
    go_wp2_with fail
    have rK := (((K6.out).set_ 0 (.int .u32 f.W)).set_ 1 (.int .i64 f.R)).set_ 2 (.int .u32 f.T)
    have r0 := rK.cellV (i := 0) (v := .int .u32 f.W) rfl
    have r1 := rK.cellV (i := 1) (v := .int .i64 f.R) rfl
    have r2 := rK.cellV (i := 2) (v := .int .u32 f.T) rfl
    refine bodyPost_ret (v := .tuple #[.agg #[.int .u32 f.W, .int .i64 f.R, .int .u32 f.T], .bool false]) (by simp [results, Tryz.results64, go_sem, r0, r1, r2]) rfl ?_
    exact ⟨by rw [HE.out], bset (p := ⟨w.heap.size + 1 + 1 + 1, 2, none⟩) (bset (p := ⟨w.heap.size + 1 + 1 + 1, 1, none⟩) (bset (p := ⟨w.heap.size + 1 + 1 + 1, 0, none⟩) (HB.out) (by show w.heap.size ≤ w.heap.size + 1 + 1 + 1; omega) (.int .u32 f.W)) (by show w.heap.size ≤ w.heap.size + 1 + 1 + 1; omega) (.int .i64 f.R)) (by show w.heap.size ≤ w.heap.size + 1 + 1 + 1; omega) (.int .u32 f.T)⟩
  · have h0' : (f.W == 0) = false := by simpa using h0
    go_wp2_with fail
    refine ((HV.out.below HB.out).viewable HTK.out f.W HF.out.1).mono ?_
    rintro e w1 ⟨rfl, hb1⟩
    have HB1 := Lib.hid hb1
    clear hb1 a0 a1 a2 b0 b1 c0 c1 kc0 kc1 kc2 kf0 kf1 kf2 kl
    replace K3 := Lib.hid (K3.out.belowS HB1.out)
    replace K4 := Lib.hid (K4.out.belowS HB1.out)
    replace K5 := Lib.hid (K5.out.belowS HB1.out)
    replace K6 := Lib.hid (K6.out.belowS HB1.out)
    replace HB := Lib.hid (bstep HB.out HB1.out)
    clear HB1
    have a0 := K3.out.cellV (i := 0) (v := .int .u32 f.W) rfl
    have a1 := K3.out.cellV (i := 1) (v := .int .i64 f.R) rfl
    have a2 := K3.out.cellV (i := 2) (v := .int .u32 f.T) rfl
    have b0 := K4.out.cellV (i := 0) (v := .map mk) rfl
    have b1 := K4.out.cellV (i := 1) (v := .map mu) rfl
    have c0 := K5.out.cellV (i := 0) (v := .slice Av nv cv) rfl
    have c1 := K5.out.cellV (i := 1) (v := .map mv) rfl
    have kc0 := K6.out.cellV (i := 0) (v := .int .u32 0) rfl
    have kc1 := K6.out.cellV (i := 1) (v := .int .i64 0) rfl
    have kc2 := K6.out.cellV (i := 2) (v := .int .u32 0) rfl
    have kf0 := K6.out.frozen 0
    have kf1 := K6.out.frozen 1
    have kf2 := K6.out.frozen 2
    have kl := K6.out.lt
    obtain ⟨bq, hbq⟩ : ∃ bq, (hasN ns f.W && vw ns bx f.W) = bq := ⟨_, rfl⟩
    rw [hbq]
    have HQ := Lib.hid hbq
    clear hbq
    cases bq with
    | true =>
      have HE := Lib.hid (show lostF f (shV37 ns bx) (pathN ns f.W) = (f, false) by unfold lostF; rw [if_pos (.inr HQ.out)])
      go_wp2_with fail
      have rK := (((K6.out).set_ 0 (.int .u32 f.W)).set_ 1 (.int .i64 f.R)).set_ 2 (.int .u32 f.T)
      have r0 := rK.cellV (i := 0) (v := .int .u32 f.W) rfl
      have r1 := rK.cellV (i := 1) (v := .int .i64 f.R) rfl
      have r2 := rK.cellV (i := 2) (v := .int .u32 f.T) rfl
      refine bodyPost_ret (v := .tuple #[.agg #[.int .u32 f.W, .int .i64 f.R, .int .u32 f.T], .bool false]) (by simp [results, Tryz.results64, go_sem, r0, r1, r2]) rfl ?_
      exact ⟨by rw [HE.out], bset (p := ⟨w.heap.size + 1 + 1 + 1, 2, none⟩) (bset (p := ⟨w.heap.size + 1 + 1 + 1, 1, none⟩) (bset (p := ⟨w.heap.size + 1 + 1 + 1, 0, none⟩) (HB.out) (by show w.heap.size ≤ w.heap.size + 1 + 1 + 1; omega) (.int .u32 f.W)) (by show w.heap.size ≤ w.heap.size + 1 + 1 + 1; omega) (.int .i64 f.R)) (by show w.heap.size ≤ w.heap.size + 1 + 1 + 1; omega) (.int .u32 f.T)⟩
    | false =>
      have HNO := Lib.hid (show ¬ (f.W = 0 ∨ shV37 ns bx f.W = true) from fun h => by
        rcases h with h | h
        · exact h0 h
        · rw [show shV37 ns bx f.W = false from HQ.out] at h; cases h)
      by_cases h1 : f.R = 1
      · have HE := Lib.hid (show lostF f (shV37 ns bx) (pathN ns f.W) = (⟨1, 1, f.T⟩, true) by unfold lostF; rw [if_neg HNO.out, if_pos h1])
        have h1' : (f.R == 1) = true := by simpa using h1
        clear h1
        go_wp2_with fail
        have rK := (((K6.out).set_ 0 (.int .u32 1)).set_ 1 (.int .i64 1)).set_ 2 (.int .u32 f.T)
        have r0 := rK.cellV (i := 0) (v := .int .u32 1) rfl
        have r1 := rK.cellV (i := 1) (v := .int .i64 1) rfl
        have r2 := rK.cellV (i := 2) (v := .int .u32 f.T) rfl
        refine bodyPost_ret (v := .tuple #[.agg #[.int .u32 1, .int .i64 1, .int .u32 f.T], .bool true]) (by simp [results, Tryz.results64, go_sem, r0, r1, r2]) rfl ?_
        exact ⟨by rw [HE.out], bset (p := ⟨w.heap.size + 1 + 1 + 1, 2, none⟩) (bset (p := ⟨w.heap.size + 1 + 1 + 1, 1, none⟩) (bset (p := ⟨w.heap.size + 1 + 1 + 1, 0, none⟩) (HB.out) (by show w.heap.size ≤ w.heap.size + 1 + 1 + 1; omega) (.int .u32 1)) (by show w.heap.size ≤ w.heap.size + 1 + 1 + 1; omega) (.int .i64 1)) (by show w.heap.size ≤ w.heap.size + 1 + 1 + 1; omega) (.int .u32 f.T)⟩
      · by_cases h2 : f.R = 2
        · have HE := Lib.hid (show lostF f (shV37 ns bx) (pathN ns f.W) = (⟨(((pathN ns f.W).drop 1).find? (shV37 ns bx)).getD 1, 0, f.T⟩, true) by unfold lostF; rw [if_neg HNO.out, if_neg h1, if_pos h2])
          have h1' : (f.R == 1) = false := by simpa using h1
          have h2' : (f.R == 2) = true := by simpa using h2
          clear h2
          go_wp2_with fail
          refine (path_any (.agg #[.map mk, .map mu]) ns mk mu nk fk f.W _ HF.out.1 (HT.out.below HB.out) HTK.out).mono ?_
          rintro e w2 ⟨u, rfl, ho, hb2⟩
          obtain ⟨Ap, cp, rfl, hcp⟩ := own_form ho
          have HRP := Lib.hid (Rd.of_own ho)
          have HB1 := Lib.hid hb2
          have HCP := Lib.hid hcp
          have HPL := Lib.hid (show (pathN ns f.W).length ≤ 1001 by have := path_len HTK.out f.W; have := HT.out.few; omega)
          have HPO := Lib.hid (show ∀ i ∈ pathN ns f.W, 0 ≤ i ∧ i ≤ 4294967295 from fun i hi => path_ok HT.out.ok HTK.out HF.out.1 hi)
          clear hb2 ho hcp h2' h1' a0 a1 a2 b0 b1 c0 c1 kc0 kc1 kc2 kf0 kf1 kf2 kl
          replace K3 := Lib.hid (K3.out.belowS HB1.out)
          replace K5 := Lib.hid (K5.out.belowS HB1.out)
          replace K6 := Lib.hid (K6.out.belowS HB1.out)
          replace HB := Lib.hid (bstep HB.out HB1.out)
          clear HB1
          have a0 := K3.out.cellV (i := 0) (v := .int .u32 f.W) rfl
          have a1 := K3.out.cellV (i := 1) (v := .int .i64 f.R) rfl
          have a2 := K3.out.cellV (i := 2) (v := .int .u32 f.T) rfl
          have c0 := K5.out.cellV (i := 0) (v := .slice Av nv cv) rfl
          have c1 := K5.out.cellV (i := 1) (v := .map mv) rfl
          have kc0 := K6.out.cellV (i := 0) (v := .int .u32 0) rfl
          have kc1 := K6.out.cellV (i := 1) (v := .int .i64 0) rfl
          have kc2 := K6.out.cellV (i := 2) (v := .int .u32 0) rfl
          have kf0 := K6.out.frozen 0
          have kf1 := K6.out.frozen 1
          have kf2 := K6.out.frozen 2
          have kl := K6.out.lt
          obtain ⟨P, hP⟩ : ∃ P, pathN ns f.W = P := ⟨_, rfl⟩
          rw [hP] at HRP HPL HPO HCP HE ⊢
          have HPE := Lib.hid hP
          clear hP
          obtain ⟨z, hz⟩ : ∃ z, ((P.drop 1).find? (shV37 ns bx)).getD 1 = z := ⟨_, rfl⟩
          have HZ := Lib.hid hz
          clear hz
          by_cases hp0 : P.length = 0
          · have HE2 := Lib.hid (show lostF f (shV37 ns bx) P = (⟨1, 0, f.T⟩, true) by rw [HE.out, List.eq_nil_of_length_eq_zero hp0]; rfl)
            rw [hp0]
            clear hp0 HE
            go_wp2_with fail
            have rK := (((K6.out).set_ 0 (.int .u32 1)).set_ 1 (.int .i64 0)).set_ 2 (.int .u32 f.T)
            have r0 := rK.cellV (i := 0) (v := .int .u32 1) rfl
            have r1 := rK.cellV (i := 1) (v := .int .i64 0) rfl
            have r2 := rK.cellV (i := 2) (v := .int .u32 f.T) rfl
            refine bodyPost_ret (v := .tuple #[.agg #[.int .u32 1, .int .i64 0, .int .u32 f.T], .bool true]) (by simp [results, Tryz.results64, go_sem, r0, r1, r2]) rfl ?_
            exact ⟨by rw [HPE.out, HE2.out], bset (p := ⟨w.heap.size + 1 + 1 + 1, 2, none⟩) (bset (p := ⟨w.heap.size + 1 + 1 + 1, 1, none⟩) (bset (p := ⟨w.heap.size + 1 + 1 + 1, 0, none⟩) (HB.out) (by show w.heap.size ≤ w.heap.size + 1 + 1 + 1; omega) (.int .u32 1)) (by show w.heap.size ≤ w.heap.size + 1 + 1 + 1; omega) (.int .i64 0)) (by show w.heap.size ≤ w.heap.size + 1 + 1 + 1; omega) (.int .u32 f.T)⟩
          · obtain ⟨m, hm⟩ : ∃ m, P.length = m + 1 := ⟨P.length - 1, by omega⟩
            obtain ⟨cq, hcq⟩ : ∃ cq, cp = cq + 1 := ⟨cp - 1, by have := HCP.out; omega⟩
            obtain ⟨b, off, rfl, hb, hc⟩ := HRP.out.2 (by omega)
            subst hcq
            rw [hm]
            have HMC := Lib.hid (show m ≤ cq by have := HCP.out; omega)
            obtain ⟨ofs, hofs⟩ : ∃ ofs, (if cq = 0 then off else off + 1) = ofs := ⟨_, rfl⟩
            have HRT := Lib.hid (show Rd w2 (some ⟨b, ofs, none⟩) m (U32 (P.drop 1)) by
              refine ⟨by rw [U32_len, List.length_drop]; omega, fun h0 => ⟨b, ofs, rfl, hb, fun j x hj => ?_⟩⟩
              have hq : ¬ cq = 0 := by have := HMC.out; omega
              rw [if_neg hq] at hofs
              rw [← hofs, show off + 1 + j = off + (j + 1) by omega]
              refine hc (j + 1) x ?_
              unfold U32 at hj ⊢
              rw [List.map_drop, List.getElem?_drop] at hj
              have e1 : 1 + j = j + 1 := by omega
              rw [e1] at hj
              exact hj)
            have HPL2 := Lib.hid (show m ≤ 1001 by have := HPL.out; omega)
            have HPO2 := Lib.hid (show ∀ i ∈ P.drop 1, 0 ≤ i ∧ i ≤ 4294967295 from fun i hi => HPO.out i (List.mem_of_mem_drop hi))
            have HOFS := Lib.hid hofs
            clear hm hp0 hb hc hofs
            have m1 : (1 : Int) ≤ (m : Int) + 1 := by omega
            have m2 : (1 : Int) ≤ (cq : Int) + 1 := by omega
            have m3 : (m : Int) ≤ (cq : Int) := by have := HMC.out; omega
            have m4 : (m : Int) + 1 ≤ 2000 := by have := HPL2.out; omega
            have m5 : (0 : Int) < (m : Int) + 1 := by omega
            clear a0 a1 a2 c0 c1 kc0 kc1 kc2 kf0 kf1 kf2 kl
            go_upto_region 10 with fail
            go_cut [8] from 47 (fun s8 wx => s8 = .int .u32 z ∧ Below w2.heap.size w2 wx)
            case first =>
              as_aux_lemma =>
                by_cases hcq : cq = 0
                · have hof : off = ofs := by rw [← HOFS.out, if_pos hcq]
                  subst hof
                  subst hcq
                  obtain rfl : m = 0 := by omega
                  have HBW := Lib.hid (show Below w2.heap.size w2 w2.drew from (bre w2).drew)
                  refine wp_region_noPanic ?_
                  refine wp_region_held_drew (S := (fun w' => w'.cell? ⟨w.heap.size + 1 + 1, 0, none⟩ = some (.slice Av nv cv) ∧ w'.cell? ⟨w.heap.size + 1 + 1, 1, none⟩ = some (.map mv))) (by kernel_rfl) ?_ (fun hHeld => ?_)
                  · (try dsimp only)
                    exact ⟨(K5.out.belowS HBW.out).cellV (i := 0) rfl, (K5.out.belowS HBW.out).cellV (i := 1) rfl⟩
                  refine Tr.take_at 0 36 (.agg #[.slice Av nv cv, .map mv]) rfl rfl (by kernel_rfl) (by kernel_rfl) (by kernel_rfl) (fun _ _ _ h => h) (Or.inl ⟨by rfl, ?_⟩) (by assumption) ?_
                  · intro W0 hSw
                    (try dsimp only at hSw)
                    go_simp
                  simp only [List.set_cons_zero, List.set_cons_succ]
                  refine Tr.take_at 1 37 (.slice (some ⟨b, off, none⟩) (0 + 1) (0 + 1)) rfl rfl (by kernel_rfl) (by kernel_rfl) (by kernel_rfl) (fun _ _ _ h => h) (Or.inl ⟨by rfl, ?_⟩) (by assumption) ?_
                  · intro W0 hSw
                    (try dsimp only at hSw)
                    go_simp
                  simp only [List.set_cons_zero, List.set_cons_succ]
                  refine Tr.take_at 2 38 (.slice (some ⟨b, off, none⟩) 0 0) rfl rfl (by kernel_rfl) (by kernel_rfl) (by kernel_rfl) (fun _ _ _ h => h) (Or.inl ⟨by rfl, ?_⟩) (by assumption) ?_
                  · intro W0 hSw
                    (try dsimp only at hSw)
                    go_simp
                  simp only [List.set_cons_zero, List.set_cons_succ]
                  refine wpAnyH_ready (rs := [3]) (by kernel_rfl) (by simp) ?_
                  refine AllReadyH.cons rfl (fun K hK => ?_) AllReadyH.nil
                  go_simp
                  refine (first37_any (some ⟨b, off, none⟩) 0 0 (P.drop 1) _ (by have := HPL2.out; omega) (HRT.out.below HBW.out) (HV.out.below (bstep HB.out HBW.out)) HTK.out HPO2.out).mono ?_
                  rintro e wc3 ⟨rfl, hbA⟩
                  rw [HZ.out]
                  replace HBW := Lib.hid (bstep HBW.out hbA)
                  clear hbA
                  go_simp
                  refine hK.out _ _ ?_ (fun hHeld => ?_)
                  · (try dsimp only)
                    exact ⟨(K5.out.belowS HBW.out).cellV (i := 0) rfl, (K5.out.belowS HBW.out).cellV (i := 1) rfl⟩
                  clear hK K
                  refine Tr.take_at 4 8 (.int .u32 z) rfl rfl (by kernel_rfl) (by kernel_rfl) (by kernel_rfl) (fun _ _ _ h => h) (Or.inl ⟨by rfl, ?_⟩) (by assumption) ?_
                  · intro W0 hSw
                    (try dsimp only at hSw)
                    go_simp
                  simp only [List.set_cons_zero, List.set_cons_succ]
                  refine wpAnyH_done (by kernel_rfl) ?_ _
                  refine NoPanic.normal ?_
                  go_wp2_with fail
                  go_meet
                  exact ⟨rfl, HBW.out⟩
                · have hof : off + 1 = ofs := by rw [← HOFS.out, if_neg hcq]
                  subst hof
                  have hcq1 : ¬ ((1 : Int) = (cq : Int) + 1) := by omega
                  have HBW := Lib.hid (show Below w2.heap.size w2 w2.drew from (bre w2).drew)
                  refine wp_region_noPanic ?_
                  refine wp_region_held_drew (S := (fun w' => w'.cell? ⟨w.heap.size + 1 + 1, 0, none⟩ = some (.slice Av nv cv) ∧ w'.cell? ⟨w.heap.size + 1 + 1, 1, none⟩ = some (.map mv))) (by kernel_rfl) ?_ (fun hHeld => ?_)
                  · (try dsimp only)
                    exact ⟨(K5.out.belowS HBW.out).cellV (i := 0) rfl, (K5.out.belowS HBW.out).cellV (i := 1) rfl⟩
                  refine Tr.take_at 0 36 (.agg #[.slice Av nv cv, .map mv]) rfl rfl (by kernel_rfl) (by kernel_rfl) (by kernel_rfl) (fun _ _ _ h => h) (Or.inl ⟨by rfl, ?_⟩) (by assumption) ?_
                  · intro W0 hSw
                    (try dsimp only at hSw)
                    go_simp
                  simp only [List.set_cons_zero, List.set_cons_succ]
                  refine Tr.take_at 1 37 (.slice (some ⟨b, off, none⟩) (m + 1) (cq + 1)) rfl rfl (by kernel_rfl) (by kernel_rfl) (by kernel_rfl) (fun _ _ _ h => h) (Or.inl ⟨by rfl, ?_⟩) (by assumption) ?_
                  · intro W0 hSw
                    (try dsimp only at hSw)
                    go_simp
                  simp only [List.set_cons_zero, List.set_cons_succ]
                  refine Tr.take_at 2 38 (.slice (some ⟨b, off + 1, none⟩) m cq) rfl rfl (by kernel_rfl) (by kernel_rfl) (by kernel_rfl) (fun _ _ _ h => h) (Or.inl ⟨by rfl, ?_⟩) (by assumption) ?_
                  · intro W0 hSw
                    (try dsimp only at hSw)
                    go_simp
                  simp only [List.set_cons_zero, List.set_cons_succ]
                  refine wpAnyH_ready (rs := [3]) (by kernel_rfl) (by simp) ?_
                  refine AllReadyH.cons rfl (fun K hK => ?_) AllReadyH.nil
                  go_simp
                  refine (first37_any (some ⟨b, off + 1, none⟩) m cq (P.drop 1) _ (by have := HPL2.out; omega) (HRT.out.below HBW.out) (HV.out.below (bstep HB.out HBW.out)) HTK.out HPO2.out).mono ?_
                  rintro e wc3 ⟨rfl, hbA⟩
                  rw [HZ.out]
                  replace HBW := Lib.hid (bstep HBW.out hbA)
                  clear hbA
                  go_simp
                  refine hK.out _ _ ?_ (fun hHeld => ?_)
                  · (try dsimp only)
                    exact ⟨(K5.out.belowS HBW.out).cellV (i := 0) rfl, (K5.out.belowS HBW.out).cellV (i := 1) rfl⟩
                  clear hK K
                  refine Tr.take_at 4 8 (.int .u32 z) rfl rfl (by kernel_rfl) (by kernel_rfl) (by kernel_rfl) (fun _ _ _ h => h) (Or.inl ⟨by rfl, ?_⟩) (by assumption) ?_
                  · intro W0 hSw
                    (try dsimp only at hSw)
                    go_simp
                  simp only [List.set_cons_zero, List.set_cons_succ]
                  refine wpAnyH_done (by kernel_rfl) ?_ _
                  refine NoPanic.normal ?_
                  go_wp2_with fail
                  go_meet
                  exact ⟨rfl, HBW.out⟩
            obtain ⟨rfl, hbc⟩ := hcut
            replace K3 := Lib.hid (K3.out.belowS hbc)
            replace K6 := Lib.hid (K6.out.belowS hbc)
            replace HB := Lib.hid (bstep HB.out hbc)
            clear hbc
            have a0 := K3.out.cellV (i := 0) (v := .int .u32 f.W) rfl
            have a1 := K3.out.cellV (i := 1) (v := .int .i64 f.R) rfl
            have a2 := K3.out.cellV (i := 2) (v := .int .u32 f.T) rfl
            have kc0 := K6.out.cellV (i := 0) (v := .int .u32 0) rfl
            have kc1 := K6.out.cellV (i := 1) (v := .int .i64 0) rfl
            have kc2 := K6.out.cellV (i := 2) (v := .int .u32 0) rfl
            have kf0 := K6.out.frozen 0
            have kf1 := K6.out.frozen 1
            have kf2 := K6.out.frozen 2
            have kl := K6.out.lt
            go_wp2_with fail
            have rK := (((K6.out).set_ 0 (.int .u32 z)).set_ 1 (.int .i64 0)).set_ 2 (.int .u32 f.T)
            have r0 := rK.cellV (i := 0) (v := .int .u32 z) rfl
            have r1 := rK.cellV (i := 1) (v := .int .i64 0) rfl
            have r2 := rK.cellV (i := 2) (v := .int .u32 f.T) rfl
            refine bodyPost_ret (v := .tuple #[.agg #[.int .u32 z, .int .i64 0, .int .u32 f.T], .bool true]) (by simp [results, Tryz.results64, go_sem, r0, r1, r2]) rfl ?_
            exact ⟨by rw [HPE.out, HE.out, HZ.out], bset (p := ⟨w.heap.size + 1 + 1 + 1, 2, none⟩) (bset (p := ⟨w.heap.size + 1 + 1 + 1, 1, none⟩) (bset (p := ⟨w.heap.size + 1 + 1 + 1, 0, none⟩) (HB.out) (by show w.heap.size ≤ w.heap.size + 1 + 1 + 1; omega) (.int .u32 z)) (by show w.heap.size ≤ w.heap.size + 1 + 1 + 1; omega) (.int .i64 0)) (by show w.heap.size ≤ w.heap.size + 1 + 1 + 1; omega) (.int .u32 f.T)⟩
        · have HE := Lib.hid (show lostF f (shV37 ns bx) (pathN ns f.W) = (⟨0, 0, f.T⟩, true) by unfold lostF; rw [if_neg HNO.out, if_neg h1, if_neg h2])
          have h1' : (f.R == 1) = false := by simpa using h1
          have h2' : (f.R == 2) = false := by simpa using h2
          go_wp2_with fail
          have rK := (((K6.out).set_ 0 (.int .u32 0)).set_ 1 (.int .i64 0)).set_ 2 (.int .u32 f.T)
          have r0 := rK.cellV (i := 0) (v := .int .u32 0) rfl
          have r1 := rK.cellV (i := 1) (v := .int .i64 0) rfl
          have r2 := rK.cellV (i := 2) (v := .int .u32 f.T) rfl
          refine bodyPost_ret (v := .tuple #[.agg #[.int .u32 0, .int .i64 0, .int .u32 f.T], .bool true]) (by simp [results, Tryz.results64, go_sem, r0, r1, r2]) rfl ?_
          exact ⟨by rw [HE.out], bset (p := ⟨w.heap.size + 1 + 1 + 1, 2, none⟩) (bset (p := ⟨w.heap.size + 1 + 1 + 1, 1, none⟩) (bset (p := ⟨w.heap.size + 1 + 1 + 1, 0, none⟩) (HB.out) (by show w.heap.size ≤ w.heap.size + 1 + 1 + 1; omega) (.int .u32 0)) (by show w.heap.size ≤ w.heap.size + 1 + 1 + 1; omega) (.int .i64 0)) (by show w.heap.size ≤ w.heap.size + 1 + 1 + 1; omega) (.int .u32 f.T)⟩
set_option maxRecDepth 100000 in
set_option maxHeartbeats 4000000 in
theorem set37_any (f : FC) (_hf : f.ok) (id rv tm now : Int) (hid : 0 ≤ id ∧ id ≤ 4294967295) (htk : TreeOk ns) (hV : SeenG w v RW RH ns bx og) :
    Calls Tryz.prog 71 #[f.v, v, .int .u32 id, .int .i64 rv, .int .u32 tm, .int .u32 now] w fun e w' => e = .returned (.tuple #[(setF f (shV37 ns bx) id rv tm now).1.v, .bool (setF f (shV37 ns bx) id rv tm now).2.1, .int .i64 (setF f (shV37 ns bx) id rv tm now).2.2]) ∧ Below w.heap.size w w' := by
  obtain ⟨P, hP⟩ : ∃ P : Int → Bool, shV37 ns bx = P := ⟨_, rfl⟩
  have HIN := Lib.hid (fun i => congrFun hP i)
  rw [hP]
  clear hP
  obtain ⟨Av, nv, cv, mv, rfl⟩ := hV.form
  have HV := Lib.hid hV
  have HTK := Lib.hid htk
  clear hV htk
  clear _hf
  go_enter Tryz.func71, Tryz.ntmps71
  go_upto_region 1 with fail
  have xB := bal (bal (bal (bre w) (.cells #[.int .u32 f.W, .int .i64 f.R, .int .u32 f.T] 122)) (.cells #[.slice Av nv cv, .map mv] 43)) (.cells #[.int .u32 0, .int .i64 0, .int .u32 0] 122)
  have xK3 := ((Blk.new w  122 #[.int .u32 f.W, .int .i64 f.R, .int .u32 f.T]).alloc (.cells #[.slice Av nv cv, .map mv] 43)).alloc (.cells #[.int .u32 0, .int .i64 0, .int .u32 0] 122)
  have xK5 := (blk_new2 w (.cells #[.int .u32 f.W, .int .i64 f.R, .int .u32 f.T] 122) 43 #[.slice Av nv cv, .map mv]).alloc (.cells #[.int .u32 0, .int .i64 0, .int .u32 0] 122)
  have xK6 := blk_new3 w (.cells #[.int .u32 f.W, .int .i64 f.R, .int .u32 f.T] 122) (.cells #[.slice Av nv cv, .map mv] 43) 122 #[.int .u32 0, .int .i64 0, .int .u32 0]
  obtain ⟨X0, hX⟩ : ∃ X, (((w.alloc (.cells #[.int .u32 f.W, .int .i64 f.R, .int .u32 f.T] 122)).alloc (.cells #[.slice Av nv cv, .map mv] 43)).alloc (.cells #[.int .u32 0, .int .i64 0, .int .u32 0] 122)) = X := ⟨_, rfl⟩
  rw [hX] at xB xK3 xK5 xK6 ⊢
  have HB := Lib.hid xB
  have K3 := Lib.hid xK3
  have K5 := Lib.hid xK5
  have K6 := Lib.hid xK6
  clear hX xB xK3 xK5 xK6
  have a0 := K3.out.cellV (i := 0) (v := .int .u32 f.W) rfl
  have a1 := K3.out.cellV (i := 1) (v := .int .i64 f.R) rfl
  have a2 := K3.out.cellV (i := 2) (v := .int .u32 f.T) rfl
  have c0 := K5.out.cellV (i := 0) (v := .slice Av nv cv) rfl
  have c1 := K5.out.cellV (i := 1) (v := .map mv) rfl
  have kc0 := K6.out.cellV (i := 0) (v := .int .u32 0) rfl
  have kc1 := K6.out.cellV (i := 1) (v := .int .i64 0) rfl
  have kc2 := K6.out.cellV (i := 2) (v := .int .u32 0) rfl
  have kf0 := K6.out.frozen 0
  have kf1 := K6.out.frozen 1
  have kf2 := K6.out.frozen 2
  have kl := K6.out.lt
  by_cases r0 : rv < 0
  ·
    have HE := Lib.hid (show setF f P id rv tm now = (f, false, 10) by unfold setF; rw [if_pos (.inl r0)])
    go_wp2_with fail
    have rK := (((K6.out).set_ 0 (.int .u32 f.W)).set_ 1 (.int .i64 f.R)).set_ 2 (.int .u32 f.T)
    have r0 := rK.cellV (i := 0) (v := .int .u32 f.W) rfl
    have r1 := rK.cellV (i := 1) (v := .int .i64 f.R) rfl
    have r2 := rK.cellV (i := 2) (v := .int .u32 f.T) rfl
    refine bodyPost_ret (v := .tuple #[.agg #[.int .u32 f.W, .int .i64 f.R, .int .u32 f.T], .bool false, .int .i64 10]) (by simp [results, Tryz.results71, go_sem, r0, r1, r2]) rfl ?_
    exact ⟨by rw [HE.out], bset (p := ⟨w.heap.size + 1 + 1, 2, none⟩) (bset (p := ⟨w.heap.size + 1 + 1, 1, none⟩) (bset (p := ⟨w.heap.size + 1 + 1, 0, none⟩) (HB.out) (by show w.heap.size ≤ w.heap.size + 1 + 1; omega) (.int .u32 f.W)) (by show w.heap.size ≤ w.heap.size + 1 + 1; omega) (.int .i64 f.R)) (by show w.heap.size ≤ w.heap.size + 1 + 1; omega) (.int .u32 f.T)⟩
  by_cases r2 : 2 < rv
  ·
    have HE := Lib.hid (show setF f P id rv tm now = (f, false, 10) by unfold setF; rw [if_pos (.inr r2)])
    go_wp2_with fail
    have rK := (((K6.out).set_ 0 (.int .u32 f.W)).set_ 1 (.int .i64 f.R)).set_ 2 (.int .u32 f.T)
    have r0 := rK.cellV (i := 0) (v := .int .u32 f.W) rfl
    have r1 := rK.cellV (i := 1) (v := .int .i64 f.R) rfl
    have r2 := rK.cellV (i := 2) (v := .int .u32 f.T) rfl
    refine bodyPost_ret (v := .tuple #[.agg #[.int .u32 f.W, .int .i64 f.R, .int .u32 f.T], .bool false, .int .i64 10]) (by simp [results, Tryz.results71, go_sem, r0, r1, r2]) rfl ?_
    exact ⟨by rw [HE.out], bset (p := ⟨w.heap.size + 1 + 1, 2, none⟩) (bset (p := ⟨w.heap.size + 1 + 1, 1, none⟩) (bset (p := ⟨w.heap.size + 1 + 1, 0, none⟩) (HB.out) (by show w.heap.size ≤ w.heap.size + 1 + 1; omega) (.int .u32 f.W)) (by show w.heap.size ≤ w.heap.size + 1 + 1; omega) (.int .i64 f.R)) (by show w.heap.size ≤ w.heap.size + 1 + 1; omega) (.int .u32 f.T)⟩
  have hr02 : ¬ (rv < 0 ∨ 2 < rv) := by omega
  have HR02 := Lib.hid hr02
  clear hr02
  
  by_cases i0 : id = 0
  · have i0' : (id != 0) = false := by simpa using i0
    have I0 := Lib.hid i0
    clear i0
    have HI := Lib.hid (show ¬ (id ≠ 0 ∧ P id = false) from fun h => h.1 I0.out)
    by_cases t0 : tm = 0
    · have t0' : (tm == 0) = true := by simpa using t0
      have T0 := Lib.hid t0
      clear t0
      have HE := Lib.hid (show setF f P id rv tm now = (⟨id, rv, now⟩, true, 0) by unfold setF; rw [if_neg HR02.out, if_neg HI.out, if_pos T0.out])
      go_wp2_with fail
      have rK := (((K6.out).set_ 0 (.int .u32 id)).set_ 1 (.int .i64 rv)).set_ 2 (.int .u32 now)
      have r0 := rK.cellV (i := 0) (v := .int .u32 id) rfl
      have r1 := rK.cellV (i := 1) (v := .int .i64 rv) rfl
      have r2 := rK.cellV (i := 2) (v := .int .u32 now) rfl
      refine bodyPost_ret (v := .tuple #[.agg #[.int .u32 id, .int .i64 rv, .int .u32 now], .bool true, .int .i64 0]) (by simp [results, Tryz.results71, go_sem, r0, r1, r2]) rfl ?_
      exact ⟨by rw [HE.out], bset (p := ⟨w.heap.size + 1 + 1, 2, none⟩) (bset (p := ⟨w.heap.size + 1 + 1, 1, none⟩) (bset (p := ⟨w.heap.size + 1 + 1, 0, none⟩) (HB.out) (by show w.heap.size ≤ w.heap.size + 1 + 1; omega) (.int .u32 id)) (by show w.heap.size ≤ w.heap.size + 1 + 1; omega) (.int .i64 rv)) (by show w.heap.size ≤ w.heap.size + 1 + 1; omega) (.int .u32 now)⟩
    have t0' : (tm == 0) = false := by simpa using t0
    by_cases t1 : tm < f.T
    ·
      have HE := Lib.hid (show setF f P id rv tm now = (f, false, 0) by unfold setF; rw [if_neg HR02.out, if_neg HI.out, if_neg t0, if_pos (.inl t1)])
      go_wp2_with fail
      have rK := (((K6.out).set_ 0 (.int .u32 f.W)).set_ 1 (.int .i64 f.R)).set_ 2 (.int .u32 f.T)
      have r0 := rK.cellV (i := 0) (v := .int .u32 f.W) rfl
      have r1 := rK.cellV (i := 1) (v := .int .i64 f.R) rfl
      have r2 := rK.cellV (i := 2) (v := .int .u32 f.T) rfl
      refine bodyPost_ret (v := .tuple #[.agg #[.int .u32 f.W, .int .i64 f.R, .int .u32 f.T], .bool false, .int .i64 0]) (by simp [results, Tryz.results71, go_sem, r0, r1, r2]) rfl ?_
      exact ⟨by rw [HE.out], bset (p := ⟨w.heap.size + 1 + 1, 2, none⟩) (bset (p := ⟨w.heap.size + 1 + 1, 1, none⟩) (bset (p := ⟨w.heap.size + 1 + 1, 0, none⟩) (HB.out) (by show w.heap.size ≤ w.heap.size + 1 + 1; omega) (.int .u32 f.W)) (by show w.heap.size ≤ w.heap.size + 1 + 1; omega) (.int .i64 f.R)) (by show w.heap.size ≤ w.heap.size + 1 + 1; omega) (.int .u32 f.T)⟩
    by_cases t2 : now < tm
    ·
      have HE := Lib.hid (show setF f P id rv tm now = (f, false, 0) by unfold setF; rw [if_neg HR02.out, if_neg HI.out, if_neg t0, if_pos (.inr t2)])
      go_wp2_with fail
      have rK := (((K6.out).set_ 0 (.int .u32 f.W)).set_ 1 (.int .i64 f.R)).set_ 2 (.int .u32 f.T)
      have r0 := rK.cellV (i := 0) (v := .int .u32 f.W) rfl
      have r1 := rK.cellV (i := 1) (v := .int .i64 f.R) rfl
      have r2 := rK.cellV (i := 2) (v := .int .u32 f.T) rfl
      refine bodyPost_ret (v := .tuple #[.agg #[.int .u32 f.W, .int .i64 f.R, .int .u32 f.T], .bool false, .int .i64 0]) (by simp [results, Tryz.results71, go_sem, r0, r1, r2]) rfl ?_
      exact ⟨by rw [HE.out], bset (p := ⟨w.heap.size + 1 + 1, 2, none⟩) (bset (p := ⟨w.heap.size + 1 + 1, 1, none⟩) (bset (p := ⟨w.heap.size + 1 + 1, 0, none⟩) (HB.out) (by show w.heap.size ≤ w.heap.size + 1 + 1; omega) (.int .u32 f.W)) (by show w.heap.size ≤ w.heap.size + 1 + 1; omega) (.int .i64 f.R)) (by show w.heap.size ≤ w.heap.size + 1 + 1; omega) (.int .u32 f.T)⟩
    have HE := Lib.hid (show setF f P id rv tm now = (⟨id, rv, tm⟩, true, 0) by unfold setF; rw [if_neg HR02.out, if_neg HI.out, if_neg t0, if_neg (by omega)])
    go_wp2_with fail
    have rK := (((K6.out).set_ 0 (.int .u32 id)).set_ 1 (.int .i64 rv)).set_ 2 (.int .u32 tm)
    have r0 := rK.cellV (i := 0) (v := .int .u32 id) rfl
    have r1 := rK.cellV (i := 1) (v := .int .i64 rv) rfl
    have r2 := rK.cellV (i := 2) (v := .int .u32 tm) rfl
    refine bodyPost_ret (v := .tuple #[.agg #[.int .u32 id, .int .i64 rv, .int .u32 tm], .bool true, .int .i64 0]) (by simp [results, Tryz.results71, go_sem, r0, r1, r2]) rfl ?_
    exact ⟨by rw [HE.out], bset (p := ⟨w.heap.size + 1 + 1, 2, none⟩) (bset (p := ⟨w.heap.size + 1 + 1, 1, none⟩) (bset (p := ⟨w.heap.size + 1 + 1, 0, none⟩) (HB.out) (by show w.heap.size ≤ w.heap.size + 1 + 1; omega) (.int .u32 id)) (by show w.heap.size ≤ w.heap.size + 1 + 1; omega) (.int .i64 rv)) (by show w.heap.size ≤ w.heap.size + 1 + 1; omega) (.int .u32 tm)⟩
  · have i0' : (id != 0) = true := by simpa using i0
    go_wp2_with fail
    refine ((HV.out.below HB.out).viewable HTK.out id hid).mono ?_
    rintro e w1 ⟨rfl, hb1⟩
    rw [show (hasN ns id && vw ns bx id) = P id from HIN.out id]
    have HB1 := Lib.hid hb1
    clear hb1 a0 a1 a2 c0 c1 kc0 kc1 kc2 kf0 kf1 kf2 kl
    replace K3 := Lib.hid (K3.out.belowS HB1.out)
    replace K5 := Lib.hid (K5.out.belowS HB1.out)
    replace K6 := Lib.hid (K6.out.belowS HB1.out)
    replace HB := Lib.hid (bstep HB.out HB1.out)
    clear HB1
    have a0 := K3.out.cellV (i := 0) (v := .int .u32 f.W) rfl
    have a1 := K3.out.cellV (i := 1) (v := .int .i64 f.R) rfl
    have a2 := K3.out.cellV (i := 2) (v := .int .u32 f.T) rfl
    have c0 := K5.out.cellV (i := 0) (v := .slice Av nv cv) rfl
    have c1 := K5.out.cellV (i := 1) (v := .map mv) rfl
    have kc0 := K6.out.cellV (i := 0) (v := .int .u32 0) rfl
    have kc1 := K6.out.cellV (i := 1) (v := .int .i64 0) rfl
    have kc2 := K6.out.cellV (i := 2) (v := .int .u32 0) rfl
    have kf0 := K6.out.frozen 0
    have kf1 := K6.out.frozen 1
    have kf2 := K6.out.frozen 2
    have kl := K6.out.lt
    cases hq : P id with
    | false =>
      have HQ := Lib.hid hq
      clear hq
      have HE := Lib.hid (show setF f P id rv tm now = (f, false, 6) by unfold setF; rw [if_neg HR02.out, if_pos ⟨i0, HQ.out⟩])
      go_wp2_with fail
      have rK := (((K6.out).set_ 0 (.int .u32 f.W)).set_ 1 (.int .i64 f.R)).set_ 2 (.int .u32 f.T)
      have r0 := rK.cellV (i := 0) (v := .int .u32 f.W) rfl
      have r1 := rK.cellV (i := 1) (v := .int .i64 f.R) rfl
      have r2 := rK.cellV (i := 2) (v := .int .u32 f.T) rfl
      refine bodyPost_ret (v := .tuple #[.agg #[.int .u32 f.W, .int .i64 f.R, .int .u32 f.T], .bool false, .int .i64 6]) (by simp [results, Tryz.results71, go_sem, r0, r1, r2]) rfl ?_
      exact ⟨by rw [HE.out], bset (p := ⟨w.heap.size + 1 + 1, 2, none⟩) (bset (p := ⟨w.heap.size + 1 + 1, 1, none⟩) (bset (p := ⟨w.heap.size + 1 + 1, 0, none⟩) (HB.out) (by show w.heap.size ≤ w.heap.size + 1 + 1; omega) (.int .u32 f.W)) (by show w.heap.size ≤ w.heap.size + 1 + 1; omega) (.int .i64 f.R)) (by show w.heap.size ≤ w.heap.size + 1 + 1; omega) (.int .u32 f.T)⟩
    | true =>
      have HQ := Lib.hid hq
      clear hq
      have HI := Lib.hid (show ¬ (id ≠ 0 ∧ P id = false) from fun h => by have h2 := h.2; rw [HQ.out] at h2; cases h2)
      by_cases t0 : tm = 0
      · have t0' : (tm == 0) = true := by simpa using t0
        have T0 := Lib.hid t0
        clear t0
        have HE := Lib.hid (show setF f P id rv tm now = (⟨id, rv, now⟩, true, 0) by unfold setF; rw [if_neg HR02.out, if_neg HI.out, if_pos T0.out])
        go_wp2_with fail
        have rK := (((K6.out).set_ 0 (.int .u32 id)).set_ 1 (.int .i64 rv)).set_ 2 (.int .u32 now)
        have r0 := rK.cellV (i := 0) (v := .int .u32 id) rfl
        have r1 := rK.cellV (i := 1) (v := .int .i64 rv) rfl
        have r2 := rK.cellV (i := 2) (v := .int .u32 now) rfl
        refine bodyPost_ret (v := .tuple #[.agg #[.int .u32 id, .int .i64 rv, .int .u32 now], .bool true, .int .i64 0]) (by simp [results, Tryz.results71, go_sem, r0, r1, r2]) rfl ?_
        exact ⟨by rw [HE.out], bset (p := ⟨w.heap.size + 1 + 1, 2, none⟩) (bset (p := ⟨w.heap.size + 1 + 1, 1, none⟩) (bset (p := ⟨w.heap.size + 1 + 1, 0, none⟩) (HB.out) (by show w.heap.size ≤ w.heap.size + 1 + 1; omega) (.int .u32 id)) (by show w.heap.size ≤ w.heap.size + 1 + 1; omega) (.int .i64 rv)) (by show w.heap.size ≤ w.heap.size + 1 + 1; omega) (.int .u32 now)⟩
      have t0' : (tm == 0) = false := by simpa using t0
      by_cases t1 : tm < f.T
      ·
        have HE := Lib.hid (show setF f P id rv tm now = (f, false, 0) by unfold setF; rw [if_neg HR02.out, if_neg HI.out, if_neg t0, if_pos (.inl t1)])
        go_wp2_with fail
        have rK := (((K6.out).set_ 0 (.int .u32 f.W)).set_ 1 (.int .i64 f.R)).set_ 2 (.int .u32 f.T)
        have r0 := rK.cellV (i := 0) (v := .int .u32 f.W) rfl
        have r1 := rK.cellV (i := 1) (v := .int .i64 f.R) rfl
        have r2 := rK.cellV (i := 2) (v := .int .u32 f.T) rfl
        refine bodyPost_ret (v := .tuple #[.agg #[.int .u32 f.W, .int .i64 f.R, .int .u32 f.T], .bool false, .int .i64 0]) (by simp [results, Tryz.results71, go_sem, r0, r1, r2]) rfl ?_
        exact ⟨by rw [HE.out], bset (p := ⟨w.heap.size + 1 + 1, 2, none⟩) (bset (p := ⟨w.heap.size + 1 + 1, 1, none⟩) (bset (p := ⟨w.heap.size + 1 + 1, 0, none⟩) (HB.out) (by show w.heap.size ≤ w.heap.size + 1 + 1; omega) (.int .u32 f.W)) (by show w.heap.size ≤ w.heap.size + 1 + 1; omega) (.int .i64 f.R)) (by show w.heap.size ≤ w.heap.size + 1 + 1; omega) (.int .u32 f.T)⟩
      by_cases t2 : now < tm
      ·
        have HE := Lib.hid (show setF f P id rv tm now = (f, false, 0) by unfold setF; rw [if_neg HR02.out, if_neg HI.out, if_neg t0, if_pos (.inr t2)])
        go_wp2_with fail
        have rK := (((K6.out).set_ 0 (.int .u32 f.W)).set_ 1 (.int .i64 f.R)).set_ 2 (.int .u32 f.T)
        have r0 := rK.cellV (i := 0) (v := .int .u32 f.W) rfl
        have r1 := rK.cellV (i := 1) (v := .int .i64 f.R) rfl
        have r2 := rK.cellV (i := 2) (v := .int .u32 f.T) rfl
        refine bodyPost_ret (v := .tuple #[.agg #[.int .u32 f.W, .int .i64 f.R, .int .u32 f.T], .bool false, .int .i64 0]) (by simp [results, Tryz.results71, go_sem, r0, r1, r2]) rfl ?_
        exact ⟨by rw [HE.out], bset (p := ⟨w.heap.size + 1 + 1, 2, none⟩) (bset (p := ⟨w.heap.size + 1 + 1, 1, none⟩) (bset (p := ⟨w.heap.size + 1 + 1, 0, none⟩) (HB.out) (by show w.heap.size ≤ w.heap.size + 1 + 1; omega) (.int .u32 f.W)) (by show w.heap.size ≤ w.heap.size + 1 + 1; omega) (.int .i64 f.R)) (by show w.heap.size ≤ w.heap.size + 1 + 1; omega) (.int .u32 f.T)⟩
      have HE := Lib.hid (show setF f P id rv tm now = (⟨id, rv, tm⟩, true, 0) by unfold setF; rw [if_neg HR02.out, if_neg HI.out, if_neg t0, if_neg (by omega)])
      go_wp2_with fail
      have rK := (((K6.out).set_ 0 (.int .u32 id)).set_ 1 (.int .i64 rv)).set_ 2 (.int .u32 tm)
      have r0 := rK.cellV (i := 0) (v := .int .u32 id) rfl
      have r1 := rK.cellV (i := 1) (v := .int .i64 rv) rfl
      have r2 := rK.cellV (i := 2) (v := .int .u32 tm) rfl
      refine bodyPost_ret (v := .tuple #[.agg #[.int .u32 id, .int .i64 rv, .int .u32 tm], .bool true, .int .i64 0]) (by simp [results, Tryz.results71, go_sem, r0, r1, r2]) rfl ?_
      exact ⟨by rw [HE.out], bset (p := ⟨w.heap.size + 1 + 1, 2, none⟩) (bset (p := ⟨w.heap.size + 1 + 1, 1, none⟩) (bset (p := ⟨w.heap.size + 1 + 1, 0, none⟩) (HB.out) (by show w.heap.size ≤ w.heap.size + 1 + 1; omega) (.int .u32 id)) (by show w.heap.size ≤ w.heap.size + 1 + 1; omega) (.int .i64 rv)) (by show w.heap.size ≤ w.heap.size + 1 + 1; omega) (.int .u32 tm)⟩
set_option maxRecDepth 100000 in
set_option maxHeartbeats 4000000 in
theorem rset37_any (f : FC) (_hf : f.ok) (A : Option Addr) (n c : Nat) (l : List Int) (id rv tm now : Int) (hn : n ≤ 1000000) (hr : Rd w A n (U32 l)) :
    Calls Tryz.prog 72 #[f.v, .slice A n c, .int .u32 id, .int .i64 rv, .int .u32 tm, .int .u32 now] w fun e w' => e = .returned (.tuple #[(setF f (inU l) id rv tm now).1.v, .bool (setF f (inU l) id rv tm now).2.1, .int .i64 (setF f (inU l) id rv tm now).2.2]) ∧ Below w.heap.size w w' := by
  obtain ⟨P, hP⟩ : ∃ P : Int → Bool, inU l = P := ⟨_, rfl⟩
  have HR := Lib.hid hr
  have HIN := Lib.hid (fun i => congrFun hP i)
  rw [hP]
  clear hr hP
  clear _hf
  go_enter Tryz.func72, Tryz.ntmps72
  go_upto_region 1 with fail
  have xB := bal (bal (bre w) (.cells #[.int .u32 f.W, .int .i64 f.R, .int .u32 f.T] 127)) (.cells #[.int .u32 0, .int .i64 0, .int .u32 0] 127)
  have xK3 := (Blk.new w  127 #[.int .u32 f.W, .int .i64 f.R, .int .u32 f.T]).alloc (.cells #[.int .u32 0, .int .i64 0, .int .u32 0] 127)
  have xK6 := blk_new2 w (.cells #[.int .u32 f.W, .int .i64 f.R, .int .u32 f.T] 127) 127 #[.int .u32 0, .int .i64 0, .int .u32 0]
  obtain ⟨X0, hX⟩ : ∃ X, ((w.alloc (.cells #[.int .u32 f.W, .int .i64 f.R, .int .u32 f.T] 127)).alloc (.cells #[.int .u32 0, .int .i64 0, .int .u32 0] 127)) = X := ⟨_, rfl⟩
  rw [hX] at xB xK3 xK6 ⊢
  have HB := Lib.hid xB
  have K3 := Lib.hid xK3
  have K6 := Lib.hid xK6
  clear hX xB xK3 xK6
  have a0 := K3.out.cellV (i := 0) (v := .int .u32 f.W) rfl
  have a1 := K3.out.cellV (i := 1) (v := .int .i64 f.R) rfl
  have a2 := K3.out.cellV (i := 2) (v := .int .u32 f.T) rfl
  have kc0 := K6.out.cellV (i := 0) (v := .int .u32 0) rfl
  have kc1 := K6.out.cellV (i := 1) (v := .int .i64 0) rfl
  have kc2 := K6.out.cellV (i := 2) (v := .int .u32 0) rfl
  have kf0 := K6.out.frozen 0
  have kf1 := K6.out.frozen 1
  have kf2 := K6.out.frozen 2
  have kl := K6.out.lt
  by_cases r0 : rv < 0
  ·
    have HE := Lib.hid (show setF f P id rv tm now = (f, false, 10) by unfold setF; rw [if_pos (.inl r0)])
    go_wp2_with fail
    have rK := (((K6.out).set_ 0 (.int .u32 f.W)).set_ 1 (.int .i64 f.R)).set_ 2 (.int .u32 f.T)
    have r0 := rK.cellV (i := 0) (v := .int .u32 f.W) rfl
    have r1 := rK.cellV (i := 1) (v := .int .i64 f.R) rfl
    have r2 := rK.cellV (i := 2) (v := .int .u32 f.T) rfl
    refine bodyPost_ret (v := .tuple #[.agg #[.int .u32 f.W, .int .i64 f.R, .int .u32 f.T], .bool false, .int .i64 10]) (by simp [results, Tryz.results72, go_sem, r0, r1, r2]) rfl ?_
    exact ⟨by rw [HE.out], bset (p := ⟨w.heap.size + 1, 2, none⟩) (bset (p := ⟨w.heap.size + 1, 1, none⟩) (bset (p := ⟨w.heap.size + 1, 0, none⟩) (HB.out) (by show w.heap.size ≤ w.heap.size + 1; omega) (.int .u32 f.W)) (by show w.heap.size ≤ w.heap.size + 1; omega) (.int .i64 f.R)) (by show w.heap.size ≤ w.heap.size + 1; omega) (.int .u32 f.T)⟩
  by_cases r2 : 2 < rv
  ·
    have HE := Lib.hid (show setF f P id rv tm now = (f, false, 10) by unfold setF; rw [if_pos (.inr r2)])
    go_wp2_with fail
    have rK := (((K6.out).set_ 0 (.int .u32 f.W)).set_ 1 (.int .i64 f.R)).set_ 2 (.int .u32 f.T)
    have r0 := rK.cellV (i := 0) (v := .int .u32 f.W) rfl
    have r1 := rK.cellV (i := 1) (v := .int .i64 f.R) rfl
    have r2 := rK.cellV (i := 2) (v := .int .u32 f.T) rfl
    refine bodyPost_ret (v := .tuple #[.agg #[.int .u32 f.W, .int .i64 f.R, .int .u32 f.T], .bool false, .int .i64 10]) (by simp [results, Tryz.results72, go_sem, r0, r1, r2]) rfl ?_
    exact ⟨by rw [HE.out], bset (p := ⟨w.heap.size + 1, 2, none⟩) (bset (p := ⟨w.heap.size + 1, 1, none⟩) (bset (p := ⟨w.heap.size + 1, 0, none⟩) (HB.out) (by show w.heap.size ≤ w.heap.size + 1; omega) (.int .u32 f.W)) (by show w.heap.size ≤ w.heap.size + 1; omega) (.int .i64 f.R)) (by show w.heap.size ≤ w.heap.size + 1; omega) (.int .u32 f.T)⟩
  have hr02 : ¬ (rv < 0 ∨ 2 < rv) := by omega
  have HR02 := Lib.hid hr02
  clear hr02
  
  by_cases i0 : id = 0
  · have i0' : (id != 0) = false := by simpa using i0
    have I0 := Lib.hid i0
    clear i0
    have HI := Lib.hid (show ¬ (id ≠ 0 ∧ P id = false) from fun h => h.1 I0.out)
    by_cases t0 : tm = 0
    · have t0' : (tm == 0) = true := by simpa using t0
      have T0 := Lib.hid t0
      clear t0
      have HE := Lib.hid (show setF f P id rv tm now = (⟨id, rv, now⟩, true, 0) by unfold setF; rw [if_neg HR02.out, if_neg HI.out, if_pos T0.out])
      go_wp2_with fail
      have rK := (((K6.out).set_ 0 (.int .u32 id)).set_ 1 (.int .i64 rv)).set_ 2 (.int .u32 now)
      have r0 := rK.cellV (i := 0) (v := .int .u32 id) rfl
      have r1 := rK.cellV (i := 1) (v := .int .i64 rv) rfl
      have r2 := rK.cellV (i := 2) (v := .int .u32 now) rfl
      refine bodyPost_ret (v := .tuple #[.agg #[.int .u32 id, .int .i64 rv, .int .u32 now], .bool true, .int .i64 0]) (by simp [results, Tryz.results72, go_sem, r0, r1, r2]) rfl ?_
      exact ⟨by rw [HE.out], bset (p := ⟨w.heap.size + 1, 2, none⟩) (bset (p := ⟨w.heap.size + 1, 1, none⟩) (bset (p := ⟨w.heap.size + 1, 0, none⟩) (HB.out) (by show w.heap.size ≤ w.heap.size + 1; omega) (.int .u32 id)) (by show w.heap.size ≤ w.heap.size + 1; omega) (.int .i64 rv)) (by show w.heap.size ≤ w.heap.size + 1; omega) (.int .u32 now)⟩
    have t0' : (tm == 0) = false := by simpa using t0
    by_cases t1 : tm < f.T
    ·
      have HE := Lib.hid (show setF f P id rv tm now = (f, false, 0) by unfold setF; rw [if_neg HR02.out, if_neg HI.out, if_neg t0, if_pos (.inl t1)])
      go_wp2_with fail
      have rK := (((K6.out).set_ 0 (.int .u32 f.W)).set_ 1 (.int .i64 f.R)).set_ 2 (.int .u32 f.T)
      have r0 := rK.cellV (i := 0) (v := .int .u32 f.W) rfl
      have r1 := rK.cellV (i := 1) (v := .int .i64 f.R) rfl
      have r2 := rK.cellV (i := 2) (v := .int .u32 f.T) rfl
      refine bodyPost_ret (v := .tuple #[.agg #[.int .u32 f.W, .int .i64 f.R, .int .u32 f.T], .bool false, .int .i64 0]) (by simp [results, Tryz.results72, go_sem, r0, r1, r2]) rfl ?_
      exact ⟨by rw [HE.out], bset (p := ⟨w.heap.size + 1, 2, none⟩) (bset (p := ⟨w.heap.size + 1, 1, none⟩) (bset (p := ⟨w.heap.size + 1, 0, none⟩) (HB.out) (by show w.heap.size ≤ w.heap.size + 1; omega) (.int .u32 f.W)) (by show w.heap.size ≤ w.heap.size + 1; omega) (.int .i64 f.R)) (by show w.heap.size ≤ w.heap.size + 1; omega) (.int .u32 f.T)⟩
    by_cases t2 : now < tm
    ·
      have HE := Lib.hid (show setF f P id rv tm now = (f, false, 0) by unfold setF; rw [if_neg HR02.out, if_neg HI.out, if_neg t0, if_pos (.inr t2)])
      go_wp2_with fail
      have rK := (((K6.out).set_ 0 (.int .u32 f.W)).set_ 1 (.int .i64 f.R)).set_ 2 (.int .u32 f.T)
      have r0 := rK.cellV (i := 0) (v := .int .u32 f.W) rfl
      have r1 := rK.cellV (i := 1) (v := .int .i64 f.R) rfl
      have r2 := rK.cellV (i := 2) (v := .int .u32 f.T) rfl
      refine bodyPost_ret (v := .tuple #[.agg #[.int .u32 f.W, .int .i64 f.R, .int .u32 f.T], .bool false, .int .i64 0]) (by simp [results, Tryz.results72, go_sem, r0, r1, r2]) rfl ?_
      exact ⟨by rw [HE.out], bset (p := ⟨w.heap.size + 1, 2, none⟩) (bset (p := ⟨w.heap.size + 1, 1, none⟩) (bset (p := ⟨w.heap.size + 1, 0, none⟩) (HB.out) (by show w.heap.size ≤ w.heap.size + 1; omega) (.int .u32 f.W)) (by show w.heap.size ≤ w.heap.size + 1; omega) (.int .i64 f.R)) (by show w.heap.size ≤ w.heap.size + 1; omega) (.int .u32 f.T)⟩
    have HE := Lib.hid (show setF f P id rv tm now = (⟨id, rv, tm⟩, true, 0) by unfold setF; rw [if_neg HR02.out, if_neg HI.out, if_neg t0, if_neg (by omega)])
    go_wp2_with fail
    have rK := (((K6.out).set_ 0 (.int .u32 id)).set_ 1 (.int .i64 rv)).set_ 2 (.int .u32 tm)
    have r0 := rK.cellV (i := 0) (v := .int .u32 id) rfl
    have r1 := rK.cellV (i := 1) (v := .int .i64 rv) rfl
    have r2 := rK.cellV (i := 2) (v := .int .u32 tm) rfl
    refine bodyPost_ret (v := .tuple #[.agg #[.int .u32 id, .int .i64 rv, .int .u32 tm], .bool true, .int .i64 0]) (by simp [results, Tryz.results72, go_sem, r0, r1, r2]) rfl ?_
    exact ⟨by rw [HE.out], bset (p := ⟨w.heap.size + 1, 2, none⟩) (bset (p := ⟨w.heap.size + 1, 1, none⟩) (bset (p := ⟨w.heap.size + 1, 0, none⟩) (HB.out) (by show w.heap.size ≤ w.heap.size + 1; omega) (.int .u32 id)) (by show w.heap.size ≤ w.heap.size + 1; omega) (.int .i64 rv)) (by show w.heap.size ≤ w.heap.size + 1; omega) (.int .u32 tm)⟩
  · have i0' : (id != 0) = true := by simpa using i0
    go_wp2_with fail
    refine (in37_any A n c l id _ hn (HR.out.below HB.out)).mono ?_
    rintro e w1 ⟨rfl, rfl⟩
    rw [HIN.out id]
    cases hq : P id with
    | false =>
      have HQ := Lib.hid hq
      clear hq
      have HE := Lib.hid (show setF f P id rv tm now = (f, false, 6) by unfold setF; rw [if_neg HR02.out, if_pos ⟨i0, HQ.out⟩])
      go_wp2_with fail
      have rK := (((K6.out).set_ 0 (.int .u32 f.W)).set_ 1 (.int .i64 f.R)).set_ 2 (.int .u32 f.T)
      have r0 := rK.cellV (i := 0) (v := .int .u32 f.W) rfl
      have r1 := rK.cellV (i := 1) (v := .int .i64 f.R) rfl
      have r2 := rK.cellV (i := 2) (v := .int .u32 f.T) rfl
      refine bodyPost_ret (v := .tuple #[.agg #[.int .u32 f.W, .int .i64 f.R, .int .u32 f.T], .bool false, .int .i64 6]) (by simp [results, Tryz.results72, go_sem, r0, r1, r2]) rfl ?_
      exact ⟨by rw [HE.out], bset (p := ⟨w.heap.size + 1, 2, none⟩) (bset (p := ⟨w.heap.size + 1, 1, none⟩) (bset (p := ⟨w.heap.size + 1, 0, none⟩) (HB.out) (by show w.heap.size ≤ w.heap.size + 1; omega) (.int .u32 f.W)) (by show w.heap.size ≤ w.heap.size + 1; omega) (.int .i64 f.R)) (by show w.heap.size ≤ w.heap.size + 1; omega) (.int .u32 f.T)⟩
    | true =>
      have HQ := Lib.hid hq
      clear hq
      have HI := Lib.hid (show ¬ (id ≠ 0 ∧ P id = false) from fun h => by have h2 := h.2; rw [HQ.out] at h2; cases h2)
      by_cases t0 : tm = 0
      · have t0' : (tm == 0) = true := by simpa using t0
        have T0 := Lib.hid t0
        clear t0
        have HE := Lib.hid (show setF f P id rv tm now = (⟨id, rv, now⟩, true, 0) by unfold setF; rw [if_neg HR02.out, if_neg HI.out, if_pos T0.out])
        go_wp2_with fail
        have rK := (((K6.out).set_ 0 (.int .u32 id)).set_ 1 (.int .i64 rv)).set_ 2 (.int .u32 now)
        have r0 := rK.cellV (i := 0) (v := .int .u32 id) rfl
        have r1 := rK.cellV (i := 1) (v := .int .i64 rv) rfl
        have r2 := rK.cellV (i := 2) (v := .int .u32 now) rfl
        refine bodyPost_ret (v := .tuple #[.agg #[.int .u32 id, .int .i64 rv, .int .u32 now], .bool true, .int .i64 0]) (by simp [results, Tryz.results72, go_sem, r0, r1, r2]) rfl ?_
        exact ⟨by rw [HE.out], bset (p := ⟨w.heap.size + 1, 2, none⟩) (bset (p := ⟨w.heap.size + 1, 1, none⟩) (bset (p := ⟨w.heap.size + 1, 0, none⟩) (HB.out) (by show w.heap.size ≤ w.heap.size + 1; omega) (.int .u32 id)) (by show w.heap.size ≤ w.heap.size + 1; omega) (.int .i64 rv)) (by show w.heap.size ≤ w.heap.size + 1; omega) (.int .u32 now)⟩
      have t0' : (tm == 0) = false := by simpa using t0
      by_cases t1 : tm < f.T
      ·
        have HE := Lib.hid (show setF f P id rv tm now = (f, false, 0) by unfold setF; rw [if_neg HR02.out, if_neg HI.out, if_neg t0, if_pos (.inl t1)])
        go_wp2_with fail
        have rK := (((K6.out).set_ 0 (.int .u32 f.W)).set_ 1 (.int .i64 f.R)).set_ 2 (.int .u32 f.T)
        have r0 := rK.cellV (i := 0) (v := .int .u32 f.W) rfl
        have r1 := rK.cellV (i := 1) (v := .int .i64 f.R) rfl
        have r2 := rK.cellV (i := 2) (v := .int .u32 f.T) rfl
        refine bodyPost_ret (v := .tuple #[.agg #[.int .u32 f.W, .int .i64 f.R, .int .u32 f.T], .bool false, .int .i64 0]) (by simp [results, Tryz.results72, go_sem, r0, r1, r2]) rfl ?_
        exact ⟨by rw [HE.out], bset (p := ⟨w.heap.size + 1, 2, none⟩) (bset (p := ⟨w.heap.size + 1, 1, none⟩) (bset (p := ⟨w.heap.size + 1, 0, none⟩) (HB.out) (by show w.heap.size ≤ w.heap.size + 1; omega) (.int .u32 f.W)) (by show w.heap.size ≤ w.heap.size + 1; omega) (.int .i64 f.R)) (by show w.heap.size ≤ w.heap.size + 1; omega) (.int .u32 f.T)⟩
      by_cases t2 : now < tm
      ·
        have HE := Lib.hid (show setF f P id rv tm now = (f, false, 0) by unfold setF; rw [if_neg HR02.out, if_neg HI.out, if_neg t0, if_pos (.inr t2)])
        go_wp2_with fail
        have rK := (((K6.out).set_ 0 (.int .u32 f.W)).set_ 1 (.int .i64 f.R)).set_ 2 (.int .u32 f.T)
        have r0 := rK.cellV (i := 0) (v := .int .u32 f.W) rfl
        have r1 := rK.cellV (i := 1) (v := .int .i64 f.R) rfl
        have r2 := rK.cellV (i := 2) (v := .int .u32 f.T) rfl
        refine bodyPost_ret (v := .tuple #[.agg #[.int .u32 f.W, .int .i64 f.R, .int .u32 f.T], .bool false, .int .i64 0]) (by simp [results, Tryz.results72, go_sem, r0, r1, r2]) rfl ?_
        exact ⟨by rw [HE.out], bset (p := ⟨w.heap.size + 1, 2, none⟩) (bset (p := ⟨w.heap.size + 1, 1, none⟩) (bset (p := ⟨w.heap.size + 1, 0, none⟩) (HB.out) (by show w.heap.size ≤ w.heap.size + 1; omega) (.int .u32 f.W)) (by show w.heap.size ≤ w.heap.size + 1; omega) (.int .i64 f.R)) (by show w.heap.size ≤ w.heap.size + 1; omega) (.int .u32 f.T)⟩
      have HE := Lib.hid (show setF f P id rv tm now = (⟨id, rv, tm⟩, true, 0) by unfold setF; rw [if_neg HR02.out, if_neg HI.out, if_neg t0, if_neg (by omega)])
      go_wp2_with fail
      have rK := (((K6.out).set_ 0 (.int .u32 id)).set_ 1 (.int .i64 rv)).set_ 2 (.int .u32 tm)
      have r0 := rK.cellV (i := 0) (v := .int .u32 id) rfl
      have r1 := rK.cellV (i := 1) (v := .int .i64 rv) rfl
      have r2 := rK.cellV (i := 2) (v := .int .u32 tm) rfl
      refine bodyPost_ret (v := .tuple #[.agg #[.int .u32 id, .int .i64 rv, .int .u32 tm], .bool true, .int .i64 0]) (by simp [results, Tryz.results72, go_sem, r0, r1, r2]) rfl ?_
      exact ⟨by rw [HE.out], bset (p := ⟨w.heap.size + 1, 2, none⟩) (bset (p := ⟨w.heap.size + 1, 1, none⟩) (bset (p := ⟨w.heap.size + 1, 0, none⟩) (HB.out) (by show w.heap.size ≤ w.heap.size + 1; omega) (.int .u32 id)) (by show w.heap.size ≤ w.heap.size + 1; omega) (.int .i64 rv)) (by show w.heap.size ≤ w.heap.size + 1; omega) (.int .u32 tm)⟩
/-- where an id stands, or -1. -/
def cutU (l : List Int) (i : Int) : List Int := l.takeWhile fun x => decide (x ≠ i)
def idxZ (l : List Int) (i : Int) : Int := if l.contains i then ((cutU l i).length : Int) else -1
theorem cut_at {l : List Int} {k : Nat} {i : Int} (h : i ∉ l.take k) (hk : l[k]? = some i) : cutU l i = l.take k ∧ l.contains i = true := by
  constructor
  · unfold cutU
    conv => lhs; rw [← List.take_append_drop k l, drop_cons' hk]
    have hp : ∀ x ∈ l.take k, (fun x => decide (x ≠ i)) x = true := fun x hx => by
      dsimp only
      refine decide_eq_true (fun e => h ?_)
      rw [← e]
      exact hx
    rw [List.takeWhile_append_of_pos hp, List.takeWhile_cons]
    simp
  · exact List.contains_iff_mem.2 (List.mem_of_getElem? hk)
theorem cut_get {l : List Int} {i : Int} (h : l.contains i = true) : ∃ k, l[k]? = some i ∧ (cutU l i).length = k ∧ l.take (k + 1) = cutU l i ++ [i] := by
  induction l with
  | nil => cases h
  | cons x l ih =>
    by_cases e : x = i
    · subst e
      exact ⟨0, rfl, by simp [cutU], by simp [cutU]⟩
    · have h2 : l.contains i = true := by
        rw [List.contains_cons, Bool.or_eq_true] at h
        rcases h with h | h
        · exact absurd (by simpa using h : i = x).symm e
        · exact h
      obtain ⟨k, h3, h4, h5⟩ := ih h2
      have hc : cutU (x :: l) i = x :: cutU l i := by
        unfold cutU
        rw [List.takeWhile_cons, decide_eq_true e]
        rfl
      refine ⟨k + 1, by simpa using h3, by rw [hc, List.length_cons, h4], ?_⟩
      rw [hc, List.take_succ_cons, h5]
      rfl
set_option maxRecDepth 100000 in
set_option maxHeartbeats 2000000 in
theorem idx37_any (A : Option Addr) (n c : Nat) (l : List Int) (i : Int) (w : World) (hn : n ≤ 1000000) (hr : Rd w A n (U32 l)) :
    Calls Tryz.prog 116 #[.slice A n c, .int .u32 i] w fun e w' => e = .returned (.int .i64 (idxZ l i)) ∧ w = w' := by
  have HR := Lib.hid hr
  have HL := Lib.hid (show l.length = n by have := hr.1; rwa [U32_len] at this)
  clear hr
  go_enter Tryz.func116, Tryz.ntmps116
  go_wp2_with fail
  go_loop [8] (fun s => ∃ k : Nat, s = .int .i64 k ∧ k ≤ n ∧ i ∉ l.take k) (fun s => n - (intOf s).toNat)
  case atStart => exact ⟨0, rfl, by omega, by simp⟩
  case round =>
    obtain ⟨k, rfl, hk, hno⟩ := hrel
    have HNO := Lib.hid hno
    clear hno
    by_cases hlt : k < n
    · have k1 : (k : Int) < (n : Int) := by omega
      have k0 : (0 : Int) ≤ (k : Int) := by omega
      obtain ⟨x, hx⟩ : ∃ x, l[k]? = some x := ⟨_, List.getElem?_eq_getElem (by rw [HL.out]; exact hlt)⟩
      obtain ⟨b, off, rfl, hb, hc⟩ := HR.out.2 (by omega)
      have hcell := hc k _ (U32_at hx)
      have HX := Lib.hid hx
      clear hc hx
      by_cases e : i = x
      · subst e
        have HT := Lib.hid (show idxZ l i = (k : Int) by
          obtain ⟨h1, h2⟩ := cut_at HNO.out HX.out
          unfold idxZ
          rw [h2, if_pos rfl, h1, List.length_take, HL.out]
          congr 1
          omega)
        go_wp2_with fail
        go_ret
        exact ⟨by rw [HT.out]; rfl, rfl⟩
      · have e1 : (i == x) = false := by simpa using e
        go_wp2_with fail
        go_round
        case rel => exact ⟨k + 1, by go_num, by omega, by rw [take_snocI' HX.out, List.mem_append]; rintro (h | h); exact HNO.out h; exact e (List.mem_singleton.1 h)⟩
        case measure => simp [intOf]; omega
    · obtain rfl : k = n := by omega
      have k1 : ¬ (k : Int) < (k : Int) := by omega
      have HF := Lib.hid (show idxZ l i = -1 from by
        have := HNO.out
        rw [List.take_of_length_le (by rw [HL.out]; exact Nat.le_refl _)] at this
        unfold idxZ
        rw [if_neg (by simpa using this)])
      go_wp2_with fail
      go_ret
      exact ⟨by rw [HF.out]; rfl, rfl⟩
/-- a key's way. -/
def wayF (f : FC) (path : List Int) (has : Bool) : List Int := if f.W = 0 ∨ has = false then [] else if path.contains f.W then cutU path f.W ++ [f.W] else [f.W]
set_option maxRecDepth 100000 in
set_option maxHeartbeats 4000000 in
theorem way_any (f : FC) (hf : f.ok) (under : Int) (hun : 0 ≤ under ∧ under ≤ 4294967295) (hT : TreeIs w (.agg #[.map mk, .map mu]) ns mk mu nk fk) (htk : TreeOk ns) :
    Calls Tryz.prog 67 #[f.v, .agg #[.map mk, .map mu], .int .u32 under] w fun e w' => ∃ u, e = .returned u ∧ w'.ownsRow w.heap.size 49 1 u (wayF f (pathN ns under) (hasN ns f.W)).length (U32 (wayF f (pathN ns under) (hasN ns f.W))) ∧ Below w.heap.size w w' := by
  have HT := Lib.hid hT
  have HTK := Lib.hid htk
  have HF := Lib.hid hf
  have HPL := Lib.hid (show (pathN ns under).length ≤ 1001 by have := path_len htk under; have := hT.few; omega)
  clear hT htk hf
  go_enter Tryz.func67, Tryz.ntmps67
  go_upto_region 1 with fail
  have xB := bal (bal (bre w) (.cells #[.int .u32 f.W, .int .i64 f.R, .int .u32 f.T] 122)) (.cells #[.map mk, .map mu] 34)
  have xK3 := (Blk.new w  122 #[.int .u32 f.W, .int .i64 f.R, .int .u32 f.T]).alloc (.cells #[.map mk, .map mu] 34)
  have xK4 := blk_new2 w (.cells #[.int .u32 f.W, .int .i64 f.R, .int .u32 f.T] 122) 34 #[.map mk, .map mu]
  obtain ⟨X0, hX⟩ : ∃ X, ((w.alloc (.cells #[.int .u32 f.W, .int .i64 f.R, .int .u32 f.T] 122)).alloc (.cells #[.map mk, .map mu] 34)) = X := ⟨_, rfl⟩
  rw [hX] at xB xK3 xK4 ⊢
  have HB := Lib.hid xB
  have K3 := Lib.hid xK3
  have K4 := Lib.hid xK4
  clear hX xB xK3 xK4
  have a0 := K3.out.cellV (i := 0) (v := .int .u32 f.W) rfl
  have a1 := K3.out.cellV (i := 1) (v := .int .i64 f.R) rfl
  have a2 := K3.out.cellV (i := 2) (v := .int .u32 f.T) rfl
  have b0 := K4.out.cellV (i := 0) (v := .map mk) rfl
  have b1 := K4.out.cellV (i := 1) (v := .map mu) rfl
  by_cases h0 : f.W = 0
  · have HE := Lib.hid (show wayF f (pathN ns under) (hasN ns f.W) = [] by unfold wayF; rw [if_pos (.inl h0)])
    have h0' : (f.W == 0) = true := by simpa using h0
    clear h0
    go_wp2_with fail
    go_ret
    rw [HE.out]
    exact ⟨_, rfl, World.ownsRow_nil _ _ _ _, HB.out⟩
  have h0' : (f.W == 0) = false := by simpa using h0
  go_wp2_with fail
  refine (has_any _ ns mk mu nk fk f.W _ HF.out.1 (HT.out.below HB.out)).mono ?_
  rintro e w1 ⟨rfl, hb1⟩
  obtain ⟨bq, hbq⟩ : ∃ bq, hasN ns f.W = bq := ⟨_, rfl⟩
  rw [hbq]
  have HQ := Lib.hid hbq
  have HB1 := Lib.hid hb1
  clear hbq hb1 a0 a1 a2 b0 b1
  replace K3 := Lib.hid (K3.out.belowS HB1.out)
  replace K4 := Lib.hid (K4.out.belowS HB1.out)
  replace HB := Lib.hid (bstep HB.out HB1.out)
  clear HB1
  have a0 := K3.out.cellV (i := 0) (v := .int .u32 f.W) rfl
  have a1 := K3.out.cellV (i := 1) (v := .int .i64 f.R) rfl
  have a2 := K3.out.cellV (i := 2) (v := .int .u32 f.T) rfl
  have b0 := K4.out.cellV (i := 0) (v := .map mk) rfl
  have b1 := K4.out.cellV (i := 1) (v := .map mu) rfl
  cases bq with
  | false =>
    have HE := Lib.hid (show wayF f (pathN ns under) false = [] by unfold wayF; rw [if_pos (.inr rfl)])
    go_wp2_with fail
    go_ret
    rw [HQ.out, HE.out]
    exact ⟨_, rfl, World.ownsRow_nil _ _ _ _, HB.out⟩
  | true =>
    have HNO := Lib.hid (show ¬ (f.W = 0 ∨ true = false) from fun h => by rcases h with h | h; exact h0 h; cases h)
    go_wp2_with fail
    refine (path_any (.agg #[.map mk, .map mu]) ns mk mu nk fk under _ hun (HT.out.below HB.out) HTK.out).mono ?_
    rintro e w2 ⟨u, rfl, ho, hb2⟩
    obtain ⟨Ap, cp, rfl, hcp⟩ := own_form ho
    have HRP := Lib.hid (Rd.of_own ho)
    have HB1 := Lib.hid hb2
    have HCP := Lib.hid hcp
    clear hb2 ho hcp a0 a1 a2 b0 b1
    replace K3 := Lib.hid (K3.out.belowS HB1.out)
    replace HB := Lib.hid (bstep HB.out HB1.out)
    clear HB1 K4
    have a0 := K3.out.cellV (i := 0) (v := .int .u32 f.W) rfl
    have a1 := K3.out.cellV (i := 1) (v := .int .i64 f.R) rfl
    have a2 := K3.out.cellV (i := 2) (v := .int .u32 f.T) rfl
    obtain ⟨P, hP⟩ : ∃ P, pathN ns under = P := ⟨_, rfl⟩
    rw [hP] at HRP HPL HCP ⊢
    have HPE := Lib.hid hP
    clear hP
    go_wp2_with fail
    refine (idx37_any Ap P.length cp P f.W _ (by have := HPL.out; omega) HRP.out).mono ?_
    rintro e w3 ⟨rfl, rfl⟩
    cases hq : P.contains f.W with
    | false =>
      have HE := Lib.hid (show wayF f P true = [f.W] by unfold wayF; rw [if_neg HNO.out, if_neg (by rw [hq]; decide)])
      have HI := Lib.hid (show idxZ P f.W = -1 by unfold idxZ; rw [if_neg (by rw [hq]; decide)])
      rw [HI.out]
      clear hq
      go_wp2_with fail
      go_ret
      rw [HPE.out, HQ.out, HE.out]
      exact ⟨_, rfl, blk_own (Blk.new w2 49 #[.int .u32 f.W]) HB.out.size rfl (by simp [maxLen]), bal HB.out _⟩
    | true =>
      obtain ⟨k, hk1, hk2, hk3⟩ := cut_get hq
      have HE := Lib.hid (show wayF f P true = P.take (k + 1) by unfold wayF; rw [if_neg HNO.out, if_pos hq, hk3])
      have HI := Lib.hid (show idxZ P f.W = (k : Int) by unfold idxZ; rw [if_pos hq, hk2])
      have hkl := (List.getElem?_eq_some_iff.1 hk1).1
      have HK3 := Lib.hid (show (P.take (k + 1)).length = k + 1 by rw [List.length_take]; omega)
      have HRT := Lib.hid (show Rd w2 Ap (k + 1) (U32 (P.take (k + 1))) by
        have h1 := HRP.out
        refine ⟨by rw [U32_len]; exact HK3.out, fun _ => ?_⟩
        obtain ⟨b, off, e, hb, hc⟩ := h1.2 (by omega)
        refine ⟨b, off, e, hb, fun j x hj => hc j x ?_⟩
        have hjl := (List.getElem?_eq_some_iff.1 hj).1
        rw [U32_len, HK3.out] at hjl
        unfold U32 at hj ⊢
        rw [List.map_take, List.getElem?_take, if_pos hjl] at hj
        exact hj)
      rw [HI.out]
      have kk : (k : Int) + 1 ≤ (P.length : Int) := by omega
      have kc : (k : Int) + 1 ≤ (cp : Int) := by have := HCP.out; omega
      have kl : (k : Int) + 1 ≤ 2000 := by have := HPL.out; omega
      have wk : IntKind.i64.wrap ((k : Int) + 1) = ((k + 1 : Nat) : Int) := by rw [IntWalk.i64_in _ (by omega)]; omega
      clear hq hk1 hk2 hk3
      go_wp2_with fail
      refine (cloneI_any Ap (k + 1) cp (P.take (k + 1)) _ (by omega) HRT.out).mono ?_
      rintro e w4 ⟨v4, rfl, ho4, hb4⟩
      have HO4 := Lib.hid ho4
      have HB4 := Lib.hid hb4
      clear ho4 hb4 wk kk kc kl
      go_wp2_with fail
      go_ret
      rw [HPE.out, HQ.out, HE.out, HK3.out]
      exact ⟨v4, rfl, own_lower HO4.out HB.out.size, bstep HB.out HB4.out⟩
end
end Go.Proofs.YtbkkecijcijhdaaGreat
end
