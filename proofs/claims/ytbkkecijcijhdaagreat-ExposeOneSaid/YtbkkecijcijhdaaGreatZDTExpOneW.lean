/-
  The walk of the law ExposeOne.
-/
import Derived.Test.YtbkkecijcijhdaaGreatZD35
import Derived.Test.YtbkkecijcijhdaaGreatZDTAtM
section
namespace Go.Proofs.YtbkkecijcijhdaaGreat
open Go.RowKit Go.Maps Go.Shelf

def lostP (P Q : Places) : Places := fun x y => P x y && !Q x y
theorem lostP_any {w : World} {Aa Ab : Option Addr} {na ca nb cb : Nat} {ma mb : Option Nat} {V U : Int → Places} (i : Int) (ha : VisAt w (.agg #[.slice Aa na ca, .map ma]) V) (hb : VisAt w (.agg #[.slice Ab nb cb, .map mb]) U) (hi : 0 ≤ i ∧ i ≤ 4294967295) :
    Calls Tryz.prog 51 #[.agg #[.slice Aa na ca, .map ma], .agg #[.slice Ab nb cb, .map mb], .int .u32 i] w fun e w' => ∃ u, e = .returned u ∧ RegP w' u (lostP (V i) (U i)) ∧ Below w.heap.size w w' := lost_any i ha hb hi
/-- a region's area, by places of a box that begins at (-50, -50). -/
def boxC (P : Places) : Places := fun x y => P (x - 50) (y - 50)
theorem areaC {w : World} {u : Value} {P : Places} (h : RegP w u P) (hP : ∀ x y, P x y = true → (0 ≤ x ∧ x < 20) ∧ 0 ≤ y ∧ y < 20) :
    Calls Tryz.prog 37 #[u] w fun e w' => e = .returned (.int .i64 (cntP 110 110 (boxC P) : Nat)) ∧ Below w.heap.size w w' := by
  obtain ⟨out, hr, hp⟩ := h
  have hin : ∀ x y, InR out x y → (0 ≤ x ∧ x < 20) ∧ 0 ≤ y ∧ y < 20 := fun x y hxy => hP x y (by rw [← hp, inB_iff]; exact hxy)
  have hl := (reg_box hr hp (fun x y hxy => by have := hP x y hxy; omega)).2.2
  obtain ⟨A, c, rfl, hr, hc, hn, hcn⟩ := hr
  have ha : areaL out = cntP 110 110 (boxC P) := by
    rw [areaL_S, area_off (w := 110) (h := 110) 50 50 (canon_down hc) (fun x y hxy => by have := hin x y hxy; omega)]
    exact congrArg (fun n : Nat => (n : Int)) (cntP_congr (fun x y _ _ => hp _ _))
  have := area_any A out.length c out w (by omega) hr hcn
  rw [ha] at this
  exact this
set_option maxRecDepth 100000 in
theorem small_yes (dx dy : Int) (F : Bool) (w : World) (h : (-40 ≤ dx ∧ dx ≤ 40) ∧ -40 ≤ dy ∧ dy ≤ 40) :
    Calls Tryz.prog 46 #[.agg #[.int .i64 dx, .int .i64 dy, .bool F]] w fun e w' => e = .returned (.bool true) ∧ Below w.heap.size w w' := by
  obtain ⟨⟨a, b⟩, c, d⟩ := h
  have xK := Blk.new w 88 #[.int .i64 dx, .int .i64 dy, .bool F]
  have HB := Lib.hid (bal (bre w) (.cells #[.int .i64 dx, .int .i64 dy, .bool F] 88))
  have q0 := xK.cellV (i := 0) (v := .int .i64 dx) rfl
  have q1 := xK.cellV (i := 1) (v := .int .i64 dy) rfl
  clear xK
  go_enter Tryz.func46, Tryz.ntmps46
  go_wp2_with fail
  go_ret
  exact ⟨rfl, HB.out⟩
set_option maxRecDepth 100000 in
theorem small_no (dx dy : Int) (F : Bool) (w : World) (h : ¬ ((-40 ≤ dx ∧ dx ≤ 40) ∧ -40 ≤ dy ∧ dy ≤ 40)) :
    Calls Tryz.prog 46 #[.agg #[.int .i64 dx, .int .i64 dy, .bool F]] w fun e w' => e = .returned (.bool false) ∧ Below w.heap.size w w' := by
  have xK := Blk.new w 88 #[.int .i64 dx, .int .i64 dy, .bool F]
  have HB := Lib.hid (bal (bre w) (.cells #[.int .i64 dx, .int .i64 dy, .bool F] 88))
  have q0 := xK.cellV (i := 0) (v := .int .i64 dx) rfl
  have q1 := xK.cellV (i := 1) (v := .int .i64 dy) rfl
  have HH := Lib.hid h
  clear xK h
  by_cases a : -40 ≤ dx
  · by_cases b : dx ≤ 40
    · by_cases c : -40 ≤ dy
      · have d : ¬ dy ≤ 40 := fun d => HH.out ⟨⟨a, b⟩, c, d⟩
        go_enter Tryz.func46, Tryz.ntmps46
        go_wp2_with fail
        go_ret
        exact ⟨rfl, HB.out⟩
      · go_enter Tryz.func46, Tryz.ntmps46
        go_wp2_with fail
        go_ret
        exact ⟨rfl, HB.out⟩
    · go_enter Tryz.func46, Tryz.ntmps46
      go_wp2_with fail
      go_ret
      exact ⟨rfl, HB.out⟩
  · go_enter Tryz.func46, Tryz.ntmps46
    go_wp2_with fail
    go_ret
    exact ⟨rfl, HB.out⟩
theorem cnt_end (P : Places) : cntP 110 110 P + rowC P 110 0 = cntP 110 110 P := by
  rw [show rowC P 110 0 = 0 from rfl]
  exact Nat.add_zero _
theorem cnt_row (P : Places) (y : Nat) : cntP 110 y P + rowC P y 110 = cntP 110 (y + 1) P + rowC P (y + 1) 0 := by
  rw [cntP_succ]
  rfl
theorem row_next {P : Places} {y x N : Nat} {tx ty : Int} {q : Bool} (h : cntP 110 y (boxC P) + rowC (boxC P) y x = N) (hx : tx = (x : Int) - 50) (hy : ty = (y : Int) - 50) (hq : P tx ty = q) : ((cntP 110 y (boxC P) + rowC (boxC P) y (x + 1) : Nat) : Int) = (N : Int) + (if q = true then 1 else 0) := by
  rw [rowC_succ, ← Nat.add_assoc, h]
  have e : boxC P (x : Int) (y : Int) = q := by
    rw [← hq, hx, hy]
    rfl
  rw [e]
  cases q <;> simp
theorem cnt_bd (P : Places) {y x : Nat} (hy : y ≤ 110) (hx : x ≤ 110) : cntP 110 y P + rowC P y x ≤ 20000 := by
  have h1 := cntP_le 110 y P
  have h2 := rowC_le P y x
  have h3 : y * 110 ≤ 110 * 110 := Nat.mul_le_mul hy (Nat.le_refl _)
  omega
set_option maxRecDepth 100000 in
set_option maxHeartbeats 16000000 in
theorem exposeOne_any (A : Option Addr) (n c : Nat) (xs : List XW) (m dx dy : Int) (F : Bool) (w : World) (hn : n ≤ maxLen) (hr : RdF XW.cells 11 w A n xs) (hok : ∀ x ∈ xs, x.ok) (hm : 0 ≤ m ∧ m ≤ 255) :
    Calls Tryz.prog 9 #[.slice A n c, .int .u8 m, .agg #[.int .i64 dx, .int .i64 dy, .bool F]] w fun e w' => e = .returned (.bool true) ∧ Below w.heap.size w w' := by
  have HN := Lib.hid hn
  have HR := Lib.hid hr
  have HOK := Lib.hid hok
  have HM := Lib.hid hm
  clear hn hr hok hm
  go_enter Tryz.func9, Tryz.ntmps9
  go_upto_region 1 with fail
  have xK := Blk.new w 88 #[.int .i64 dx, .int .i64 dy, .bool F]
  have xB := bal (bre w) (.cells #[.int .i64 dx, .int .i64 dy, .bool F] 88)
  obtain ⟨X0, hX0⟩ : ∃ X0, w.alloc (.cells #[.int .i64 dx, .int .i64 dy, .bool F] 88) = X0 := ⟨_, rfl⟩
  rw [hX0] at xK xB ⊢
  have K5 := Lib.hid xK
  have HB := Lib.hid xB
  clear xK xB hX0
  have hnm := HN.out
  simp only [maxLen] at hnm
  by_cases h6 : n ≤ 6
  case neg =>
    have k6 : (6 : Int) < (n : Int) := by omega
    go_wp2_with fail
    refine (awake32_any _).mono ?_
    rintro e w2 ⟨rfl, hb2⟩
    have HB2 := Lib.hid (bstep HB.out hb2)
    clear hb2
    go_wp2_with fail
    go_ret
    exact ⟨rfl, HB2.out⟩
  have k6 : ¬ (6 : Int) < (n : Int) := by omega
  have q0 := K5.out.cellV (i := 0) (v := .int .i64 dx) rfl
  have q1 := K5.out.cellV (i := 1) (v := .int .i64 dy) rfl
  have q2 := K5.out.cellV (i := 2) (v := .bool F) rfl
  by_cases hsm : (-40 ≤ dx ∧ dx ≤ 40) ∧ -40 ≤ dy ∧ dy ≤ 40
  case neg =>
    have HSM := Lib.hid hsm
    clear hsm
    go_wp2_with fail
    refine (small_no dx dy F _ HSM.out).mono ?_
    rintro e w1 ⟨rfl, hb1⟩
    have HB1 := Lib.hid (bstep HB.out hb1)
    clear hb1
    go_wp2_with fail
    refine (awake32_any _).mono ?_
    rintro e w2 ⟨rfl, hb2⟩
    have HB2 := Lib.hid (bstep HB1.out hb2)
    clear hb2
    go_wp2_with fail
    go_ret
    exact ⟨rfl, HB2.out⟩
  have HSM := Lib.hid hsm
  clear hsm
  go_wp2_with fail
  refine (small_yes dx dy F _ HSM.out).mono ?_
  rintro e w1 ⟨rfl, hb1⟩
  replace K5 := Lib.hid (K5.out.belowS hb1)
  replace HB := Lib.hid (bstep HB.out hb1)
  clear hb1 q0 q1 q2
  go_wp2_with fail
  refine (views_any A n c xs _ h6 (HR.out.below HB.out) HOK.out).mono ?_
  rintro e w2 ⟨va, vb, oga, ogb, rfl, sa, sb, hb⟩
  obtain ⟨Aa, na, ca, ma, rfl⟩ := sa.form
  obtain ⟨Ab, nb, cb, mb, rfl⟩ := sb.form
  have xA := vis_of sa HOK.out (fun x hx => (HOK.out x hx).2.1)
  have xC := vis_of sb HOK.out (fun x hx => (HOK.out x hx).2.2)
  replace K5 := Lib.hid (K5.out.belowS hb)
  replace HB := Lib.hid (bstep HB.out hb)
  clear sa sb hb
  obtain ⟨V, hV⟩ : ∃ V, visW XW.a xs = V := ⟨_, rfl⟩
  obtain ⟨U, hU⟩ : ∃ U, visW XW.b xs = U := ⟨_, rfl⟩
  rw [hV] at xA
  rw [hU] at xC
  clear hV hU
  go_upto_region 4 with fail
  have hba := bal (bal (bre w2) (.cells #[.slice Aa na ca, .map ma] 43)) (.cells #[.slice Ab nb cb, .map mb] 43)
  have xB := bstep HB.out hba
  have xK5 := K5.out.belowS hba
  have xK7 := (Blk.new w2 43 #[.slice Aa na ca, .map ma]).alloc (.cells #[.slice Ab nb cb, .map mb] 43)
  have xK8 := blk_newA w2 (.cells #[.slice Aa na ca, .map ma] 43) 43 #[.slice Ab nb cb, .map mb]
  replace xA := xA.below hba
  replace xC := xC.below hba
  obtain ⟨X2, hX2⟩ : ∃ X2, (w2.alloc (.cells #[.slice Aa na ca, .map ma] 43)).alloc (.cells #[.slice Ab nb cb, .map mb] 43) = X2 := ⟨_, rfl⟩
  rw [hX2] at xB xK5 xK7 xK8 xA xC ⊢
  replace HB := Lib.hid xB
  replace K5 := Lib.hid xK5
  have K7 := Lib.hid xK7
  have K8 := Lib.hid xK8
  have HA := Lib.hid xA
  have HC := Lib.hid xC
  clear hba xB xK5 xK7 xK8 xA xC hX2
  obtain ⟨p, hp⟩ : ∃ p : Nat, m % ((n : Int) + 2) = (p : Int) := ⟨(m % ((n : Int) + 2)).toNat, by have := Int.emod_nonneg m (show ((n : Int) + 2) ≠ 0 by omega); omega⟩
  have hpn : p ≤ 10 := by have := Int.emod_lt_of_pos m (show 0 < ((n : Int) + 2) by omega); omega
  have hm := HM.out
  have v1 : IntKind.i64.wrap m = m := IntWalk.i64_in _ (by omega)
  have v2 : IntKind.i64.wrap ((n : Int) + 2) = (n : Int) + 2 := IntWalk.i64_in _ (by omega)
  have v3 : m.tmod ((n : Int) + 2) = (p : Int) := by rw [Int.tmod_eq_emod_of_nonneg (by omega)]; exact hp
  have v4 : ¬ ((n : Int) + 2 = 0) := by omega
  clear hp
  go_wp2_with fail
  refine (id32_any p _ (by omega)).mono ?_
  rintro e w3 ⟨rfl, hb3⟩
  obtain ⟨i, hi⟩ : ∃ i, idW ((p : Int) - 1) = i := ⟨_, rfl⟩
  have HI := Lib.hid (show 0 ≤ i ∧ i ≤ 4294967295 by rw [← hi]; exact idW_bd (by omega))
  rw [hi]
  replace HB := Lib.hid (bstep HB.out hb3)
  replace K5 := Lib.hid (K5.out.belowS hb3)
  replace K7 := Lib.hid (K7.out.belowS hb3)
  replace K8 := Lib.hid (K8.out.belowS hb3)
  replace HA := Lib.hid (HA.out.below hb3)
  replace HC := Lib.hid (HC.out.below hb3)
  have HFP := Lib.hid (show X2.heap.size ≤ w3.heap.size from hb3.size)
  clear hb3 hi v1 v2 v3 v4 hm hpn
  go_upto_region 5 with fail
  obtain ⟨X3, hX3⟩ : ∃ X3, X3 = w3 := ⟨_, rfl⟩
  subst hX3
  go_cut [11, 12] from 171 (fun s11 s12 wx => ∃ (g11 g12 : Nat) (A1 : Option Addr) (n1 c1 : Nat) (A2 : Option Addr) (n2 c2 : Nat), s11 = .pointer (some ⟨g11, 0, none⟩) ∧ s12 = .pointer (some ⟨g12, 0, none⟩) ∧ Blk wx g11 60 #[.slice A1 n1 c1] ∧ Blk wx g12 60 #[.slice A2 n2 c2] ∧ RegP wx (.agg #[.slice A1 n1 c1]) (V i) ∧ RegP wx (.agg #[.slice A2 n2 c2]) (U i) ∧ Below X3.heap.size X3 wx)
  case first =>
    as_aux_lemma =>
      have HBW := Lib.hid (show Below X3.heap.size X3 X3.drew from (bre X3).drew)
      refine wp_region_noPanic ?_
      refine wp_region_held_drew (S := (fun w' => w'.cell? ⟨w2.heap.size, 0, none⟩ = some (.slice Aa na ca) ∧ w'.cell? ⟨w2.heap.size, 1, none⟩ = some (.map ma) ∧ w'.cell? ⟨w2.heap.size + 1, 0, none⟩ = some (.slice Ab nb cb) ∧ w'.cell? ⟨w2.heap.size + 1, 1, none⟩ = some (.map mb))) (by kernel_rfl) ?_ (fun hHeld => ?_)
      · (try dsimp only)
        exact ⟨(K7.out.belowS HBW.out).cellV (i := 0) rfl, (K7.out.belowS HBW.out).cellV (i := 1) rfl, (K8.out.belowS HBW.out).cellV (i := 0) rfl, (K8.out.belowS HBW.out).cellV (i := 1) rfl⟩
      refine Tr.take_at 0 45 (.agg #[.slice Aa na ca, .map ma]) rfl rfl (by kernel_rfl) (by kernel_rfl) (by kernel_rfl) (fun _ _ _ h => h) (Or.inl ⟨by rfl, ?_⟩) (by assumption) ?_
      · intro W0 hSw
        (try dsimp only at hSw)
        go_simp
      simp only [List.set_cons_zero, List.set_cons_succ]
      refine Tr.take_at 1 46 (.int .u32 i) rfl rfl (by kernel_rfl) (by kernel_rfl) (by kernel_rfl) (fun _ _ _ h => h) (Or.inl ⟨by rfl, ?_⟩) (by assumption) ?_
      · intro W0 hSw
        (try dsimp only at hSw)
        go_simp
      simp only [List.set_cons_zero, List.set_cons_succ]
      refine Tr.take_at 3 48 (.agg #[.slice Ab nb cb, .map mb]) rfl rfl (by kernel_rfl) (by kernel_rfl) (by kernel_rfl) (fun _ _ _ h => h) (Or.inl ⟨by rfl, ?_⟩) (by assumption) ?_
      · intro W0 hSw
        (try dsimp only at hSw)
        go_simp
      simp only [List.set_cons_zero, List.set_cons_succ]
      refine Tr.take_at 4 49 (.int .u32 i) rfl rfl (by kernel_rfl) (by kernel_rfl) (by kernel_rfl) (fun _ _ _ h => h) (Or.inl ⟨by rfl, ?_⟩) (by assumption) ?_
      · intro W0 hSw
        (try dsimp only at hSw)
        go_simp
      simp only [List.set_cons_zero, List.set_cons_succ]
      refine wpAnyH_ready (rs := [2, 6, 7]) (by kernel_rfl) (by simp) ?_
      refine AllReadyH.cons rfl (fun K hK => ?_) (AllReadyH.cons rfl (fun K hK => ?_) (AllReadyH.cons rfl (fun K hK => ?_) AllReadyH.nil))
      ·
        go_simp
        refine ((HA.out.below HBW.out).call _ (bre _) i HI.out).mono ?_
        rintro e wc2 ⟨u, rfl, hr, hbA⟩
        obtain ⟨A2, n2, c2, rfl⟩ := hr.form
        have HVR := Lib.hid hr
        clear hr
        replace HBW := Lib.hid (bstep HBW.out hbA)
        clear hbA
        go_simp
        refine hK.out _ _ ?_ (fun hHeld => ?_)
        · (try dsimp only)
          exact ⟨(K7.out.belowS HBW.out).cellV (i := 0) rfl, (K7.out.belowS HBW.out).cellV (i := 1) rfl, (K8.out.belowS HBW.out).cellV (i := 0) rfl, (K8.out.belowS HBW.out).cellV (i := 1) rfl⟩
        clear hK K
        refine wpAnyH_ready (rs := [5, 6, 7]) (by kernel_rfl) (by simp) ?_
        refine AllReadyH.cons rfl (fun K hK => ?_) (AllReadyH.cons rfl (fun K hK => ?_) (AllReadyH.cons rfl (fun K hK => ?_) AllReadyH.nil))
        ·
          go_simp
          refine ((HC.out.below HBW.out).call _ (bre _) i HI.out).mono ?_
          rintro e wc5 ⟨u, rfl, hr, hbA⟩
          obtain ⟨A5, n5, c5, rfl⟩ := hr.form
          have HUR := Lib.hid hr
          clear hr
          replace HBW := Lib.hid (bstep HBW.out hbA)
          replace HVR := Lib.hid (HVR.out.below hbA)
          clear hbA
          go_simp
          refine hK.out _ _ ?_ (fun hHeld => ?_)
          · (try dsimp only)
            exact ⟨(K7.out.belowS HBW.out).cellV (i := 0) rfl, (K7.out.belowS HBW.out).cellV (i := 1) rfl, (K8.out.belowS HBW.out).cellV (i := 0) rfl, (K8.out.belowS HBW.out).cellV (i := 1) rfl⟩
          clear hK K
          refine wpAnyH_ready (rs := [6, 7]) (by kernel_rfl) (by simp) ?_
          refine AllReadyH.cons rfl (fun K hK => ?_) (AllReadyH.cons rfl (fun K hK => ?_) AllReadyH.nil)
          ·
            go_simp
            have KA6 := Lib.hid (show Blk (wc5.alloc (.cells #[.slice none 0 0] 60)) (wc5.heap.size) 60 #[.slice none 0 0] from Blk.new wc5 60 #[.slice none 0 0])
            have HL6 := Lib.hid (show X3.heap.size ≤ wc5.heap.size from HBW.out.size)
            have hbA : Below wc5.heap.size wc5 ((wc5.alloc (.cells #[.slice none 0 0] 60))) := bal (bre wc5) (.cells #[.slice none 0 0] 60)
            replace HBW := Lib.hid (bstep HBW.out hbA)
            replace HVR := Lib.hid (HVR.out.below hbA)
            replace HUR := Lib.hid (HUR.out.below hbA)
            clear hbA
            refine hK.out _ _ ?_ (fun hHeld => ?_)
            · (try dsimp only)
              exact ⟨(K7.out.belowS HBW.out).cellV (i := 0) rfl, (K7.out.belowS HBW.out).cellV (i := 1) rfl, (K8.out.belowS HBW.out).cellV (i := 0) rfl, (K8.out.belowS HBW.out).cellV (i := 1) rfl⟩
            clear hK K
            refine wpAnyH_ready (rs := [7]) (by kernel_rfl) (by simp) ?_
            refine AllReadyH.cons rfl (fun K hK => ?_) AllReadyH.nil
            go_simp
            have HN6_7 := Lib.hid (show wc5.heap.size ≠ wc5.heap.size + 1 from by have h := KA6.out.lt; rw [show ((wc5.alloc (.cells #[.slice none 0 0] 60))).heap.size = wc5.heap.size + 1 from (show ((wc5.alloc (.cells #[.slice none 0 0] 60))).heap.size = wc5.heap.size + 1 by simp)] at h; exact Nat.ne_of_lt h)
            have KA7 := Lib.hid (show Blk ((wc5.alloc (.cells #[.slice none 0 0] 60)).alloc (.cells #[.slice none 0 0] 60)) (wc5.heap.size + 1) 60 #[.slice none 0 0] from by have h := Blk.new ((wc5.alloc (.cells #[.slice none 0 0] 60))) 60 #[.slice none 0 0]; rw [show ((wc5.alloc (.cells #[.slice none 0 0] 60))).heap.size = wc5.heap.size + 1 from (show ((wc5.alloc (.cells #[.slice none 0 0] 60))).heap.size = wc5.heap.size + 1 by simp)] at h; exact h)
            have HL7 := Lib.hid (show X3.heap.size ≤ wc5.heap.size + 1 from by have h := HBW.out.size; rw [show ((wc5.alloc (.cells #[.slice none 0 0] 60))).heap.size = wc5.heap.size + 1 from (show ((wc5.alloc (.cells #[.slice none 0 0] 60))).heap.size = wc5.heap.size + 1 by simp)] at h; exact h)
            have hbA : Below (wc5.alloc (.cells #[.slice none 0 0] 60)).heap.size (wc5.alloc (.cells #[.slice none 0 0] 60)) (((wc5.alloc (.cells #[.slice none 0 0] 60)).alloc (.cells #[.slice none 0 0] 60))) := bal (bre (wc5.alloc (.cells #[.slice none 0 0] 60))) (.cells #[.slice none 0 0] 60)
            replace HBW := Lib.hid (bstep HBW.out hbA)
            replace KA6 := Lib.hid (KA6.out.belowS hbA)
            replace HVR := Lib.hid (HVR.out.below hbA)
            replace HUR := Lib.hid (HUR.out.below hbA)
            clear hbA
            refine hK.out _ _ ?_ (fun hHeld => ?_)
            · (try dsimp only)
              exact ⟨(K7.out.belowS HBW.out).cellV (i := 0) rfl, (K7.out.belowS HBW.out).cellV (i := 1) rfl, (K8.out.belowS HBW.out).cellV (i := 0) rfl, (K8.out.belowS HBW.out).cellV (i := 1) rfl⟩
            clear hK K
            refine wpAnyH_ready (rs := [8]) (by kernel_rfl) (by simp) ?_
            refine AllReadyH.cons rfl (fun K hK => ?_) AllReadyH.nil
            refine Tr.wanted_plain rfl ?_
            refine store_mid0 rfl 60 _ _ rfl (wc5.heap.size) 0 #[.slice A2 n2 c2] (by rfl) (by rfl) (by have h := there_blk KA6.out; exact h) Tryz.sizeRg (by simp [Value.oneCell']) ?_
            have xK := blk_puts1 (.slice A2 n2 c2) KA6.out
            have xB := bsets HBW.out HL6.out (#[.slice A2 n2 c2] : Array Value).toList 0
            have xA7 := KA7.out.farCells (HN6_7.out.symm) (#[.slice A2 n2 c2] : Array Value).toList 0
            have xHVR := (show RegP (World.setCells ((wc5.alloc (.cells #[.slice none 0 0] 60)).alloc (.cells #[.slice none 0 0] 60)) (wc5.heap.size) 0 (#[.slice A2 n2 c2] : Array Value).toList) _ _ from HVR.out.sets1 KA6.out)
            have xHUR := (show RegP (World.setCells ((wc5.alloc (.cells #[.slice none 0 0] 60)).alloc (.cells #[.slice none 0 0] 60)) (wc5.heap.size) 0 (#[.slice A2 n2 c2] : Array Value).toList) _ _ from HUR.out.sets1 KA6.out)
            obtain ⟨wS8, hwS⟩ : ∃ wS, World.setCells ((wc5.alloc (.cells #[.slice none 0 0] 60)).alloc (.cells #[.slice none 0 0] 60)) (wc5.heap.size) 0 (#[.slice A2 n2 c2] : Array Value).toList = wS := ⟨_, rfl⟩
            rw [hwS] at xK xB xA7 xHVR xHUR ⊢
            replace HBW := Lib.hid xB
            replace KA6 := Lib.hid xK
            replace KA7 := Lib.hid xA7
            replace HVR := Lib.hid xHVR
            replace HUR := Lib.hid xHUR
            clear hwS xK xB xA7 xHVR xHUR
            refine hK.out _ _ ?_ (fun hHeld => ?_)
            · (try dsimp only)
              exact ⟨(K7.out.belowS HBW.out).cellV (i := 0) rfl, (K7.out.belowS HBW.out).cellV (i := 1) rfl, (K8.out.belowS HBW.out).cellV (i := 0) rfl, (K8.out.belowS HBW.out).cellV (i := 1) rfl⟩
            clear hK K
            refine wpAnyH_ready (rs := [9]) (by kernel_rfl) (by simp) ?_
            refine AllReadyH.cons rfl (fun K hK => ?_) AllReadyH.nil
            refine Tr.wanted_plain rfl ?_
            refine store_mid0 rfl 60 _ _ rfl (wc5.heap.size + 1) 0 #[.slice A5 n5 c5] (by rfl) (by rfl) (by have h := there_blk KA7.out; exact h) Tryz.sizeRg (by simp [Value.oneCell']) ?_
            have xK := blk_puts1 (.slice A5 n5 c5) KA7.out
            have xB := bsets HBW.out HL7.out (#[.slice A5 n5 c5] : Array Value).toList 0
            have xA6 := KA6.out.farCells (HN6_7.out) (#[.slice A5 n5 c5] : Array Value).toList 0
            have xHVR := (show RegP (World.setCells (wS8) (wc5.heap.size + 1) 0 (#[.slice A5 n5 c5] : Array Value).toList) _ _ from HVR.out.sets1 KA7.out)
            have xHUR := (show RegP (World.setCells (wS8) (wc5.heap.size + 1) 0 (#[.slice A5 n5 c5] : Array Value).toList) _ _ from HUR.out.sets1 KA7.out)
            obtain ⟨wS9, hwS⟩ : ∃ wS, World.setCells wS8 (wc5.heap.size + 1) 0 (#[.slice A5 n5 c5] : Array Value).toList = wS := ⟨_, rfl⟩
            rw [hwS] at xK xB xA6 xHVR xHUR ⊢
            replace HBW := Lib.hid xB
            replace KA7 := Lib.hid xK
            replace KA6 := Lib.hid xA6
            replace HVR := Lib.hid xHVR
            replace HUR := Lib.hid xHUR
            clear hwS xK xB xA6 xHVR xHUR
            refine hK.out _ _ ?_ (fun hHeld => ?_)
            · (try dsimp only)
              exact ⟨(K7.out.belowS HBW.out).cellV (i := 0) rfl, (K7.out.belowS HBW.out).cellV (i := 1) rfl, (K8.out.belowS HBW.out).cellV (i := 0) rfl, (K8.out.belowS HBW.out).cellV (i := 1) rfl⟩
            clear hK K
            refine wpAnyH_done (by kernel_rfl) ?_ _
            refine NoPanic.normal ?_
            go_wp2_with fail
            go_meet
            exact ⟨_, _, A2, n2, c2, A5, n5, c5, rfl, rfl, KA6.out, KA7.out, HVR.out, HUR.out, HBW.out⟩
          ·
            go_simp
            have KA7 := Lib.hid (show Blk (wc5.alloc (.cells #[.slice none 0 0] 60)) (wc5.heap.size) 60 #[.slice none 0 0] from Blk.new wc5 60 #[.slice none 0 0])
            have HL7 := Lib.hid (show X3.heap.size ≤ wc5.heap.size from HBW.out.size)
            have hbA : Below wc5.heap.size wc5 ((wc5.alloc (.cells #[.slice none 0 0] 60))) := bal (bre wc5) (.cells #[.slice none 0 0] 60)
            replace HBW := Lib.hid (bstep HBW.out hbA)
            replace HVR := Lib.hid (HVR.out.below hbA)
            replace HUR := Lib.hid (HUR.out.below hbA)
            clear hbA
            refine hK.out _ _ ?_ (fun hHeld => ?_)
            · (try dsimp only)
              exact ⟨(K7.out.belowS HBW.out).cellV (i := 0) rfl, (K7.out.belowS HBW.out).cellV (i := 1) rfl, (K8.out.belowS HBW.out).cellV (i := 0) rfl, (K8.out.belowS HBW.out).cellV (i := 1) rfl⟩
            clear hK K
            refine wpAnyH_ready (rs := [6]) (by kernel_rfl) (by simp) ?_
            refine AllReadyH.cons rfl (fun K hK => ?_) AllReadyH.nil
            go_simp
            have HN7_6 := Lib.hid (show wc5.heap.size ≠ wc5.heap.size + 1 from by have h := KA7.out.lt; rw [show ((wc5.alloc (.cells #[.slice none 0 0] 60))).heap.size = wc5.heap.size + 1 from (show ((wc5.alloc (.cells #[.slice none 0 0] 60))).heap.size = wc5.heap.size + 1 by simp)] at h; exact Nat.ne_of_lt h)
            have KA6 := Lib.hid (show Blk ((wc5.alloc (.cells #[.slice none 0 0] 60)).alloc (.cells #[.slice none 0 0] 60)) (wc5.heap.size + 1) 60 #[.slice none 0 0] from by have h := Blk.new ((wc5.alloc (.cells #[.slice none 0 0] 60))) 60 #[.slice none 0 0]; rw [show ((wc5.alloc (.cells #[.slice none 0 0] 60))).heap.size = wc5.heap.size + 1 from (show ((wc5.alloc (.cells #[.slice none 0 0] 60))).heap.size = wc5.heap.size + 1 by simp)] at h; exact h)
            have HL6 := Lib.hid (show X3.heap.size ≤ wc5.heap.size + 1 from by have h := HBW.out.size; rw [show ((wc5.alloc (.cells #[.slice none 0 0] 60))).heap.size = wc5.heap.size + 1 from (show ((wc5.alloc (.cells #[.slice none 0 0] 60))).heap.size = wc5.heap.size + 1 by simp)] at h; exact h)
            have hbA : Below (wc5.alloc (.cells #[.slice none 0 0] 60)).heap.size (wc5.alloc (.cells #[.slice none 0 0] 60)) (((wc5.alloc (.cells #[.slice none 0 0] 60)).alloc (.cells #[.slice none 0 0] 60))) := bal (bre (wc5.alloc (.cells #[.slice none 0 0] 60))) (.cells #[.slice none 0 0] 60)
            replace HBW := Lib.hid (bstep HBW.out hbA)
            replace KA7 := Lib.hid (KA7.out.belowS hbA)
            replace HVR := Lib.hid (HVR.out.below hbA)
            replace HUR := Lib.hid (HUR.out.below hbA)
            clear hbA
            refine hK.out _ _ ?_ (fun hHeld => ?_)
            · (try dsimp only)
              exact ⟨(K7.out.belowS HBW.out).cellV (i := 0) rfl, (K7.out.belowS HBW.out).cellV (i := 1) rfl, (K8.out.belowS HBW.out).cellV (i := 0) rfl, (K8.out.belowS HBW.out).cellV (i := 1) rfl⟩
            clear hK K
            refine wpAnyH_ready (rs := [8]) (by kernel_rfl) (by simp) ?_
            refine AllReadyH.cons rfl (fun K hK => ?_) AllReadyH.nil
            refine Tr.wanted_plain rfl ?_
            refine store_mid0 rfl 60 _ _ rfl (wc5.heap.size + 1) 0 #[.slice A2 n2 c2] (by rfl) (by rfl) (by have h := there_blk KA6.out; exact h) Tryz.sizeRg (by simp [Value.oneCell']) ?_
            have xK := blk_puts1 (.slice A2 n2 c2) KA6.out
            have xB := bsets HBW.out HL6.out (#[.slice A2 n2 c2] : Array Value).toList 0
            have xA7 := KA7.out.farCells (HN7_6.out) (#[.slice A2 n2 c2] : Array Value).toList 0
            have xHVR := (show RegP (World.setCells ((wc5.alloc (.cells #[.slice none 0 0] 60)).alloc (.cells #[.slice none 0 0] 60)) (wc5.heap.size + 1) 0 (#[.slice A2 n2 c2] : Array Value).toList) _ _ from HVR.out.sets1 KA6.out)
            have xHUR := (show RegP (World.setCells ((wc5.alloc (.cells #[.slice none 0 0] 60)).alloc (.cells #[.slice none 0 0] 60)) (wc5.heap.size + 1) 0 (#[.slice A2 n2 c2] : Array Value).toList) _ _ from HUR.out.sets1 KA6.out)
            obtain ⟨wS8, hwS⟩ : ∃ wS, World.setCells ((wc5.alloc (.cells #[.slice none 0 0] 60)).alloc (.cells #[.slice none 0 0] 60)) (wc5.heap.size + 1) 0 (#[.slice A2 n2 c2] : Array Value).toList = wS := ⟨_, rfl⟩
            rw [hwS] at xK xB xA7 xHVR xHUR ⊢
            replace HBW := Lib.hid xB
            replace KA6 := Lib.hid xK
            replace KA7 := Lib.hid xA7
            replace HVR := Lib.hid xHVR
            replace HUR := Lib.hid xHUR
            clear hwS xK xB xA7 xHVR xHUR
            refine hK.out _ _ ?_ (fun hHeld => ?_)
            · (try dsimp only)
              exact ⟨(K7.out.belowS HBW.out).cellV (i := 0) rfl, (K7.out.belowS HBW.out).cellV (i := 1) rfl, (K8.out.belowS HBW.out).cellV (i := 0) rfl, (K8.out.belowS HBW.out).cellV (i := 1) rfl⟩
            clear hK K
            refine wpAnyH_ready (rs := [9]) (by kernel_rfl) (by simp) ?_
            refine AllReadyH.cons rfl (fun K hK => ?_) AllReadyH.nil
            refine Tr.wanted_plain rfl ?_
            refine store_mid0 rfl 60 _ _ rfl (wc5.heap.size) 0 #[.slice A5 n5 c5] (by rfl) (by rfl) (by have h := there_blk KA7.out; exact h) Tryz.sizeRg (by simp [Value.oneCell']) ?_
            have xK := blk_puts1 (.slice A5 n5 c5) KA7.out
            have xB := bsets HBW.out HL7.out (#[.slice A5 n5 c5] : Array Value).toList 0
            have xA6 := KA6.out.farCells (HN7_6.out.symm) (#[.slice A5 n5 c5] : Array Value).toList 0
            have xHVR := (show RegP (World.setCells (wS8) (wc5.heap.size) 0 (#[.slice A5 n5 c5] : Array Value).toList) _ _ from HVR.out.sets1 KA7.out)
            have xHUR := (show RegP (World.setCells (wS8) (wc5.heap.size) 0 (#[.slice A5 n5 c5] : Array Value).toList) _ _ from HUR.out.sets1 KA7.out)
            obtain ⟨wS9, hwS⟩ : ∃ wS, World.setCells wS8 (wc5.heap.size) 0 (#[.slice A5 n5 c5] : Array Value).toList = wS := ⟨_, rfl⟩
            rw [hwS] at xK xB xA6 xHVR xHUR ⊢
            replace HBW := Lib.hid xB
            replace KA7 := Lib.hid xK
            replace KA6 := Lib.hid xA6
            replace HVR := Lib.hid xHVR
            replace HUR := Lib.hid xHUR
            clear hwS xK xB xA6 xHVR xHUR
            refine hK.out _ _ ?_ (fun hHeld => ?_)
            · (try dsimp only)
              exact ⟨(K7.out.belowS HBW.out).cellV (i := 0) rfl, (K7.out.belowS HBW.out).cellV (i := 1) rfl, (K8.out.belowS HBW.out).cellV (i := 0) rfl, (K8.out.belowS HBW.out).cellV (i := 1) rfl⟩
            clear hK K
            refine wpAnyH_done (by kernel_rfl) ?_ _
            refine NoPanic.normal ?_
            go_wp2_with fail
            go_meet
            exact ⟨_, _, A2, n2, c2, A5, n5, c5, rfl, rfl, KA6.out, KA7.out, HVR.out, HUR.out, HBW.out⟩
        ·
          go_simp
          have KA6 := Lib.hid (show Blk (wc2.alloc (.cells #[.slice none 0 0] 60)) (wc2.heap.size) 60 #[.slice none 0 0] from Blk.new wc2 60 #[.slice none 0 0])
          have HL6 := Lib.hid (show X3.heap.size ≤ wc2.heap.size from HBW.out.size)
          have hbA : Below wc2.heap.size wc2 ((wc2.alloc (.cells #[.slice none 0 0] 60))) := bal (bre wc2) (.cells #[.slice none 0 0] 60)
          replace HBW := Lib.hid (bstep HBW.out hbA)
          replace HVR := Lib.hid (HVR.out.below hbA)
          clear hbA
          refine hK.out _ _ ?_ (fun hHeld => ?_)
          · (try dsimp only)
            exact ⟨(K7.out.belowS HBW.out).cellV (i := 0) rfl, (K7.out.belowS HBW.out).cellV (i := 1) rfl, (K8.out.belowS HBW.out).cellV (i := 0) rfl, (K8.out.belowS HBW.out).cellV (i := 1) rfl⟩
          clear hK K
          refine wpAnyH_ready (rs := [5, 7]) (by kernel_rfl) (by simp) ?_
          refine AllReadyH.cons rfl (fun K hK => ?_) (AllReadyH.cons rfl (fun K hK => ?_) AllReadyH.nil)
          ·
            go_simp
            refine ((HC.out.below HBW.out).call _ (bre _) i HI.out).mono ?_
            rintro e wc5 ⟨u, rfl, hr, hbA⟩
            obtain ⟨A5, n5, c5, rfl⟩ := hr.form
            have HUR := Lib.hid hr
            clear hr
            replace HBW := Lib.hid (bstep HBW.out hbA)
            replace KA6 := Lib.hid (KA6.out.belowS hbA)
            replace HVR := Lib.hid (HVR.out.below hbA)
            clear hbA
            go_simp
            refine hK.out _ _ ?_ (fun hHeld => ?_)
            · (try dsimp only)
              exact ⟨(K7.out.belowS HBW.out).cellV (i := 0) rfl, (K7.out.belowS HBW.out).cellV (i := 1) rfl, (K8.out.belowS HBW.out).cellV (i := 0) rfl, (K8.out.belowS HBW.out).cellV (i := 1) rfl⟩
            clear hK K
            refine wpAnyH_ready (rs := [7]) (by kernel_rfl) (by simp) ?_
            refine AllReadyH.cons rfl (fun K hK => ?_) AllReadyH.nil
            go_simp
            have HN6_7 := Lib.hid (Nat.ne_of_lt KA6.out.lt)
            have KA7 := Lib.hid (show Blk (wc5.alloc (.cells #[.slice none 0 0] 60)) (wc5.heap.size) 60 #[.slice none 0 0] from Blk.new wc5 60 #[.slice none 0 0])
            have HL7 := Lib.hid (show X3.heap.size ≤ wc5.heap.size from HBW.out.size)
            have hbA : Below wc5.heap.size wc5 ((wc5.alloc (.cells #[.slice none 0 0] 60))) := bal (bre wc5) (.cells #[.slice none 0 0] 60)
            replace HBW := Lib.hid (bstep HBW.out hbA)
            replace KA6 := Lib.hid (KA6.out.belowS hbA)
            replace HVR := Lib.hid (HVR.out.below hbA)
            replace HUR := Lib.hid (HUR.out.below hbA)
            clear hbA
            refine hK.out _ _ ?_ (fun hHeld => ?_)
            · (try dsimp only)
              exact ⟨(K7.out.belowS HBW.out).cellV (i := 0) rfl, (K7.out.belowS HBW.out).cellV (i := 1) rfl, (K8.out.belowS HBW.out).cellV (i := 0) rfl, (K8.out.belowS HBW.out).cellV (i := 1) rfl⟩
            clear hK K
            refine wpAnyH_ready (rs := [8]) (by kernel_rfl) (by simp) ?_
            refine AllReadyH.cons rfl (fun K hK => ?_) AllReadyH.nil
            refine Tr.wanted_plain rfl ?_
            refine store_mid0 rfl 60 _ _ rfl (wc2.heap.size) 0 #[.slice A2 n2 c2] (by rfl) (by rfl) (by have h := there_blk KA6.out; exact h) Tryz.sizeRg (by simp [Value.oneCell']) ?_
            have xK := blk_puts1 (.slice A2 n2 c2) KA6.out
            have xB := bsets HBW.out HL6.out (#[.slice A2 n2 c2] : Array Value).toList 0
            have xA7 := KA7.out.farCells (HN6_7.out.symm) (#[.slice A2 n2 c2] : Array Value).toList 0
            have xHVR := (show RegP (World.setCells (wc5.alloc (.cells #[.slice none 0 0] 60)) (wc2.heap.size) 0 (#[.slice A2 n2 c2] : Array Value).toList) _ _ from HVR.out.sets1 KA6.out)
            have xHUR := (show RegP (World.setCells (wc5.alloc (.cells #[.slice none 0 0] 60)) (wc2.heap.size) 0 (#[.slice A2 n2 c2] : Array Value).toList) _ _ from HUR.out.sets1 KA6.out)
            obtain ⟨wS8, hwS⟩ : ∃ wS, World.setCells (wc5.alloc (.cells #[.slice none 0 0] 60)) (wc2.heap.size) 0 (#[.slice A2 n2 c2] : Array Value).toList = wS := ⟨_, rfl⟩
            rw [hwS] at xK xB xA7 xHVR xHUR ⊢
            replace HBW := Lib.hid xB
            replace KA6 := Lib.hid xK
            replace KA7 := Lib.hid xA7
            replace HVR := Lib.hid xHVR
            replace HUR := Lib.hid xHUR
            clear hwS xK xB xA7 xHVR xHUR
            refine hK.out _ _ ?_ (fun hHeld => ?_)
            · (try dsimp only)
              exact ⟨(K7.out.belowS HBW.out).cellV (i := 0) rfl, (K7.out.belowS HBW.out).cellV (i := 1) rfl, (K8.out.belowS HBW.out).cellV (i := 0) rfl, (K8.out.belowS HBW.out).cellV (i := 1) rfl⟩
            clear hK K
            refine wpAnyH_ready (rs := [9]) (by kernel_rfl) (by simp) ?_
            refine AllReadyH.cons rfl (fun K hK => ?_) AllReadyH.nil
            refine Tr.wanted_plain rfl ?_
            refine store_mid0 rfl 60 _ _ rfl (wc5.heap.size) 0 #[.slice A5 n5 c5] (by rfl) (by rfl) (by have h := there_blk KA7.out; exact h) Tryz.sizeRg (by simp [Value.oneCell']) ?_
            have xK := blk_puts1 (.slice A5 n5 c5) KA7.out
            have xB := bsets HBW.out HL7.out (#[.slice A5 n5 c5] : Array Value).toList 0
            have xA6 := KA6.out.farCells (HN6_7.out) (#[.slice A5 n5 c5] : Array Value).toList 0
            have xHVR := (show RegP (World.setCells (wS8) (wc5.heap.size) 0 (#[.slice A5 n5 c5] : Array Value).toList) _ _ from HVR.out.sets1 KA7.out)
            have xHUR := (show RegP (World.setCells (wS8) (wc5.heap.size) 0 (#[.slice A5 n5 c5] : Array Value).toList) _ _ from HUR.out.sets1 KA7.out)
            obtain ⟨wS9, hwS⟩ : ∃ wS, World.setCells wS8 (wc5.heap.size) 0 (#[.slice A5 n5 c5] : Array Value).toList = wS := ⟨_, rfl⟩
            rw [hwS] at xK xB xA6 xHVR xHUR ⊢
            replace HBW := Lib.hid xB
            replace KA7 := Lib.hid xK
            replace KA6 := Lib.hid xA6
            replace HVR := Lib.hid xHVR
            replace HUR := Lib.hid xHUR
            clear hwS xK xB xA6 xHVR xHUR
            refine hK.out _ _ ?_ (fun hHeld => ?_)
            · (try dsimp only)
              exact ⟨(K7.out.belowS HBW.out).cellV (i := 0) rfl, (K7.out.belowS HBW.out).cellV (i := 1) rfl, (K8.out.belowS HBW.out).cellV (i := 0) rfl, (K8.out.belowS HBW.out).cellV (i := 1) rfl⟩
            clear hK K
            refine wpAnyH_done (by kernel_rfl) ?_ _
            refine NoPanic.normal ?_
            go_wp2_with fail
            go_meet
            exact ⟨_, _, A2, n2, c2, A5, n5, c5, rfl, rfl, KA6.out, KA7.out, HVR.out, HUR.out, HBW.out⟩
          ·
            go_simp
            have HN6_7 := Lib.hid (show wc2.heap.size ≠ wc2.heap.size + 1 from by have h := KA6.out.lt; rw [show ((wc2.alloc (.cells #[.slice none 0 0] 60))).heap.size = wc2.heap.size + 1 from (show ((wc2.alloc (.cells #[.slice none 0 0] 60))).heap.size = wc2.heap.size + 1 by simp)] at h; exact Nat.ne_of_lt h)
            have KA7 := Lib.hid (show Blk ((wc2.alloc (.cells #[.slice none 0 0] 60)).alloc (.cells #[.slice none 0 0] 60)) (wc2.heap.size + 1) 60 #[.slice none 0 0] from by have h := Blk.new ((wc2.alloc (.cells #[.slice none 0 0] 60))) 60 #[.slice none 0 0]; rw [show ((wc2.alloc (.cells #[.slice none 0 0] 60))).heap.size = wc2.heap.size + 1 from (show ((wc2.alloc (.cells #[.slice none 0 0] 60))).heap.size = wc2.heap.size + 1 by simp)] at h; exact h)
            have HL7 := Lib.hid (show X3.heap.size ≤ wc2.heap.size + 1 from by have h := HBW.out.size; rw [show ((wc2.alloc (.cells #[.slice none 0 0] 60))).heap.size = wc2.heap.size + 1 from (show ((wc2.alloc (.cells #[.slice none 0 0] 60))).heap.size = wc2.heap.size + 1 by simp)] at h; exact h)
            have hbA : Below (wc2.alloc (.cells #[.slice none 0 0] 60)).heap.size (wc2.alloc (.cells #[.slice none 0 0] 60)) (((wc2.alloc (.cells #[.slice none 0 0] 60)).alloc (.cells #[.slice none 0 0] 60))) := bal (bre (wc2.alloc (.cells #[.slice none 0 0] 60))) (.cells #[.slice none 0 0] 60)
            replace HBW := Lib.hid (bstep HBW.out hbA)
            replace KA6 := Lib.hid (KA6.out.belowS hbA)
            replace HVR := Lib.hid (HVR.out.below hbA)
            clear hbA
            refine hK.out _ _ ?_ (fun hHeld => ?_)
            · (try dsimp only)
              exact ⟨(K7.out.belowS HBW.out).cellV (i := 0) rfl, (K7.out.belowS HBW.out).cellV (i := 1) rfl, (K8.out.belowS HBW.out).cellV (i := 0) rfl, (K8.out.belowS HBW.out).cellV (i := 1) rfl⟩
            clear hK K
            refine wpAnyH_ready (rs := [5]) (by kernel_rfl) (by simp) ?_
            refine AllReadyH.cons rfl (fun K hK => ?_) AllReadyH.nil
            go_simp
            refine ((HC.out.below HBW.out).call _ (bre _) i HI.out).mono ?_
            rintro e wc5 ⟨u, rfl, hr, hbA⟩
            obtain ⟨A5, n5, c5, rfl⟩ := hr.form
            have HUR := Lib.hid hr
            clear hr
            replace HBW := Lib.hid (bstep HBW.out hbA)
            replace KA6 := Lib.hid (KA6.out.belowS hbA)
            replace KA7 := Lib.hid (KA7.out.belowS hbA)
            replace HVR := Lib.hid (HVR.out.below hbA)
            clear hbA
            go_simp
            refine hK.out _ _ ?_ (fun hHeld => ?_)
            · (try dsimp only)
              exact ⟨(K7.out.belowS HBW.out).cellV (i := 0) rfl, (K7.out.belowS HBW.out).cellV (i := 1) rfl, (K8.out.belowS HBW.out).cellV (i := 0) rfl, (K8.out.belowS HBW.out).cellV (i := 1) rfl⟩
            clear hK K
            refine wpAnyH_ready (rs := [8]) (by kernel_rfl) (by simp) ?_
            refine AllReadyH.cons rfl (fun K hK => ?_) AllReadyH.nil
            refine Tr.wanted_plain rfl ?_
            refine store_mid0 rfl 60 _ _ rfl (wc2.heap.size) 0 #[.slice A2 n2 c2] (by rfl) (by rfl) (by have h := there_blk KA6.out; exact h) Tryz.sizeRg (by simp [Value.oneCell']) ?_
            have xK := blk_puts1 (.slice A2 n2 c2) KA6.out
            have xB := bsets HBW.out HL6.out (#[.slice A2 n2 c2] : Array Value).toList 0
            have xA7 := KA7.out.farCells (HN6_7.out.symm) (#[.slice A2 n2 c2] : Array Value).toList 0
            have xHVR := (show RegP (World.setCells (wc5) (wc2.heap.size) 0 (#[.slice A2 n2 c2] : Array Value).toList) _ _ from HVR.out.sets1 KA6.out)
            have xHUR := (show RegP (World.setCells (wc5) (wc2.heap.size) 0 (#[.slice A2 n2 c2] : Array Value).toList) _ _ from HUR.out.sets1 KA6.out)
            obtain ⟨wS8, hwS⟩ : ∃ wS, World.setCells wc5 (wc2.heap.size) 0 (#[.slice A2 n2 c2] : Array Value).toList = wS := ⟨_, rfl⟩
            rw [hwS] at xK xB xA7 xHVR xHUR ⊢
            replace HBW := Lib.hid xB
            replace KA6 := Lib.hid xK
            replace KA7 := Lib.hid xA7
            replace HVR := Lib.hid xHVR
            replace HUR := Lib.hid xHUR
            clear hwS xK xB xA7 xHVR xHUR
            refine hK.out _ _ ?_ (fun hHeld => ?_)
            · (try dsimp only)
              exact ⟨(K7.out.belowS HBW.out).cellV (i := 0) rfl, (K7.out.belowS HBW.out).cellV (i := 1) rfl, (K8.out.belowS HBW.out).cellV (i := 0) rfl, (K8.out.belowS HBW.out).cellV (i := 1) rfl⟩
            clear hK K
            refine wpAnyH_ready (rs := [9]) (by kernel_rfl) (by simp) ?_
            refine AllReadyH.cons rfl (fun K hK => ?_) AllReadyH.nil
            refine Tr.wanted_plain rfl ?_
            refine store_mid0 rfl 60 _ _ rfl (wc2.heap.size + 1) 0 #[.slice A5 n5 c5] (by rfl) (by rfl) (by have h := there_blk KA7.out; exact h) Tryz.sizeRg (by simp [Value.oneCell']) ?_
            have xK := blk_puts1 (.slice A5 n5 c5) KA7.out
            have xB := bsets HBW.out HL7.out (#[.slice A5 n5 c5] : Array Value).toList 0
            have xA6 := KA6.out.farCells (HN6_7.out) (#[.slice A5 n5 c5] : Array Value).toList 0
            have xHVR := (show RegP (World.setCells (wS8) (wc2.heap.size + 1) 0 (#[.slice A5 n5 c5] : Array Value).toList) _ _ from HVR.out.sets1 KA7.out)
            have xHUR := (show RegP (World.setCells (wS8) (wc2.heap.size + 1) 0 (#[.slice A5 n5 c5] : Array Value).toList) _ _ from HUR.out.sets1 KA7.out)
            obtain ⟨wS9, hwS⟩ : ∃ wS, World.setCells wS8 (wc2.heap.size + 1) 0 (#[.slice A5 n5 c5] : Array Value).toList = wS := ⟨_, rfl⟩
            rw [hwS] at xK xB xA6 xHVR xHUR ⊢
            replace HBW := Lib.hid xB
            replace KA7 := Lib.hid xK
            replace KA6 := Lib.hid xA6
            replace HVR := Lib.hid xHVR
            replace HUR := Lib.hid xHUR
            clear hwS xK xB xA6 xHVR xHUR
            refine hK.out _ _ ?_ (fun hHeld => ?_)
            · (try dsimp only)
              exact ⟨(K7.out.belowS HBW.out).cellV (i := 0) rfl, (K7.out.belowS HBW.out).cellV (i := 1) rfl, (K8.out.belowS HBW.out).cellV (i := 0) rfl, (K8.out.belowS HBW.out).cellV (i := 1) rfl⟩
            clear hK K
            refine wpAnyH_done (by kernel_rfl) ?_ _
            refine NoPanic.normal ?_
            go_wp2_with fail
            go_meet
            exact ⟨_, _, A2, n2, c2, A5, n5, c5, rfl, rfl, KA6.out, KA7.out, HVR.out, HUR.out, HBW.out⟩
        ·
          go_simp
          have KA7 := Lib.hid (show Blk (wc2.alloc (.cells #[.slice none 0 0] 60)) (wc2.heap.size) 60 #[.slice none 0 0] from Blk.new wc2 60 #[.slice none 0 0])
          have HL7 := Lib.hid (show X3.heap.size ≤ wc2.heap.size from HBW.out.size)
          have hbA : Below wc2.heap.size wc2 ((wc2.alloc (.cells #[.slice none 0 0] 60))) := bal (bre wc2) (.cells #[.slice none 0 0] 60)
          replace HBW := Lib.hid (bstep HBW.out hbA)
          replace HVR := Lib.hid (HVR.out.below hbA)
          clear hbA
          refine hK.out _ _ ?_ (fun hHeld => ?_)
          · (try dsimp only)
            exact ⟨(K7.out.belowS HBW.out).cellV (i := 0) rfl, (K7.out.belowS HBW.out).cellV (i := 1) rfl, (K8.out.belowS HBW.out).cellV (i := 0) rfl, (K8.out.belowS HBW.out).cellV (i := 1) rfl⟩
          clear hK K
          refine wpAnyH_ready (rs := [5, 6]) (by kernel_rfl) (by simp) ?_
          refine AllReadyH.cons rfl (fun K hK => ?_) (AllReadyH.cons rfl (fun K hK => ?_) AllReadyH.nil)
          ·
            go_simp
            refine ((HC.out.below HBW.out).call _ (bre _) i HI.out).mono ?_
            rintro e wc5 ⟨u, rfl, hr, hbA⟩
            obtain ⟨A5, n5, c5, rfl⟩ := hr.form
            have HUR := Lib.hid hr
            clear hr
            replace HBW := Lib.hid (bstep HBW.out hbA)
            replace KA7 := Lib.hid (KA7.out.belowS hbA)
            replace HVR := Lib.hid (HVR.out.below hbA)
            clear hbA
            go_simp
            refine hK.out _ _ ?_ (fun hHeld => ?_)
            · (try dsimp only)
              exact ⟨(K7.out.belowS HBW.out).cellV (i := 0) rfl, (K7.out.belowS HBW.out).cellV (i := 1) rfl, (K8.out.belowS HBW.out).cellV (i := 0) rfl, (K8.out.belowS HBW.out).cellV (i := 1) rfl⟩
            clear hK K
            refine wpAnyH_ready (rs := [6]) (by kernel_rfl) (by simp) ?_
            refine AllReadyH.cons rfl (fun K hK => ?_) AllReadyH.nil
            go_simp
            have HN7_6 := Lib.hid (Nat.ne_of_lt KA7.out.lt)
            have KA6 := Lib.hid (show Blk (wc5.alloc (.cells #[.slice none 0 0] 60)) (wc5.heap.size) 60 #[.slice none 0 0] from Blk.new wc5 60 #[.slice none 0 0])
            have HL6 := Lib.hid (show X3.heap.size ≤ wc5.heap.size from HBW.out.size)
            have hbA : Below wc5.heap.size wc5 ((wc5.alloc (.cells #[.slice none 0 0] 60))) := bal (bre wc5) (.cells #[.slice none 0 0] 60)
            replace HBW := Lib.hid (bstep HBW.out hbA)
            replace KA7 := Lib.hid (KA7.out.belowS hbA)
            replace HVR := Lib.hid (HVR.out.below hbA)
            replace HUR := Lib.hid (HUR.out.below hbA)
            clear hbA
            refine hK.out _ _ ?_ (fun hHeld => ?_)
            · (try dsimp only)
              exact ⟨(K7.out.belowS HBW.out).cellV (i := 0) rfl, (K7.out.belowS HBW.out).cellV (i := 1) rfl, (K8.out.belowS HBW.out).cellV (i := 0) rfl, (K8.out.belowS HBW.out).cellV (i := 1) rfl⟩
            clear hK K
            refine wpAnyH_ready (rs := [8]) (by kernel_rfl) (by simp) ?_
            refine AllReadyH.cons rfl (fun K hK => ?_) AllReadyH.nil
            refine Tr.wanted_plain rfl ?_
            refine store_mid0 rfl 60 _ _ rfl (wc5.heap.size) 0 #[.slice A2 n2 c2] (by rfl) (by rfl) (by have h := there_blk KA6.out; exact h) Tryz.sizeRg (by simp [Value.oneCell']) ?_
            have xK := blk_puts1 (.slice A2 n2 c2) KA6.out
            have xB := bsets HBW.out HL6.out (#[.slice A2 n2 c2] : Array Value).toList 0
            have xA7 := KA7.out.farCells (HN7_6.out) (#[.slice A2 n2 c2] : Array Value).toList 0
            have xHVR := (show RegP (World.setCells (wc5.alloc (.cells #[.slice none 0 0] 60)) (wc5.heap.size) 0 (#[.slice A2 n2 c2] : Array Value).toList) _ _ from HVR.out.sets1 KA6.out)
            have xHUR := (show RegP (World.setCells (wc5.alloc (.cells #[.slice none 0 0] 60)) (wc5.heap.size) 0 (#[.slice A2 n2 c2] : Array Value).toList) _ _ from HUR.out.sets1 KA6.out)
            obtain ⟨wS8, hwS⟩ : ∃ wS, World.setCells (wc5.alloc (.cells #[.slice none 0 0] 60)) (wc5.heap.size) 0 (#[.slice A2 n2 c2] : Array Value).toList = wS := ⟨_, rfl⟩
            rw [hwS] at xK xB xA7 xHVR xHUR ⊢
            replace HBW := Lib.hid xB
            replace KA6 := Lib.hid xK
            replace KA7 := Lib.hid xA7
            replace HVR := Lib.hid xHVR
            replace HUR := Lib.hid xHUR
            clear hwS xK xB xA7 xHVR xHUR
            refine hK.out _ _ ?_ (fun hHeld => ?_)
            · (try dsimp only)
              exact ⟨(K7.out.belowS HBW.out).cellV (i := 0) rfl, (K7.out.belowS HBW.out).cellV (i := 1) rfl, (K8.out.belowS HBW.out).cellV (i := 0) rfl, (K8.out.belowS HBW.out).cellV (i := 1) rfl⟩
            clear hK K
            refine wpAnyH_ready (rs := [9]) (by kernel_rfl) (by simp) ?_
            refine AllReadyH.cons rfl (fun K hK => ?_) AllReadyH.nil
            refine Tr.wanted_plain rfl ?_
            refine store_mid0 rfl 60 _ _ rfl (wc2.heap.size) 0 #[.slice A5 n5 c5] (by rfl) (by rfl) (by have h := there_blk KA7.out; exact h) Tryz.sizeRg (by simp [Value.oneCell']) ?_
            have xK := blk_puts1 (.slice A5 n5 c5) KA7.out
            have xB := bsets HBW.out HL7.out (#[.slice A5 n5 c5] : Array Value).toList 0
            have xA6 := KA6.out.farCells (HN7_6.out.symm) (#[.slice A5 n5 c5] : Array Value).toList 0
            have xHVR := (show RegP (World.setCells (wS8) (wc2.heap.size) 0 (#[.slice A5 n5 c5] : Array Value).toList) _ _ from HVR.out.sets1 KA7.out)
            have xHUR := (show RegP (World.setCells (wS8) (wc2.heap.size) 0 (#[.slice A5 n5 c5] : Array Value).toList) _ _ from HUR.out.sets1 KA7.out)
            obtain ⟨wS9, hwS⟩ : ∃ wS, World.setCells wS8 (wc2.heap.size) 0 (#[.slice A5 n5 c5] : Array Value).toList = wS := ⟨_, rfl⟩
            rw [hwS] at xK xB xA6 xHVR xHUR ⊢
            replace HBW := Lib.hid xB
            replace KA7 := Lib.hid xK
            replace KA6 := Lib.hid xA6
            replace HVR := Lib.hid xHVR
            replace HUR := Lib.hid xHUR
            clear hwS xK xB xA6 xHVR xHUR
            refine hK.out _ _ ?_ (fun hHeld => ?_)
            · (try dsimp only)
              exact ⟨(K7.out.belowS HBW.out).cellV (i := 0) rfl, (K7.out.belowS HBW.out).cellV (i := 1) rfl, (K8.out.belowS HBW.out).cellV (i := 0) rfl, (K8.out.belowS HBW.out).cellV (i := 1) rfl⟩
            clear hK K
            refine wpAnyH_done (by kernel_rfl) ?_ _
            refine NoPanic.normal ?_
            go_wp2_with fail
            go_meet
            exact ⟨_, _, A2, n2, c2, A5, n5, c5, rfl, rfl, KA6.out, KA7.out, HVR.out, HUR.out, HBW.out⟩
          ·
            go_simp
            have HN7_6 := Lib.hid (show wc2.heap.size ≠ wc2.heap.size + 1 from by have h := KA7.out.lt; rw [show ((wc2.alloc (.cells #[.slice none 0 0] 60))).heap.size = wc2.heap.size + 1 from (show ((wc2.alloc (.cells #[.slice none 0 0] 60))).heap.size = wc2.heap.size + 1 by simp)] at h; exact Nat.ne_of_lt h)
            have KA6 := Lib.hid (show Blk ((wc2.alloc (.cells #[.slice none 0 0] 60)).alloc (.cells #[.slice none 0 0] 60)) (wc2.heap.size + 1) 60 #[.slice none 0 0] from by have h := Blk.new ((wc2.alloc (.cells #[.slice none 0 0] 60))) 60 #[.slice none 0 0]; rw [show ((wc2.alloc (.cells #[.slice none 0 0] 60))).heap.size = wc2.heap.size + 1 from (show ((wc2.alloc (.cells #[.slice none 0 0] 60))).heap.size = wc2.heap.size + 1 by simp)] at h; exact h)
            have HL6 := Lib.hid (show X3.heap.size ≤ wc2.heap.size + 1 from by have h := HBW.out.size; rw [show ((wc2.alloc (.cells #[.slice none 0 0] 60))).heap.size = wc2.heap.size + 1 from (show ((wc2.alloc (.cells #[.slice none 0 0] 60))).heap.size = wc2.heap.size + 1 by simp)] at h; exact h)
            have hbA : Below (wc2.alloc (.cells #[.slice none 0 0] 60)).heap.size (wc2.alloc (.cells #[.slice none 0 0] 60)) (((wc2.alloc (.cells #[.slice none 0 0] 60)).alloc (.cells #[.slice none 0 0] 60))) := bal (bre (wc2.alloc (.cells #[.slice none 0 0] 60))) (.cells #[.slice none 0 0] 60)
            replace HBW := Lib.hid (bstep HBW.out hbA)
            replace KA7 := Lib.hid (KA7.out.belowS hbA)
            replace HVR := Lib.hid (HVR.out.below hbA)
            clear hbA
            refine hK.out _ _ ?_ (fun hHeld => ?_)
            · (try dsimp only)
              exact ⟨(K7.out.belowS HBW.out).cellV (i := 0) rfl, (K7.out.belowS HBW.out).cellV (i := 1) rfl, (K8.out.belowS HBW.out).cellV (i := 0) rfl, (K8.out.belowS HBW.out).cellV (i := 1) rfl⟩
            clear hK K
            refine wpAnyH_ready (rs := [5]) (by kernel_rfl) (by simp) ?_
            refine AllReadyH.cons rfl (fun K hK => ?_) AllReadyH.nil
            go_simp
            refine ((HC.out.below HBW.out).call _ (bre _) i HI.out).mono ?_
            rintro e wc5 ⟨u, rfl, hr, hbA⟩
            obtain ⟨A5, n5, c5, rfl⟩ := hr.form
            have HUR := Lib.hid hr
            clear hr
            replace HBW := Lib.hid (bstep HBW.out hbA)
            replace KA7 := Lib.hid (KA7.out.belowS hbA)
            replace KA6 := Lib.hid (KA6.out.belowS hbA)
            replace HVR := Lib.hid (HVR.out.below hbA)
            clear hbA
            go_simp
            refine hK.out _ _ ?_ (fun hHeld => ?_)
            · (try dsimp only)
              exact ⟨(K7.out.belowS HBW.out).cellV (i := 0) rfl, (K7.out.belowS HBW.out).cellV (i := 1) rfl, (K8.out.belowS HBW.out).cellV (i := 0) rfl, (K8.out.belowS HBW.out).cellV (i := 1) rfl⟩
            clear hK K
            refine wpAnyH_ready (rs := [8]) (by kernel_rfl) (by simp) ?_
            refine AllReadyH.cons rfl (fun K hK => ?_) AllReadyH.nil
            refine Tr.wanted_plain rfl ?_
            refine store_mid0 rfl 60 _ _ rfl (wc2.heap.size + 1) 0 #[.slice A2 n2 c2] (by rfl) (by rfl) (by have h := there_blk KA6.out; exact h) Tryz.sizeRg (by simp [Value.oneCell']) ?_
            have xK := blk_puts1 (.slice A2 n2 c2) KA6.out
            have xB := bsets HBW.out HL6.out (#[.slice A2 n2 c2] : Array Value).toList 0
            have xA7 := KA7.out.farCells (HN7_6.out) (#[.slice A2 n2 c2] : Array Value).toList 0
            have xHVR := (show RegP (World.setCells (wc5) (wc2.heap.size + 1) 0 (#[.slice A2 n2 c2] : Array Value).toList) _ _ from HVR.out.sets1 KA6.out)
            have xHUR := (show RegP (World.setCells (wc5) (wc2.heap.size + 1) 0 (#[.slice A2 n2 c2] : Array Value).toList) _ _ from HUR.out.sets1 KA6.out)
            obtain ⟨wS8, hwS⟩ : ∃ wS, World.setCells wc5 (wc2.heap.size + 1) 0 (#[.slice A2 n2 c2] : Array Value).toList = wS := ⟨_, rfl⟩
            rw [hwS] at xK xB xA7 xHVR xHUR ⊢
            replace HBW := Lib.hid xB
            replace KA6 := Lib.hid xK
            replace KA7 := Lib.hid xA7
            replace HVR := Lib.hid xHVR
            replace HUR := Lib.hid xHUR
            clear hwS xK xB xA7 xHVR xHUR
            refine hK.out _ _ ?_ (fun hHeld => ?_)
            · (try dsimp only)
              exact ⟨(K7.out.belowS HBW.out).cellV (i := 0) rfl, (K7.out.belowS HBW.out).cellV (i := 1) rfl, (K8.out.belowS HBW.out).cellV (i := 0) rfl, (K8.out.belowS HBW.out).cellV (i := 1) rfl⟩
            clear hK K
            refine wpAnyH_ready (rs := [9]) (by kernel_rfl) (by simp) ?_
            refine AllReadyH.cons rfl (fun K hK => ?_) AllReadyH.nil
            refine Tr.wanted_plain rfl ?_
            refine store_mid0 rfl 60 _ _ rfl (wc2.heap.size) 0 #[.slice A5 n5 c5] (by rfl) (by rfl) (by have h := there_blk KA7.out; exact h) Tryz.sizeRg (by simp [Value.oneCell']) ?_
            have xK := blk_puts1 (.slice A5 n5 c5) KA7.out
            have xB := bsets HBW.out HL7.out (#[.slice A5 n5 c5] : Array Value).toList 0
            have xA6 := KA6.out.farCells (HN7_6.out.symm) (#[.slice A5 n5 c5] : Array Value).toList 0
            have xHVR := (show RegP (World.setCells (wS8) (wc2.heap.size) 0 (#[.slice A5 n5 c5] : Array Value).toList) _ _ from HVR.out.sets1 KA7.out)
            have xHUR := (show RegP (World.setCells (wS8) (wc2.heap.size) 0 (#[.slice A5 n5 c5] : Array Value).toList) _ _ from HUR.out.sets1 KA7.out)
            obtain ⟨wS9, hwS⟩ : ∃ wS, World.setCells wS8 (wc2.heap.size) 0 (#[.slice A5 n5 c5] : Array Value).toList = wS := ⟨_, rfl⟩
            rw [hwS] at xK xB xA6 xHVR xHUR ⊢
            replace HBW := Lib.hid xB
            replace KA7 := Lib.hid xK
            replace KA6 := Lib.hid xA6
            replace HVR := Lib.hid xHVR
            replace HUR := Lib.hid xHUR
            clear hwS xK xB xA6 xHVR xHUR
            refine hK.out _ _ ?_ (fun hHeld => ?_)
            · (try dsimp only)
              exact ⟨(K7.out.belowS HBW.out).cellV (i := 0) rfl, (K7.out.belowS HBW.out).cellV (i := 1) rfl, (K8.out.belowS HBW.out).cellV (i := 0) rfl, (K8.out.belowS HBW.out).cellV (i := 1) rfl⟩
            clear hK K
            refine wpAnyH_done (by kernel_rfl) ?_ _
            refine NoPanic.normal ?_
            go_wp2_with fail
            go_meet
            exact ⟨_, _, A2, n2, c2, A5, n5, c5, rfl, rfl, KA6.out, KA7.out, HVR.out, HUR.out, HBW.out⟩
      ·
        go_simp
        have KA6 := Lib.hid (show Blk (X3.alloc (.cells #[.slice none 0 0] 60)).drew (X3.heap.size) 60 #[.slice none 0 0] from Blk.new X3.drew 60 #[.slice none 0 0])
        have HL6 := Lib.hid (show X3.heap.size ≤ X3.heap.size from HBW.out.size)
        have hbA : Below X3.drew.heap.size X3.drew ((X3.alloc (.cells #[.slice none 0 0] 60)).drew) := bal (bre X3.drew) (.cells #[.slice none 0 0] 60)
        replace HBW := Lib.hid (bstep HBW.out hbA)
        clear hbA
        refine hK.out _ _ ?_ (fun hHeld => ?_)
        · (try dsimp only)
          exact ⟨(K7.out.belowS HBW.out).cellV (i := 0) rfl, (K7.out.belowS HBW.out).cellV (i := 1) rfl, (K8.out.belowS HBW.out).cellV (i := 0) rfl, (K8.out.belowS HBW.out).cellV (i := 1) rfl⟩
        clear hK K
        refine wpAnyH_ready (rs := [2, 7]) (by kernel_rfl) (by simp) ?_
        refine AllReadyH.cons rfl (fun K hK => ?_) (AllReadyH.cons rfl (fun K hK => ?_) AllReadyH.nil)
        ·
          go_simp
          refine ((HA.out.below HBW.out).call _ (bre _) i HI.out).mono ?_
          rintro e wc2 ⟨u, rfl, hr, hbA⟩
          obtain ⟨A2, n2, c2, rfl⟩ := hr.form
          have HVR := Lib.hid hr
          clear hr
          replace HBW := Lib.hid (bstep HBW.out hbA)
          replace KA6 := Lib.hid (KA6.out.belowS hbA)
          clear hbA
          go_simp
          refine hK.out _ _ ?_ (fun hHeld => ?_)
          · (try dsimp only)
            exact ⟨(K7.out.belowS HBW.out).cellV (i := 0) rfl, (K7.out.belowS HBW.out).cellV (i := 1) rfl, (K8.out.belowS HBW.out).cellV (i := 0) rfl, (K8.out.belowS HBW.out).cellV (i := 1) rfl⟩
          clear hK K
          refine wpAnyH_ready (rs := [5, 7]) (by kernel_rfl) (by simp) ?_
          refine AllReadyH.cons rfl (fun K hK => ?_) (AllReadyH.cons rfl (fun K hK => ?_) AllReadyH.nil)
          ·
            go_simp
            refine ((HC.out.below HBW.out).call _ (bre _) i HI.out).mono ?_
            rintro e wc5 ⟨u, rfl, hr, hbA⟩
            obtain ⟨A5, n5, c5, rfl⟩ := hr.form
            have HUR := Lib.hid hr
            clear hr
            replace HBW := Lib.hid (bstep HBW.out hbA)
            replace KA6 := Lib.hid (KA6.out.belowS hbA)
            replace HVR := Lib.hid (HVR.out.below hbA)
            clear hbA
            go_simp
            refine hK.out _ _ ?_ (fun hHeld => ?_)
            · (try dsimp only)
              exact ⟨(K7.out.belowS HBW.out).cellV (i := 0) rfl, (K7.out.belowS HBW.out).cellV (i := 1) rfl, (K8.out.belowS HBW.out).cellV (i := 0) rfl, (K8.out.belowS HBW.out).cellV (i := 1) rfl⟩
            clear hK K
            refine wpAnyH_ready (rs := [7]) (by kernel_rfl) (by simp) ?_
            refine AllReadyH.cons rfl (fun K hK => ?_) AllReadyH.nil
            go_simp
            have HN6_7 := Lib.hid (Nat.ne_of_lt KA6.out.lt)
            have KA7 := Lib.hid (show Blk (wc5.alloc (.cells #[.slice none 0 0] 60)) (wc5.heap.size) 60 #[.slice none 0 0] from Blk.new wc5 60 #[.slice none 0 0])
            have HL7 := Lib.hid (show X3.heap.size ≤ wc5.heap.size from HBW.out.size)
            have hbA : Below wc5.heap.size wc5 ((wc5.alloc (.cells #[.slice none 0 0] 60))) := bal (bre wc5) (.cells #[.slice none 0 0] 60)
            replace HBW := Lib.hid (bstep HBW.out hbA)
            replace KA6 := Lib.hid (KA6.out.belowS hbA)
            replace HVR := Lib.hid (HVR.out.below hbA)
            replace HUR := Lib.hid (HUR.out.below hbA)
            clear hbA
            refine hK.out _ _ ?_ (fun hHeld => ?_)
            · (try dsimp only)
              exact ⟨(K7.out.belowS HBW.out).cellV (i := 0) rfl, (K7.out.belowS HBW.out).cellV (i := 1) rfl, (K8.out.belowS HBW.out).cellV (i := 0) rfl, (K8.out.belowS HBW.out).cellV (i := 1) rfl⟩
            clear hK K
            refine wpAnyH_ready (rs := [8]) (by kernel_rfl) (by simp) ?_
            refine AllReadyH.cons rfl (fun K hK => ?_) AllReadyH.nil
            refine Tr.wanted_plain rfl ?_
            refine store_mid0 rfl 60 _ _ rfl (X3.heap.size) 0 #[.slice A2 n2 c2] (by rfl) (by rfl) (by have h := there_blk KA6.out; exact h) Tryz.sizeRg (by simp [Value.oneCell']) ?_
            have xK := blk_puts1 (.slice A2 n2 c2) KA6.out
            have xB := bsets HBW.out HL6.out (#[.slice A2 n2 c2] : Array Value).toList 0
            have xA7 := KA7.out.farCells (HN6_7.out.symm) (#[.slice A2 n2 c2] : Array Value).toList 0
            have xHVR := (show RegP (World.setCells (wc5.alloc (.cells #[.slice none 0 0] 60)) (X3.heap.size) 0 (#[.slice A2 n2 c2] : Array Value).toList) _ _ from HVR.out.sets1 KA6.out)
            have xHUR := (show RegP (World.setCells (wc5.alloc (.cells #[.slice none 0 0] 60)) (X3.heap.size) 0 (#[.slice A2 n2 c2] : Array Value).toList) _ _ from HUR.out.sets1 KA6.out)
            obtain ⟨wS8, hwS⟩ : ∃ wS, World.setCells (wc5.alloc (.cells #[.slice none 0 0] 60)) (X3.heap.size) 0 (#[.slice A2 n2 c2] : Array Value).toList = wS := ⟨_, rfl⟩
            rw [hwS] at xK xB xA7 xHVR xHUR ⊢
            replace HBW := Lib.hid xB
            replace KA6 := Lib.hid xK
            replace KA7 := Lib.hid xA7
            replace HVR := Lib.hid xHVR
            replace HUR := Lib.hid xHUR
            clear hwS xK xB xA7 xHVR xHUR
            refine hK.out _ _ ?_ (fun hHeld => ?_)
            · (try dsimp only)
              exact ⟨(K7.out.belowS HBW.out).cellV (i := 0) rfl, (K7.out.belowS HBW.out).cellV (i := 1) rfl, (K8.out.belowS HBW.out).cellV (i := 0) rfl, (K8.out.belowS HBW.out).cellV (i := 1) rfl⟩
            clear hK K
            refine wpAnyH_ready (rs := [9]) (by kernel_rfl) (by simp) ?_
            refine AllReadyH.cons rfl (fun K hK => ?_) AllReadyH.nil
            refine Tr.wanted_plain rfl ?_
            refine store_mid0 rfl 60 _ _ rfl (wc5.heap.size) 0 #[.slice A5 n5 c5] (by rfl) (by rfl) (by have h := there_blk KA7.out; exact h) Tryz.sizeRg (by simp [Value.oneCell']) ?_
            have xK := blk_puts1 (.slice A5 n5 c5) KA7.out
            have xB := bsets HBW.out HL7.out (#[.slice A5 n5 c5] : Array Value).toList 0
            have xA6 := KA6.out.farCells (HN6_7.out) (#[.slice A5 n5 c5] : Array Value).toList 0
            have xHVR := (show RegP (World.setCells (wS8) (wc5.heap.size) 0 (#[.slice A5 n5 c5] : Array Value).toList) _ _ from HVR.out.sets1 KA7.out)
            have xHUR := (show RegP (World.setCells (wS8) (wc5.heap.size) 0 (#[.slice A5 n5 c5] : Array Value).toList) _ _ from HUR.out.sets1 KA7.out)
            obtain ⟨wS9, hwS⟩ : ∃ wS, World.setCells wS8 (wc5.heap.size) 0 (#[.slice A5 n5 c5] : Array Value).toList = wS := ⟨_, rfl⟩
            rw [hwS] at xK xB xA6 xHVR xHUR ⊢
            replace HBW := Lib.hid xB
            replace KA7 := Lib.hid xK
            replace KA6 := Lib.hid xA6
            replace HVR := Lib.hid xHVR
            replace HUR := Lib.hid xHUR
            clear hwS xK xB xA6 xHVR xHUR
            refine hK.out _ _ ?_ (fun hHeld => ?_)
            · (try dsimp only)
              exact ⟨(K7.out.belowS HBW.out).cellV (i := 0) rfl, (K7.out.belowS HBW.out).cellV (i := 1) rfl, (K8.out.belowS HBW.out).cellV (i := 0) rfl, (K8.out.belowS HBW.out).cellV (i := 1) rfl⟩
            clear hK K
            refine wpAnyH_done (by kernel_rfl) ?_ _
            refine NoPanic.normal ?_
            go_wp2_with fail
            go_meet
            exact ⟨_, _, A2, n2, c2, A5, n5, c5, rfl, rfl, KA6.out, KA7.out, HVR.out, HUR.out, HBW.out⟩
          ·
            go_simp
            have HN6_7 := Lib.hid (Nat.ne_of_lt KA6.out.lt)
            have KA7 := Lib.hid (show Blk (wc2.alloc (.cells #[.slice none 0 0] 60)) (wc2.heap.size) 60 #[.slice none 0 0] from Blk.new wc2 60 #[.slice none 0 0])
            have HL7 := Lib.hid (show X3.heap.size ≤ wc2.heap.size from HBW.out.size)
            have hbA : Below wc2.heap.size wc2 ((wc2.alloc (.cells #[.slice none 0 0] 60))) := bal (bre wc2) (.cells #[.slice none 0 0] 60)
            replace HBW := Lib.hid (bstep HBW.out hbA)
            replace KA6 := Lib.hid (KA6.out.belowS hbA)
            replace HVR := Lib.hid (HVR.out.below hbA)
            clear hbA
            refine hK.out _ _ ?_ (fun hHeld => ?_)
            · (try dsimp only)
              exact ⟨(K7.out.belowS HBW.out).cellV (i := 0) rfl, (K7.out.belowS HBW.out).cellV (i := 1) rfl, (K8.out.belowS HBW.out).cellV (i := 0) rfl, (K8.out.belowS HBW.out).cellV (i := 1) rfl⟩
            clear hK K
            refine wpAnyH_ready (rs := [5]) (by kernel_rfl) (by simp) ?_
            refine AllReadyH.cons rfl (fun K hK => ?_) AllReadyH.nil
            go_simp
            refine ((HC.out.below HBW.out).call _ (bre _) i HI.out).mono ?_
            rintro e wc5 ⟨u, rfl, hr, hbA⟩
            obtain ⟨A5, n5, c5, rfl⟩ := hr.form
            have HUR := Lib.hid hr
            clear hr
            replace HBW := Lib.hid (bstep HBW.out hbA)
            replace KA6 := Lib.hid (KA6.out.belowS hbA)
            replace KA7 := Lib.hid (KA7.out.belowS hbA)
            replace HVR := Lib.hid (HVR.out.below hbA)
            clear hbA
            go_simp
            refine hK.out _ _ ?_ (fun hHeld => ?_)
            · (try dsimp only)
              exact ⟨(K7.out.belowS HBW.out).cellV (i := 0) rfl, (K7.out.belowS HBW.out).cellV (i := 1) rfl, (K8.out.belowS HBW.out).cellV (i := 0) rfl, (K8.out.belowS HBW.out).cellV (i := 1) rfl⟩
            clear hK K
            refine wpAnyH_ready (rs := [8]) (by kernel_rfl) (by simp) ?_
            refine AllReadyH.cons rfl (fun K hK => ?_) AllReadyH.nil
            refine Tr.wanted_plain rfl ?_
            refine store_mid0 rfl 60 _ _ rfl (X3.heap.size) 0 #[.slice A2 n2 c2] (by rfl) (by rfl) (by have h := there_blk KA6.out; exact h) Tryz.sizeRg (by simp [Value.oneCell']) ?_
            have xK := blk_puts1 (.slice A2 n2 c2) KA6.out
            have xB := bsets HBW.out HL6.out (#[.slice A2 n2 c2] : Array Value).toList 0
            have xA7 := KA7.out.farCells (HN6_7.out.symm) (#[.slice A2 n2 c2] : Array Value).toList 0
            have xHVR := (show RegP (World.setCells (wc5) (X3.heap.size) 0 (#[.slice A2 n2 c2] : Array Value).toList) _ _ from HVR.out.sets1 KA6.out)
            have xHUR := (show RegP (World.setCells (wc5) (X3.heap.size) 0 (#[.slice A2 n2 c2] : Array Value).toList) _ _ from HUR.out.sets1 KA6.out)
            obtain ⟨wS8, hwS⟩ : ∃ wS, World.setCells wc5 (X3.heap.size) 0 (#[.slice A2 n2 c2] : Array Value).toList = wS := ⟨_, rfl⟩
            rw [hwS] at xK xB xA7 xHVR xHUR ⊢
            replace HBW := Lib.hid xB
            replace KA6 := Lib.hid xK
            replace KA7 := Lib.hid xA7
            replace HVR := Lib.hid xHVR
            replace HUR := Lib.hid xHUR
            clear hwS xK xB xA7 xHVR xHUR
            refine hK.out _ _ ?_ (fun hHeld => ?_)
            · (try dsimp only)
              exact ⟨(K7.out.belowS HBW.out).cellV (i := 0) rfl, (K7.out.belowS HBW.out).cellV (i := 1) rfl, (K8.out.belowS HBW.out).cellV (i := 0) rfl, (K8.out.belowS HBW.out).cellV (i := 1) rfl⟩
            clear hK K
            refine wpAnyH_ready (rs := [9]) (by kernel_rfl) (by simp) ?_
            refine AllReadyH.cons rfl (fun K hK => ?_) AllReadyH.nil
            refine Tr.wanted_plain rfl ?_
            refine store_mid0 rfl 60 _ _ rfl (wc2.heap.size) 0 #[.slice A5 n5 c5] (by rfl) (by rfl) (by have h := there_blk KA7.out; exact h) Tryz.sizeRg (by simp [Value.oneCell']) ?_
            have xK := blk_puts1 (.slice A5 n5 c5) KA7.out
            have xB := bsets HBW.out HL7.out (#[.slice A5 n5 c5] : Array Value).toList 0
            have xA6 := KA6.out.farCells (HN6_7.out) (#[.slice A5 n5 c5] : Array Value).toList 0
            have xHVR := (show RegP (World.setCells (wS8) (wc2.heap.size) 0 (#[.slice A5 n5 c5] : Array Value).toList) _ _ from HVR.out.sets1 KA7.out)
            have xHUR := (show RegP (World.setCells (wS8) (wc2.heap.size) 0 (#[.slice A5 n5 c5] : Array Value).toList) _ _ from HUR.out.sets1 KA7.out)
            obtain ⟨wS9, hwS⟩ : ∃ wS, World.setCells wS8 (wc2.heap.size) 0 (#[.slice A5 n5 c5] : Array Value).toList = wS := ⟨_, rfl⟩
            rw [hwS] at xK xB xA6 xHVR xHUR ⊢
            replace HBW := Lib.hid xB
            replace KA7 := Lib.hid xK
            replace KA6 := Lib.hid xA6
            replace HVR := Lib.hid xHVR
            replace HUR := Lib.hid xHUR
            clear hwS xK xB xA6 xHVR xHUR
            refine hK.out _ _ ?_ (fun hHeld => ?_)
            · (try dsimp only)
              exact ⟨(K7.out.belowS HBW.out).cellV (i := 0) rfl, (K7.out.belowS HBW.out).cellV (i := 1) rfl, (K8.out.belowS HBW.out).cellV (i := 0) rfl, (K8.out.belowS HBW.out).cellV (i := 1) rfl⟩
            clear hK K
            refine wpAnyH_done (by kernel_rfl) ?_ _
            refine NoPanic.normal ?_
            go_wp2_with fail
            go_meet
            exact ⟨_, _, A2, n2, c2, A5, n5, c5, rfl, rfl, KA6.out, KA7.out, HVR.out, HUR.out, HBW.out⟩
        ·
          go_simp
          have HN6_7 := Lib.hid (show X3.heap.size ≠ X3.heap.size + 1 from by have h := KA6.out.lt; rw [show ((X3.alloc (.cells #[.slice none 0 0] 60)).drew).heap.size = X3.heap.size + 1 from (show ((X3.alloc (.cells #[.slice none 0 0] 60))).heap.size = X3.heap.size + 1 by simp)] at h; exact Nat.ne_of_lt h)
          have KA7 := Lib.hid (show Blk ((X3.alloc (.cells #[.slice none 0 0] 60)).alloc (.cells #[.slice none 0 0] 60)).drew (X3.heap.size + 1) 60 #[.slice none 0 0] from by have h := Blk.new ((X3.alloc (.cells #[.slice none 0 0] 60)).drew) 60 #[.slice none 0 0]; rw [show ((X3.alloc (.cells #[.slice none 0 0] 60)).drew).heap.size = X3.heap.size + 1 from (show ((X3.alloc (.cells #[.slice none 0 0] 60))).heap.size = X3.heap.size + 1 by simp)] at h; exact h)
          have HL7 := Lib.hid (show X3.heap.size ≤ X3.heap.size + 1 from by have h := HBW.out.size; rw [show ((X3.alloc (.cells #[.slice none 0 0] 60)).drew).heap.size = X3.heap.size + 1 from (show ((X3.alloc (.cells #[.slice none 0 0] 60))).heap.size = X3.heap.size + 1 by simp)] at h; exact h)
          have hbA : Below (X3.alloc (.cells #[.slice none 0 0] 60)).drew.heap.size (X3.alloc (.cells #[.slice none 0 0] 60)).drew (((X3.alloc (.cells #[.slice none 0 0] 60)).alloc (.cells #[.slice none 0 0] 60)).drew) := bal (bre (X3.alloc (.cells #[.slice none 0 0] 60)).drew) (.cells #[.slice none 0 0] 60)
          replace HBW := Lib.hid (bstep HBW.out hbA)
          replace KA6 := Lib.hid (KA6.out.belowS hbA)
          clear hbA
          refine hK.out _ _ ?_ (fun hHeld => ?_)
          · (try dsimp only)
            exact ⟨(K7.out.belowS HBW.out).cellV (i := 0) rfl, (K7.out.belowS HBW.out).cellV (i := 1) rfl, (K8.out.belowS HBW.out).cellV (i := 0) rfl, (K8.out.belowS HBW.out).cellV (i := 1) rfl⟩
          clear hK K
          refine wpAnyH_ready (rs := [2]) (by kernel_rfl) (by simp) ?_
          refine AllReadyH.cons rfl (fun K hK => ?_) AllReadyH.nil
          go_simp
          refine ((HA.out.below HBW.out).call _ (bre _) i HI.out).mono ?_
          rintro e wc2 ⟨u, rfl, hr, hbA⟩
          obtain ⟨A2, n2, c2, rfl⟩ := hr.form
          have HVR := Lib.hid hr
          clear hr
          replace HBW := Lib.hid (bstep HBW.out hbA)
          replace KA6 := Lib.hid (KA6.out.belowS hbA)
          replace KA7 := Lib.hid (KA7.out.belowS hbA)
          clear hbA
          go_simp
          refine hK.out _ _ ?_ (fun hHeld => ?_)
          · (try dsimp only)
            exact ⟨(K7.out.belowS HBW.out).cellV (i := 0) rfl, (K7.out.belowS HBW.out).cellV (i := 1) rfl, (K8.out.belowS HBW.out).cellV (i := 0) rfl, (K8.out.belowS HBW.out).cellV (i := 1) rfl⟩
          clear hK K
          refine wpAnyH_ready (rs := [5]) (by kernel_rfl) (by simp) ?_
          refine AllReadyH.cons rfl (fun K hK => ?_) AllReadyH.nil
          go_simp
          refine ((HC.out.below HBW.out).call _ (bre _) i HI.out).mono ?_
          rintro e wc5 ⟨u, rfl, hr, hbA⟩
          obtain ⟨A5, n5, c5, rfl⟩ := hr.form
          have HUR := Lib.hid hr
          clear hr
          replace HBW := Lib.hid (bstep HBW.out hbA)
          replace KA6 := Lib.hid (KA6.out.belowS hbA)
          replace KA7 := Lib.hid (KA7.out.belowS hbA)
          replace HVR := Lib.hid (HVR.out.below hbA)
          clear hbA
          go_simp
          refine hK.out _ _ ?_ (fun hHeld => ?_)
          · (try dsimp only)
            exact ⟨(K7.out.belowS HBW.out).cellV (i := 0) rfl, (K7.out.belowS HBW.out).cellV (i := 1) rfl, (K8.out.belowS HBW.out).cellV (i := 0) rfl, (K8.out.belowS HBW.out).cellV (i := 1) rfl⟩
          clear hK K
          refine wpAnyH_ready (rs := [8]) (by kernel_rfl) (by simp) ?_
          refine AllReadyH.cons rfl (fun K hK => ?_) AllReadyH.nil
          refine Tr.wanted_plain rfl ?_
          refine store_mid0 rfl 60 _ _ rfl (X3.heap.size) 0 #[.slice A2 n2 c2] (by rfl) (by rfl) (by have h := there_blk KA6.out; exact h) Tryz.sizeRg (by simp [Value.oneCell']) ?_
          have xK := blk_puts1 (.slice A2 n2 c2) KA6.out
          have xB := bsets HBW.out HL6.out (#[.slice A2 n2 c2] : Array Value).toList 0
          have xA7 := KA7.out.farCells (HN6_7.out.symm) (#[.slice A2 n2 c2] : Array Value).toList 0
          have xHVR := (show RegP (World.setCells (wc5) (X3.heap.size) 0 (#[.slice A2 n2 c2] : Array Value).toList) _ _ from HVR.out.sets1 KA6.out)
          have xHUR := (show RegP (World.setCells (wc5) (X3.heap.size) 0 (#[.slice A2 n2 c2] : Array Value).toList) _ _ from HUR.out.sets1 KA6.out)
          obtain ⟨wS8, hwS⟩ : ∃ wS, World.setCells wc5 (X3.heap.size) 0 (#[.slice A2 n2 c2] : Array Value).toList = wS := ⟨_, rfl⟩
          rw [hwS] at xK xB xA7 xHVR xHUR ⊢
          replace HBW := Lib.hid xB
          replace KA6 := Lib.hid xK
          replace KA7 := Lib.hid xA7
          replace HVR := Lib.hid xHVR
          replace HUR := Lib.hid xHUR
          clear hwS xK xB xA7 xHVR xHUR
          refine hK.out _ _ ?_ (fun hHeld => ?_)
          · (try dsimp only)
            exact ⟨(K7.out.belowS HBW.out).cellV (i := 0) rfl, (K7.out.belowS HBW.out).cellV (i := 1) rfl, (K8.out.belowS HBW.out).cellV (i := 0) rfl, (K8.out.belowS HBW.out).cellV (i := 1) rfl⟩
          clear hK K
          refine wpAnyH_ready (rs := [9]) (by kernel_rfl) (by simp) ?_
          refine AllReadyH.cons rfl (fun K hK => ?_) AllReadyH.nil
          refine Tr.wanted_plain rfl ?_
          refine store_mid0 rfl 60 _ _ rfl (X3.heap.size + 1) 0 #[.slice A5 n5 c5] (by rfl) (by rfl) (by have h := there_blk KA7.out; exact h) Tryz.sizeRg (by simp [Value.oneCell']) ?_
          have xK := blk_puts1 (.slice A5 n5 c5) KA7.out
          have xB := bsets HBW.out HL7.out (#[.slice A5 n5 c5] : Array Value).toList 0
          have xA6 := KA6.out.farCells (HN6_7.out) (#[.slice A5 n5 c5] : Array Value).toList 0
          have xHVR := (show RegP (World.setCells (wS8) (X3.heap.size + 1) 0 (#[.slice A5 n5 c5] : Array Value).toList) _ _ from HVR.out.sets1 KA7.out)
          have xHUR := (show RegP (World.setCells (wS8) (X3.heap.size + 1) 0 (#[.slice A5 n5 c5] : Array Value).toList) _ _ from HUR.out.sets1 KA7.out)
          obtain ⟨wS9, hwS⟩ : ∃ wS, World.setCells wS8 (X3.heap.size + 1) 0 (#[.slice A5 n5 c5] : Array Value).toList = wS := ⟨_, rfl⟩
          rw [hwS] at xK xB xA6 xHVR xHUR ⊢
          replace HBW := Lib.hid xB
          replace KA7 := Lib.hid xK
          replace KA6 := Lib.hid xA6
          replace HVR := Lib.hid xHVR
          replace HUR := Lib.hid xHUR
          clear hwS xK xB xA6 xHVR xHUR
          refine hK.out _ _ ?_ (fun hHeld => ?_)
          · (try dsimp only)
            exact ⟨(K7.out.belowS HBW.out).cellV (i := 0) rfl, (K7.out.belowS HBW.out).cellV (i := 1) rfl, (K8.out.belowS HBW.out).cellV (i := 0) rfl, (K8.out.belowS HBW.out).cellV (i := 1) rfl⟩
          clear hK K
          refine wpAnyH_done (by kernel_rfl) ?_ _
          refine NoPanic.normal ?_
          go_wp2_with fail
          go_meet
          exact ⟨_, _, A2, n2, c2, A5, n5, c5, rfl, rfl, KA6.out, KA7.out, HVR.out, HUR.out, HBW.out⟩
      ·
        go_simp
        have KA7 := Lib.hid (show Blk (X3.alloc (.cells #[.slice none 0 0] 60)).drew (X3.heap.size) 60 #[.slice none 0 0] from Blk.new X3.drew 60 #[.slice none 0 0])
        have HL7 := Lib.hid (show X3.heap.size ≤ X3.heap.size from HBW.out.size)
        have hbA : Below X3.drew.heap.size X3.drew ((X3.alloc (.cells #[.slice none 0 0] 60)).drew) := bal (bre X3.drew) (.cells #[.slice none 0 0] 60)
        replace HBW := Lib.hid (bstep HBW.out hbA)
        clear hbA
        refine hK.out _ _ ?_ (fun hHeld => ?_)
        · (try dsimp only)
          exact ⟨(K7.out.belowS HBW.out).cellV (i := 0) rfl, (K7.out.belowS HBW.out).cellV (i := 1) rfl, (K8.out.belowS HBW.out).cellV (i := 0) rfl, (K8.out.belowS HBW.out).cellV (i := 1) rfl⟩
        clear hK K
        refine wpAnyH_ready (rs := [2, 6]) (by kernel_rfl) (by simp) ?_
        refine AllReadyH.cons rfl (fun K hK => ?_) (AllReadyH.cons rfl (fun K hK => ?_) AllReadyH.nil)
        ·
          go_simp
          refine ((HA.out.below HBW.out).call _ (bre _) i HI.out).mono ?_
          rintro e wc2 ⟨u, rfl, hr, hbA⟩
          obtain ⟨A2, n2, c2, rfl⟩ := hr.form
          have HVR := Lib.hid hr
          clear hr
          replace HBW := Lib.hid (bstep HBW.out hbA)
          replace KA7 := Lib.hid (KA7.out.belowS hbA)
          clear hbA
          go_simp
          refine hK.out _ _ ?_ (fun hHeld => ?_)
          · (try dsimp only)
            exact ⟨(K7.out.belowS HBW.out).cellV (i := 0) rfl, (K7.out.belowS HBW.out).cellV (i := 1) rfl, (K8.out.belowS HBW.out).cellV (i := 0) rfl, (K8.out.belowS HBW.out).cellV (i := 1) rfl⟩
          clear hK K
          refine wpAnyH_ready (rs := [5, 6]) (by kernel_rfl) (by simp) ?_
          refine AllReadyH.cons rfl (fun K hK => ?_) (AllReadyH.cons rfl (fun K hK => ?_) AllReadyH.nil)
          ·
            go_simp
            refine ((HC.out.below HBW.out).call _ (bre _) i HI.out).mono ?_
            rintro e wc5 ⟨u, rfl, hr, hbA⟩
            obtain ⟨A5, n5, c5, rfl⟩ := hr.form
            have HUR := Lib.hid hr
            clear hr
            replace HBW := Lib.hid (bstep HBW.out hbA)
            replace KA7 := Lib.hid (KA7.out.belowS hbA)
            replace HVR := Lib.hid (HVR.out.below hbA)
            clear hbA
            go_simp
            refine hK.out _ _ ?_ (fun hHeld => ?_)
            · (try dsimp only)
              exact ⟨(K7.out.belowS HBW.out).cellV (i := 0) rfl, (K7.out.belowS HBW.out).cellV (i := 1) rfl, (K8.out.belowS HBW.out).cellV (i := 0) rfl, (K8.out.belowS HBW.out).cellV (i := 1) rfl⟩
            clear hK K
            refine wpAnyH_ready (rs := [6]) (by kernel_rfl) (by simp) ?_
            refine AllReadyH.cons rfl (fun K hK => ?_) AllReadyH.nil
            go_simp
            have HN7_6 := Lib.hid (Nat.ne_of_lt KA7.out.lt)
            have KA6 := Lib.hid (show Blk (wc5.alloc (.cells #[.slice none 0 0] 60)) (wc5.heap.size) 60 #[.slice none 0 0] from Blk.new wc5 60 #[.slice none 0 0])
            have HL6 := Lib.hid (show X3.heap.size ≤ wc5.heap.size from HBW.out.size)
            have hbA : Below wc5.heap.size wc5 ((wc5.alloc (.cells #[.slice none 0 0] 60))) := bal (bre wc5) (.cells #[.slice none 0 0] 60)
            replace HBW := Lib.hid (bstep HBW.out hbA)
            replace KA7 := Lib.hid (KA7.out.belowS hbA)
            replace HVR := Lib.hid (HVR.out.below hbA)
            replace HUR := Lib.hid (HUR.out.below hbA)
            clear hbA
            refine hK.out _ _ ?_ (fun hHeld => ?_)
            · (try dsimp only)
              exact ⟨(K7.out.belowS HBW.out).cellV (i := 0) rfl, (K7.out.belowS HBW.out).cellV (i := 1) rfl, (K8.out.belowS HBW.out).cellV (i := 0) rfl, (K8.out.belowS HBW.out).cellV (i := 1) rfl⟩
            clear hK K
            refine wpAnyH_ready (rs := [8]) (by kernel_rfl) (by simp) ?_
            refine AllReadyH.cons rfl (fun K hK => ?_) AllReadyH.nil
            refine Tr.wanted_plain rfl ?_
            refine store_mid0 rfl 60 _ _ rfl (wc5.heap.size) 0 #[.slice A2 n2 c2] (by rfl) (by rfl) (by have h := there_blk KA6.out; exact h) Tryz.sizeRg (by simp [Value.oneCell']) ?_
            have xK := blk_puts1 (.slice A2 n2 c2) KA6.out
            have xB := bsets HBW.out HL6.out (#[.slice A2 n2 c2] : Array Value).toList 0
            have xA7 := KA7.out.farCells (HN7_6.out) (#[.slice A2 n2 c2] : Array Value).toList 0
            have xHVR := (show RegP (World.setCells (wc5.alloc (.cells #[.slice none 0 0] 60)) (wc5.heap.size) 0 (#[.slice A2 n2 c2] : Array Value).toList) _ _ from HVR.out.sets1 KA6.out)
            have xHUR := (show RegP (World.setCells (wc5.alloc (.cells #[.slice none 0 0] 60)) (wc5.heap.size) 0 (#[.slice A2 n2 c2] : Array Value).toList) _ _ from HUR.out.sets1 KA6.out)
            obtain ⟨wS8, hwS⟩ : ∃ wS, World.setCells (wc5.alloc (.cells #[.slice none 0 0] 60)) (wc5.heap.size) 0 (#[.slice A2 n2 c2] : Array Value).toList = wS := ⟨_, rfl⟩
            rw [hwS] at xK xB xA7 xHVR xHUR ⊢
            replace HBW := Lib.hid xB
            replace KA6 := Lib.hid xK
            replace KA7 := Lib.hid xA7
            replace HVR := Lib.hid xHVR
            replace HUR := Lib.hid xHUR
            clear hwS xK xB xA7 xHVR xHUR
            refine hK.out _ _ ?_ (fun hHeld => ?_)
            · (try dsimp only)
              exact ⟨(K7.out.belowS HBW.out).cellV (i := 0) rfl, (K7.out.belowS HBW.out).cellV (i := 1) rfl, (K8.out.belowS HBW.out).cellV (i := 0) rfl, (K8.out.belowS HBW.out).cellV (i := 1) rfl⟩
            clear hK K
            refine wpAnyH_ready (rs := [9]) (by kernel_rfl) (by simp) ?_
            refine AllReadyH.cons rfl (fun K hK => ?_) AllReadyH.nil
            refine Tr.wanted_plain rfl ?_
            refine store_mid0 rfl 60 _ _ rfl (X3.heap.size) 0 #[.slice A5 n5 c5] (by rfl) (by rfl) (by have h := there_blk KA7.out; exact h) Tryz.sizeRg (by simp [Value.oneCell']) ?_
            have xK := blk_puts1 (.slice A5 n5 c5) KA7.out
            have xB := bsets HBW.out HL7.out (#[.slice A5 n5 c5] : Array Value).toList 0
            have xA6 := KA6.out.farCells (HN7_6.out.symm) (#[.slice A5 n5 c5] : Array Value).toList 0
            have xHVR := (show RegP (World.setCells (wS8) (X3.heap.size) 0 (#[.slice A5 n5 c5] : Array Value).toList) _ _ from HVR.out.sets1 KA7.out)
            have xHUR := (show RegP (World.setCells (wS8) (X3.heap.size) 0 (#[.slice A5 n5 c5] : Array Value).toList) _ _ from HUR.out.sets1 KA7.out)
            obtain ⟨wS9, hwS⟩ : ∃ wS, World.setCells wS8 (X3.heap.size) 0 (#[.slice A5 n5 c5] : Array Value).toList = wS := ⟨_, rfl⟩
            rw [hwS] at xK xB xA6 xHVR xHUR ⊢
            replace HBW := Lib.hid xB
            replace KA7 := Lib.hid xK
            replace KA6 := Lib.hid xA6
            replace HVR := Lib.hid xHVR
            replace HUR := Lib.hid xHUR
            clear hwS xK xB xA6 xHVR xHUR
            refine hK.out _ _ ?_ (fun hHeld => ?_)
            · (try dsimp only)
              exact ⟨(K7.out.belowS HBW.out).cellV (i := 0) rfl, (K7.out.belowS HBW.out).cellV (i := 1) rfl, (K8.out.belowS HBW.out).cellV (i := 0) rfl, (K8.out.belowS HBW.out).cellV (i := 1) rfl⟩
            clear hK K
            refine wpAnyH_done (by kernel_rfl) ?_ _
            refine NoPanic.normal ?_
            go_wp2_with fail
            go_meet
            exact ⟨_, _, A2, n2, c2, A5, n5, c5, rfl, rfl, KA6.out, KA7.out, HVR.out, HUR.out, HBW.out⟩
          ·
            go_simp
            have HN7_6 := Lib.hid (Nat.ne_of_lt KA7.out.lt)
            have KA6 := Lib.hid (show Blk (wc2.alloc (.cells #[.slice none 0 0] 60)) (wc2.heap.size) 60 #[.slice none 0 0] from Blk.new wc2 60 #[.slice none 0 0])
            have HL6 := Lib.hid (show X3.heap.size ≤ wc2.heap.size from HBW.out.size)
            have hbA : Below wc2.heap.size wc2 ((wc2.alloc (.cells #[.slice none 0 0] 60))) := bal (bre wc2) (.cells #[.slice none 0 0] 60)
            replace HBW := Lib.hid (bstep HBW.out hbA)
            replace KA7 := Lib.hid (KA7.out.belowS hbA)
            replace HVR := Lib.hid (HVR.out.below hbA)
            clear hbA
            refine hK.out _ _ ?_ (fun hHeld => ?_)
            · (try dsimp only)
              exact ⟨(K7.out.belowS HBW.out).cellV (i := 0) rfl, (K7.out.belowS HBW.out).cellV (i := 1) rfl, (K8.out.belowS HBW.out).cellV (i := 0) rfl, (K8.out.belowS HBW.out).cellV (i := 1) rfl⟩
            clear hK K
            refine wpAnyH_ready (rs := [5]) (by kernel_rfl) (by simp) ?_
            refine AllReadyH.cons rfl (fun K hK => ?_) AllReadyH.nil
            go_simp
            refine ((HC.out.below HBW.out).call _ (bre _) i HI.out).mono ?_
            rintro e wc5 ⟨u, rfl, hr, hbA⟩
            obtain ⟨A5, n5, c5, rfl⟩ := hr.form
            have HUR := Lib.hid hr
            clear hr
            replace HBW := Lib.hid (bstep HBW.out hbA)
            replace KA7 := Lib.hid (KA7.out.belowS hbA)
            replace KA6 := Lib.hid (KA6.out.belowS hbA)
            replace HVR := Lib.hid (HVR.out.below hbA)
            clear hbA
            go_simp
            refine hK.out _ _ ?_ (fun hHeld => ?_)
            · (try dsimp only)
              exact ⟨(K7.out.belowS HBW.out).cellV (i := 0) rfl, (K7.out.belowS HBW.out).cellV (i := 1) rfl, (K8.out.belowS HBW.out).cellV (i := 0) rfl, (K8.out.belowS HBW.out).cellV (i := 1) rfl⟩
            clear hK K
            refine wpAnyH_ready (rs := [8]) (by kernel_rfl) (by simp) ?_
            refine AllReadyH.cons rfl (fun K hK => ?_) AllReadyH.nil
            refine Tr.wanted_plain rfl ?_
            refine store_mid0 rfl 60 _ _ rfl (wc2.heap.size) 0 #[.slice A2 n2 c2] (by rfl) (by rfl) (by have h := there_blk KA6.out; exact h) Tryz.sizeRg (by simp [Value.oneCell']) ?_
            have xK := blk_puts1 (.slice A2 n2 c2) KA6.out
            have xB := bsets HBW.out HL6.out (#[.slice A2 n2 c2] : Array Value).toList 0
            have xA7 := KA7.out.farCells (HN7_6.out) (#[.slice A2 n2 c2] : Array Value).toList 0
            have xHVR := (show RegP (World.setCells (wc5) (wc2.heap.size) 0 (#[.slice A2 n2 c2] : Array Value).toList) _ _ from HVR.out.sets1 KA6.out)
            have xHUR := (show RegP (World.setCells (wc5) (wc2.heap.size) 0 (#[.slice A2 n2 c2] : Array Value).toList) _ _ from HUR.out.sets1 KA6.out)
            obtain ⟨wS8, hwS⟩ : ∃ wS, World.setCells wc5 (wc2.heap.size) 0 (#[.slice A2 n2 c2] : Array Value).toList = wS := ⟨_, rfl⟩
            rw [hwS] at xK xB xA7 xHVR xHUR ⊢
            replace HBW := Lib.hid xB
            replace KA6 := Lib.hid xK
            replace KA7 := Lib.hid xA7
            replace HVR := Lib.hid xHVR
            replace HUR := Lib.hid xHUR
            clear hwS xK xB xA7 xHVR xHUR
            refine hK.out _ _ ?_ (fun hHeld => ?_)
            · (try dsimp only)
              exact ⟨(K7.out.belowS HBW.out).cellV (i := 0) rfl, (K7.out.belowS HBW.out).cellV (i := 1) rfl, (K8.out.belowS HBW.out).cellV (i := 0) rfl, (K8.out.belowS HBW.out).cellV (i := 1) rfl⟩
            clear hK K
            refine wpAnyH_ready (rs := [9]) (by kernel_rfl) (by simp) ?_
            refine AllReadyH.cons rfl (fun K hK => ?_) AllReadyH.nil
            refine Tr.wanted_plain rfl ?_
            refine store_mid0 rfl 60 _ _ rfl (X3.heap.size) 0 #[.slice A5 n5 c5] (by rfl) (by rfl) (by have h := there_blk KA7.out; exact h) Tryz.sizeRg (by simp [Value.oneCell']) ?_
            have xK := blk_puts1 (.slice A5 n5 c5) KA7.out
            have xB := bsets HBW.out HL7.out (#[.slice A5 n5 c5] : Array Value).toList 0
            have xA6 := KA6.out.farCells (HN7_6.out.symm) (#[.slice A5 n5 c5] : Array Value).toList 0
            have xHVR := (show RegP (World.setCells (wS8) (X3.heap.size) 0 (#[.slice A5 n5 c5] : Array Value).toList) _ _ from HVR.out.sets1 KA7.out)
            have xHUR := (show RegP (World.setCells (wS8) (X3.heap.size) 0 (#[.slice A5 n5 c5] : Array Value).toList) _ _ from HUR.out.sets1 KA7.out)
            obtain ⟨wS9, hwS⟩ : ∃ wS, World.setCells wS8 (X3.heap.size) 0 (#[.slice A5 n5 c5] : Array Value).toList = wS := ⟨_, rfl⟩
            rw [hwS] at xK xB xA6 xHVR xHUR ⊢
            replace HBW := Lib.hid xB
            replace KA7 := Lib.hid xK
            replace KA6 := Lib.hid xA6
            replace HVR := Lib.hid xHVR
            replace HUR := Lib.hid xHUR
            clear hwS xK xB xA6 xHVR xHUR
            refine hK.out _ _ ?_ (fun hHeld => ?_)
            · (try dsimp only)
              exact ⟨(K7.out.belowS HBW.out).cellV (i := 0) rfl, (K7.out.belowS HBW.out).cellV (i := 1) rfl, (K8.out.belowS HBW.out).cellV (i := 0) rfl, (K8.out.belowS HBW.out).cellV (i := 1) rfl⟩
            clear hK K
            refine wpAnyH_done (by kernel_rfl) ?_ _
            refine NoPanic.normal ?_
            go_wp2_with fail
            go_meet
            exact ⟨_, _, A2, n2, c2, A5, n5, c5, rfl, rfl, KA6.out, KA7.out, HVR.out, HUR.out, HBW.out⟩
        ·
          go_simp
          have HN7_6 := Lib.hid (show X3.heap.size ≠ X3.heap.size + 1 from by have h := KA7.out.lt; rw [show ((X3.alloc (.cells #[.slice none 0 0] 60)).drew).heap.size = X3.heap.size + 1 from (show ((X3.alloc (.cells #[.slice none 0 0] 60))).heap.size = X3.heap.size + 1 by simp)] at h; exact Nat.ne_of_lt h)
          have KA6 := Lib.hid (show Blk ((X3.alloc (.cells #[.slice none 0 0] 60)).alloc (.cells #[.slice none 0 0] 60)).drew (X3.heap.size + 1) 60 #[.slice none 0 0] from by have h := Blk.new ((X3.alloc (.cells #[.slice none 0 0] 60)).drew) 60 #[.slice none 0 0]; rw [show ((X3.alloc (.cells #[.slice none 0 0] 60)).drew).heap.size = X3.heap.size + 1 from (show ((X3.alloc (.cells #[.slice none 0 0] 60))).heap.size = X3.heap.size + 1 by simp)] at h; exact h)
          have HL6 := Lib.hid (show X3.heap.size ≤ X3.heap.size + 1 from by have h := HBW.out.size; rw [show ((X3.alloc (.cells #[.slice none 0 0] 60)).drew).heap.size = X3.heap.size + 1 from (show ((X3.alloc (.cells #[.slice none 0 0] 60))).heap.size = X3.heap.size + 1 by simp)] at h; exact h)
          have hbA : Below (X3.alloc (.cells #[.slice none 0 0] 60)).drew.heap.size (X3.alloc (.cells #[.slice none 0 0] 60)).drew (((X3.alloc (.cells #[.slice none 0 0] 60)).alloc (.cells #[.slice none 0 0] 60)).drew) := bal (bre (X3.alloc (.cells #[.slice none 0 0] 60)).drew) (.cells #[.slice none 0 0] 60)
          replace HBW := Lib.hid (bstep HBW.out hbA)
          replace KA7 := Lib.hid (KA7.out.belowS hbA)
          clear hbA
          refine hK.out _ _ ?_ (fun hHeld => ?_)
          · (try dsimp only)
            exact ⟨(K7.out.belowS HBW.out).cellV (i := 0) rfl, (K7.out.belowS HBW.out).cellV (i := 1) rfl, (K8.out.belowS HBW.out).cellV (i := 0) rfl, (K8.out.belowS HBW.out).cellV (i := 1) rfl⟩
          clear hK K
          refine wpAnyH_ready (rs := [2]) (by kernel_rfl) (by simp) ?_
          refine AllReadyH.cons rfl (fun K hK => ?_) AllReadyH.nil
          go_simp
          refine ((HA.out.below HBW.out).call _ (bre _) i HI.out).mono ?_
          rintro e wc2 ⟨u, rfl, hr, hbA⟩
          obtain ⟨A2, n2, c2, rfl⟩ := hr.form
          have HVR := Lib.hid hr
          clear hr
          replace HBW := Lib.hid (bstep HBW.out hbA)
          replace KA7 := Lib.hid (KA7.out.belowS hbA)
          replace KA6 := Lib.hid (KA6.out.belowS hbA)
          clear hbA
          go_simp
          refine hK.out _ _ ?_ (fun hHeld => ?_)
          · (try dsimp only)
            exact ⟨(K7.out.belowS HBW.out).cellV (i := 0) rfl, (K7.out.belowS HBW.out).cellV (i := 1) rfl, (K8.out.belowS HBW.out).cellV (i := 0) rfl, (K8.out.belowS HBW.out).cellV (i := 1) rfl⟩
          clear hK K
          refine wpAnyH_ready (rs := [5]) (by kernel_rfl) (by simp) ?_
          refine AllReadyH.cons rfl (fun K hK => ?_) AllReadyH.nil
          go_simp
          refine ((HC.out.below HBW.out).call _ (bre _) i HI.out).mono ?_
          rintro e wc5 ⟨u, rfl, hr, hbA⟩
          obtain ⟨A5, n5, c5, rfl⟩ := hr.form
          have HUR := Lib.hid hr
          clear hr
          replace HBW := Lib.hid (bstep HBW.out hbA)
          replace KA7 := Lib.hid (KA7.out.belowS hbA)
          replace KA6 := Lib.hid (KA6.out.belowS hbA)
          replace HVR := Lib.hid (HVR.out.below hbA)
          clear hbA
          go_simp
          refine hK.out _ _ ?_ (fun hHeld => ?_)
          · (try dsimp only)
            exact ⟨(K7.out.belowS HBW.out).cellV (i := 0) rfl, (K7.out.belowS HBW.out).cellV (i := 1) rfl, (K8.out.belowS HBW.out).cellV (i := 0) rfl, (K8.out.belowS HBW.out).cellV (i := 1) rfl⟩
          clear hK K
          refine wpAnyH_ready (rs := [8]) (by kernel_rfl) (by simp) ?_
          refine AllReadyH.cons rfl (fun K hK => ?_) AllReadyH.nil
          refine Tr.wanted_plain rfl ?_
          refine store_mid0 rfl 60 _ _ rfl (X3.heap.size + 1) 0 #[.slice A2 n2 c2] (by rfl) (by rfl) (by have h := there_blk KA6.out; exact h) Tryz.sizeRg (by simp [Value.oneCell']) ?_
          have xK := blk_puts1 (.slice A2 n2 c2) KA6.out
          have xB := bsets HBW.out HL6.out (#[.slice A2 n2 c2] : Array Value).toList 0
          have xA7 := KA7.out.farCells (HN7_6.out) (#[.slice A2 n2 c2] : Array Value).toList 0
          have xHVR := (show RegP (World.setCells (wc5) (X3.heap.size + 1) 0 (#[.slice A2 n2 c2] : Array Value).toList) _ _ from HVR.out.sets1 KA6.out)
          have xHUR := (show RegP (World.setCells (wc5) (X3.heap.size + 1) 0 (#[.slice A2 n2 c2] : Array Value).toList) _ _ from HUR.out.sets1 KA6.out)
          obtain ⟨wS8, hwS⟩ : ∃ wS, World.setCells wc5 (X3.heap.size + 1) 0 (#[.slice A2 n2 c2] : Array Value).toList = wS := ⟨_, rfl⟩
          rw [hwS] at xK xB xA7 xHVR xHUR ⊢
          replace HBW := Lib.hid xB
          replace KA6 := Lib.hid xK
          replace KA7 := Lib.hid xA7
          replace HVR := Lib.hid xHVR
          replace HUR := Lib.hid xHUR
          clear hwS xK xB xA7 xHVR xHUR
          refine hK.out _ _ ?_ (fun hHeld => ?_)
          · (try dsimp only)
            exact ⟨(K7.out.belowS HBW.out).cellV (i := 0) rfl, (K7.out.belowS HBW.out).cellV (i := 1) rfl, (K8.out.belowS HBW.out).cellV (i := 0) rfl, (K8.out.belowS HBW.out).cellV (i := 1) rfl⟩
          clear hK K
          refine wpAnyH_ready (rs := [9]) (by kernel_rfl) (by simp) ?_
          refine AllReadyH.cons rfl (fun K hK => ?_) AllReadyH.nil
          refine Tr.wanted_plain rfl ?_
          refine store_mid0 rfl 60 _ _ rfl (X3.heap.size) 0 #[.slice A5 n5 c5] (by rfl) (by rfl) (by have h := there_blk KA7.out; exact h) Tryz.sizeRg (by simp [Value.oneCell']) ?_
          have xK := blk_puts1 (.slice A5 n5 c5) KA7.out
          have xB := bsets HBW.out HL7.out (#[.slice A5 n5 c5] : Array Value).toList 0
          have xA6 := KA6.out.farCells (HN7_6.out.symm) (#[.slice A5 n5 c5] : Array Value).toList 0
          have xHVR := (show RegP (World.setCells (wS8) (X3.heap.size) 0 (#[.slice A5 n5 c5] : Array Value).toList) _ _ from HVR.out.sets1 KA7.out)
          have xHUR := (show RegP (World.setCells (wS8) (X3.heap.size) 0 (#[.slice A5 n5 c5] : Array Value).toList) _ _ from HUR.out.sets1 KA7.out)
          obtain ⟨wS9, hwS⟩ : ∃ wS, World.setCells wS8 (X3.heap.size) 0 (#[.slice A5 n5 c5] : Array Value).toList = wS := ⟨_, rfl⟩
          rw [hwS] at xK xB xA6 xHVR xHUR ⊢
          replace HBW := Lib.hid xB
          replace KA7 := Lib.hid xK
          replace KA6 := Lib.hid xA6
          replace HVR := Lib.hid xHVR
          replace HUR := Lib.hid xHUR
          clear hwS xK xB xA6 xHVR xHUR
          refine hK.out _ _ ?_ (fun hHeld => ?_)
          · (try dsimp only)
            exact ⟨(K7.out.belowS HBW.out).cellV (i := 0) rfl, (K7.out.belowS HBW.out).cellV (i := 1) rfl, (K8.out.belowS HBW.out).cellV (i := 0) rfl, (K8.out.belowS HBW.out).cellV (i := 1) rfl⟩
          clear hK K
          refine wpAnyH_done (by kernel_rfl) ?_ _
          refine NoPanic.normal ?_
          go_wp2_with fail
          go_meet
          exact ⟨_, _, A2, n2, c2, A5, n5, c5, rfl, rfl, KA6.out, KA7.out, HVR.out, HUR.out, HBW.out⟩
  obtain ⟨g11, g12, A1, n1, c1, A2, n2, c2, rfl, rfl, hk11, hk12, hr11, hr12, hbc⟩ := hcut
  have K11 := Lib.hid hk11
  have K12 := Lib.hid hk12
  have HVR := Lib.hid hr11
  have HUR := Lib.hid hr12
  replace HB := Lib.hid (bstep HB.out hbc)
  replace K5 := Lib.hid (K5.out.belowS hbc)
  replace K7 := Lib.hid (K7.out.belowS hbc)
  replace K8 := Lib.hid (K8.out.belowS hbc)
  replace HA := Lib.hid (HA.out.below hbc)
  replace HC := Lib.hid (HC.out.below hbc)
  clear hk11 hk12 hr11 hr12 hbc
  obtain ⟨X4, hX4⟩ : ∃ X4, X4 = wc := ⟨_, rfl⟩
  subst hX4
  go_upto_region 6 with fail
  go_cut [13, 14] from 171 (fun s13 s14 wx => ∃ (g13 g14 : Nat) (A3 : Option Addr) (n3 c3 : Nat) (A4 : Option Addr) (n4 c4 : Nat) (A6 : Option Addr) (n6 c6 : Nat), s13 = .pointer (some ⟨g13, 0, none⟩) ∧ s14 = .pointer (some ⟨g14, 0, none⟩) ∧ Blk wx g13 93 #[.int .u32 i, .slice A3 n3 c3, .slice A4 n4 c4] ∧ Blk wx g14 60 #[.slice A6 n6 c6] ∧ RegP wx (.agg #[.slice A3 n3 c3]) (keptP (V i) (U i) dx dy F) ∧ RegP wx (.agg #[.slice A4 n4 c4]) (newP (V i) (U i) dx dy F) ∧ RegP wx (.agg #[.slice A6 n6 c6]) (lostP (V i) (U i)) ∧ Below X4.heap.size X4 wx)
  case first =>
    as_aux_lemma =>
      have HBW := Lib.hid (show Below X4.heap.size X4 X4.drew from (bre X4).drew)
      refine wp_region_noPanic ?_
      refine wp_region_held_drew (S := (fun w' => w'.cell? ⟨w2.heap.size, 0, none⟩ = some (.slice Aa na ca) ∧ w'.cell? ⟨w2.heap.size, 1, none⟩ = some (.map ma) ∧ w'.cell? ⟨w2.heap.size + 1, 0, none⟩ = some (.slice Ab nb cb) ∧ w'.cell? ⟨w2.heap.size + 1, 1, none⟩ = some (.map mb) ∧ w'.cell? ⟨w.heap.size, 0, none⟩ = some (.int .i64 dx) ∧ w'.cell? ⟨w.heap.size, 1, none⟩ = some (.int .i64 dy) ∧ w'.cell? ⟨w.heap.size, 2, none⟩ = some (.bool F))) (by kernel_rfl) ?_ (fun hHeld => ?_)
      · (try dsimp only)
        exact ⟨(K7.out.belowS HBW.out).cellV (i := 0) rfl, (K7.out.belowS HBW.out).cellV (i := 1) rfl, (K8.out.belowS HBW.out).cellV (i := 0) rfl, (K8.out.belowS HBW.out).cellV (i := 1) rfl, (K5.out.belowS HBW.out).cellV (i := 0) rfl, (K5.out.belowS HBW.out).cellV (i := 1) rfl, (K5.out.belowS HBW.out).cellV (i := 2) rfl⟩
      refine Tr.take_at 0 51 (.agg #[.slice Aa na ca, .map ma]) rfl rfl (by kernel_rfl) (by kernel_rfl) (by kernel_rfl) (fun _ _ _ h => h) (Or.inl ⟨by rfl, ?_⟩) (by assumption) ?_
      · intro W0 hSw
        (try dsimp only at hSw)
        go_simp
      simp only [List.set_cons_zero, List.set_cons_succ]
      refine Tr.take_at 1 52 (.agg #[.slice Ab nb cb, .map mb]) rfl rfl (by kernel_rfl) (by kernel_rfl) (by kernel_rfl) (fun _ _ _ h => h) (Or.inl ⟨by rfl, ?_⟩) (by assumption) ?_
      · intro W0 hSw
        (try dsimp only at hSw)
        go_simp
      simp only [List.set_cons_zero, List.set_cons_succ]
      refine Tr.take_at 2 53 (.int .u32 i) rfl rfl (by kernel_rfl) (by kernel_rfl) (by kernel_rfl) (fun _ _ _ h => h) (Or.inl ⟨by rfl, ?_⟩) (by assumption) ?_
      · intro W0 hSw
        (try dsimp only at hSw)
        go_simp
      simp only [List.set_cons_zero, List.set_cons_succ]
      refine Tr.take_at 3 54 (.agg #[.int .i64 dx, .int .i64 dy, .bool F]) rfl rfl (by kernel_rfl) (by kernel_rfl) (by kernel_rfl) (fun _ _ _ h => h) (Or.inl ⟨by rfl, ?_⟩) (by assumption) ?_
      · intro W0 hSw
        (try dsimp only at hSw)
        go_simp
      simp only [List.set_cons_zero, List.set_cons_succ]
      refine Tr.take_at 5 56 (.agg #[.slice Aa na ca, .map ma]) rfl rfl (by kernel_rfl) (by kernel_rfl) (by kernel_rfl) (fun _ _ _ h => h) (Or.inl ⟨by rfl, ?_⟩) (by assumption) ?_
      · intro W0 hSw
        (try dsimp only at hSw)
        go_simp
      simp only [List.set_cons_zero, List.set_cons_succ]
      refine Tr.take_at 6 57 (.agg #[.slice Ab nb cb, .map mb]) rfl rfl (by kernel_rfl) (by kernel_rfl) (by kernel_rfl) (fun _ _ _ h => h) (Or.inl ⟨by rfl, ?_⟩) (by assumption) ?_
      · intro W0 hSw
        (try dsimp only at hSw)
        go_simp
      simp only [List.set_cons_zero, List.set_cons_succ]
      refine Tr.take_at 7 58 (.int .u32 i) rfl rfl (by kernel_rfl) (by kernel_rfl) (by kernel_rfl) (fun _ _ _ h => h) (Or.inl ⟨by rfl, ?_⟩) (by assumption) ?_
      · intro W0 hSw
        (try dsimp only at hSw)
        go_simp
      simp only [List.set_cons_zero, List.set_cons_succ]
      refine wpAnyH_ready (rs := [4, 9, 10]) (by kernel_rfl) (by simp) ?_
      refine AllReadyH.cons rfl (fun K hK => ?_) (AllReadyH.cons rfl (fun K hK => ?_) (AllReadyH.cons rfl (fun K hK => ?_) AllReadyH.nil))
      ·
        go_simp
        refine (one_any i dx dy F (HA.out.below HBW.out) (HC.out.below HBW.out) HI.out (by have := HSM.out; omega)).mono ?_
        rintro e wc4 ⟨A3, n3, c3, A4, n4, c4, rfl, hk4, hn4, hbA⟩
        have HKP := Lib.hid hk4
        have HNP := Lib.hid hn4
        clear hk4 hn4
        replace HBW := Lib.hid (bstep HBW.out hbA)
        clear hbA
        go_simp
        refine hK.out _ _ ?_ (fun hHeld => ?_)
        · (try dsimp only)
          exact ⟨(K7.out.belowS HBW.out).cellV (i := 0) rfl, (K7.out.belowS HBW.out).cellV (i := 1) rfl, (K8.out.belowS HBW.out).cellV (i := 0) rfl, (K8.out.belowS HBW.out).cellV (i := 1) rfl, (K5.out.belowS HBW.out).cellV (i := 0) rfl, (K5.out.belowS HBW.out).cellV (i := 1) rfl, (K5.out.belowS HBW.out).cellV (i := 2) rfl⟩
        clear hK K
        refine wpAnyH_ready (rs := [8, 9, 10]) (by kernel_rfl) (by simp) ?_
        refine AllReadyH.cons rfl (fun K hK => ?_) (AllReadyH.cons rfl (fun K hK => ?_) (AllReadyH.cons rfl (fun K hK => ?_) AllReadyH.nil))
        ·
          go_simp
          refine (lostP_any i (HA.out.below HBW.out) (HC.out.below HBW.out) HI.out).mono ?_
          rintro e wc8 ⟨u, rfl, hr, hbA⟩
          obtain ⟨A6, n6, c6, rfl⟩ := hr.form
          have HLP := Lib.hid hr
          clear hr
          replace HBW := Lib.hid (bstep HBW.out hbA)
          replace HKP := Lib.hid (HKP.out.below hbA)
          replace HNP := Lib.hid (HNP.out.below hbA)
          clear hbA
          go_simp
          refine hK.out _ _ ?_ (fun hHeld => ?_)
          · (try dsimp only)
            exact ⟨(K7.out.belowS HBW.out).cellV (i := 0) rfl, (K7.out.belowS HBW.out).cellV (i := 1) rfl, (K8.out.belowS HBW.out).cellV (i := 0) rfl, (K8.out.belowS HBW.out).cellV (i := 1) rfl, (K5.out.belowS HBW.out).cellV (i := 0) rfl, (K5.out.belowS HBW.out).cellV (i := 1) rfl, (K5.out.belowS HBW.out).cellV (i := 2) rfl⟩
          clear hK K
          refine wpAnyH_ready (rs := [9, 10]) (by kernel_rfl) (by simp) ?_
          refine AllReadyH.cons rfl (fun K hK => ?_) (AllReadyH.cons rfl (fun K hK => ?_) AllReadyH.nil)
          ·
            go_simp
            have KA9 := Lib.hid (show Blk (wc8.alloc (.cells #[.int .u32 0, .slice none 0 0, .slice none 0 0] 93)) (wc8.heap.size) 93 #[.int .u32 0, .slice none 0 0, .slice none 0 0] from Blk.new wc8 93 #[.int .u32 0, .slice none 0 0, .slice none 0 0])
            have HL9 := Lib.hid (show X4.heap.size ≤ wc8.heap.size from HBW.out.size)
            have hbA : Below wc8.heap.size wc8 ((wc8.alloc (.cells #[.int .u32 0, .slice none 0 0, .slice none 0 0] 93))) := bal (bre wc8) (.cells #[.int .u32 0, .slice none 0 0, .slice none 0 0] 93)
            replace HBW := Lib.hid (bstep HBW.out hbA)
            replace HKP := Lib.hid (HKP.out.below hbA)
            replace HNP := Lib.hid (HNP.out.below hbA)
            replace HLP := Lib.hid (HLP.out.below hbA)
            clear hbA
            refine hK.out _ _ ?_ (fun hHeld => ?_)
            · (try dsimp only)
              exact ⟨(K7.out.belowS HBW.out).cellV (i := 0) rfl, (K7.out.belowS HBW.out).cellV (i := 1) rfl, (K8.out.belowS HBW.out).cellV (i := 0) rfl, (K8.out.belowS HBW.out).cellV (i := 1) rfl, (K5.out.belowS HBW.out).cellV (i := 0) rfl, (K5.out.belowS HBW.out).cellV (i := 1) rfl, (K5.out.belowS HBW.out).cellV (i := 2) rfl⟩
            clear hK K
            refine wpAnyH_ready (rs := [10]) (by kernel_rfl) (by simp) ?_
            refine AllReadyH.cons rfl (fun K hK => ?_) AllReadyH.nil
            go_simp
            have HN9_10 := Lib.hid (show wc8.heap.size ≠ wc8.heap.size + 1 from by have h := KA9.out.lt; rw [show ((wc8.alloc (.cells #[.int .u32 0, .slice none 0 0, .slice none 0 0] 93))).heap.size = wc8.heap.size + 1 from (show ((wc8.alloc (.cells #[.int .u32 0, .slice none 0 0, .slice none 0 0] 93))).heap.size = wc8.heap.size + 1 by simp)] at h; exact Nat.ne_of_lt h)
            have KA10 := Lib.hid (show Blk ((wc8.alloc (.cells #[.int .u32 0, .slice none 0 0, .slice none 0 0] 93)).alloc (.cells #[.slice none 0 0] 60)) (wc8.heap.size + 1) 60 #[.slice none 0 0] from by have h := Blk.new ((wc8.alloc (.cells #[.int .u32 0, .slice none 0 0, .slice none 0 0] 93))) 60 #[.slice none 0 0]; rw [show ((wc8.alloc (.cells #[.int .u32 0, .slice none 0 0, .slice none 0 0] 93))).heap.size = wc8.heap.size + 1 from (show ((wc8.alloc (.cells #[.int .u32 0, .slice none 0 0, .slice none 0 0] 93))).heap.size = wc8.heap.size + 1 by simp)] at h; exact h)
            have HL10 := Lib.hid (show X4.heap.size ≤ wc8.heap.size + 1 from by have h := HBW.out.size; rw [show ((wc8.alloc (.cells #[.int .u32 0, .slice none 0 0, .slice none 0 0] 93))).heap.size = wc8.heap.size + 1 from (show ((wc8.alloc (.cells #[.int .u32 0, .slice none 0 0, .slice none 0 0] 93))).heap.size = wc8.heap.size + 1 by simp)] at h; exact h)
            have hbA : Below (wc8.alloc (.cells #[.int .u32 0, .slice none 0 0, .slice none 0 0] 93)).heap.size (wc8.alloc (.cells #[.int .u32 0, .slice none 0 0, .slice none 0 0] 93)) (((wc8.alloc (.cells #[.int .u32 0, .slice none 0 0, .slice none 0 0] 93)).alloc (.cells #[.slice none 0 0] 60))) := bal (bre (wc8.alloc (.cells #[.int .u32 0, .slice none 0 0, .slice none 0 0] 93))) (.cells #[.slice none 0 0] 60)
            replace HBW := Lib.hid (bstep HBW.out hbA)
            replace KA9 := Lib.hid (KA9.out.belowS hbA)
            replace HKP := Lib.hid (HKP.out.below hbA)
            replace HNP := Lib.hid (HNP.out.below hbA)
            replace HLP := Lib.hid (HLP.out.below hbA)
            clear hbA
            refine hK.out _ _ ?_ (fun hHeld => ?_)
            · (try dsimp only)
              exact ⟨(K7.out.belowS HBW.out).cellV (i := 0) rfl, (K7.out.belowS HBW.out).cellV (i := 1) rfl, (K8.out.belowS HBW.out).cellV (i := 0) rfl, (K8.out.belowS HBW.out).cellV (i := 1) rfl, (K5.out.belowS HBW.out).cellV (i := 0) rfl, (K5.out.belowS HBW.out).cellV (i := 1) rfl, (K5.out.belowS HBW.out).cellV (i := 2) rfl⟩
            clear hK K
            refine wpAnyH_ready (rs := [11]) (by kernel_rfl) (by simp) ?_
            refine AllReadyH.cons rfl (fun K hK => ?_) AllReadyH.nil
            refine Tr.wanted_plain rfl ?_
            refine store_mid0 rfl 93 _ _ rfl (wc8.heap.size) 0 #[.int .u32 i, .slice A3 n3 c3, .slice A4 n4 c4] (by rfl) (by rfl) (by have h := there_blk KA9.out; exact h) Tryz.sizeCh (by simp [Value.oneCell']) ?_
            have xK := put3 (.int .u32 i) (.slice A3 n3 c3) (.slice A4 n4 c4) KA9.out
            have xB := bsets HBW.out HL9.out (#[.int .u32 i, .slice A3 n3 c3, .slice A4 n4 c4] : Array Value).toList 0
            have xA10 := KA10.out.farCells (HN9_10.out.symm) (#[.int .u32 i, .slice A3 n3 c3, .slice A4 n4 c4] : Array Value).toList 0
            have xHKP := (show RegP (World.setCells ((wc8.alloc (.cells #[.int .u32 0, .slice none 0 0, .slice none 0 0] 93)).alloc (.cells #[.slice none 0 0] 60)) (wc8.heap.size) 0 (#[.int .u32 i, .slice A3 n3 c3, .slice A4 n4 c4] : Array Value).toList) _ _ from HKP.out.sets3 KA9.out)
            have xHNP := (show RegP (World.setCells ((wc8.alloc (.cells #[.int .u32 0, .slice none 0 0, .slice none 0 0] 93)).alloc (.cells #[.slice none 0 0] 60)) (wc8.heap.size) 0 (#[.int .u32 i, .slice A3 n3 c3, .slice A4 n4 c4] : Array Value).toList) _ _ from HNP.out.sets3 KA9.out)
            have xHLP := (show RegP (World.setCells ((wc8.alloc (.cells #[.int .u32 0, .slice none 0 0, .slice none 0 0] 93)).alloc (.cells #[.slice none 0 0] 60)) (wc8.heap.size) 0 (#[.int .u32 i, .slice A3 n3 c3, .slice A4 n4 c4] : Array Value).toList) _ _ from HLP.out.sets3 KA9.out)
            obtain ⟨wS11, hwS⟩ : ∃ wS, World.setCells ((wc8.alloc (.cells #[.int .u32 0, .slice none 0 0, .slice none 0 0] 93)).alloc (.cells #[.slice none 0 0] 60)) (wc8.heap.size) 0 (#[.int .u32 i, .slice A3 n3 c3, .slice A4 n4 c4] : Array Value).toList = wS := ⟨_, rfl⟩
            rw [hwS] at xK xB xA10 xHKP xHNP xHLP ⊢
            replace HBW := Lib.hid xB
            replace KA9 := Lib.hid xK
            replace KA10 := Lib.hid xA10
            replace HKP := Lib.hid xHKP
            replace HNP := Lib.hid xHNP
            replace HLP := Lib.hid xHLP
            clear hwS xK xB xA10 xHKP xHNP xHLP
            refine hK.out _ _ ?_ (fun hHeld => ?_)
            · (try dsimp only)
              exact ⟨(K7.out.belowS HBW.out).cellV (i := 0) rfl, (K7.out.belowS HBW.out).cellV (i := 1) rfl, (K8.out.belowS HBW.out).cellV (i := 0) rfl, (K8.out.belowS HBW.out).cellV (i := 1) rfl, (K5.out.belowS HBW.out).cellV (i := 0) rfl, (K5.out.belowS HBW.out).cellV (i := 1) rfl, (K5.out.belowS HBW.out).cellV (i := 2) rfl⟩
            clear hK K
            refine wpAnyH_ready (rs := [12]) (by kernel_rfl) (by simp) ?_
            refine AllReadyH.cons rfl (fun K hK => ?_) AllReadyH.nil
            refine Tr.wanted_plain rfl ?_
            refine store_mid0 rfl 60 _ _ rfl (wc8.heap.size + 1) 0 #[.slice A6 n6 c6] (by rfl) (by rfl) (by have h := there_blk KA10.out; exact h) Tryz.sizeRg (by simp [Value.oneCell']) ?_
            have xK := blk_puts1 (.slice A6 n6 c6) KA10.out
            have xB := bsets HBW.out HL10.out (#[.slice A6 n6 c6] : Array Value).toList 0
            have xA9 := KA9.out.farCells (HN9_10.out) (#[.slice A6 n6 c6] : Array Value).toList 0
            have xHKP := (show RegP (World.setCells (wS11) (wc8.heap.size + 1) 0 (#[.slice A6 n6 c6] : Array Value).toList) _ _ from HKP.out.sets1 KA10.out)
            have xHNP := (show RegP (World.setCells (wS11) (wc8.heap.size + 1) 0 (#[.slice A6 n6 c6] : Array Value).toList) _ _ from HNP.out.sets1 KA10.out)
            have xHLP := (show RegP (World.setCells (wS11) (wc8.heap.size + 1) 0 (#[.slice A6 n6 c6] : Array Value).toList) _ _ from HLP.out.sets1 KA10.out)
            obtain ⟨wS12, hwS⟩ : ∃ wS, World.setCells wS11 (wc8.heap.size + 1) 0 (#[.slice A6 n6 c6] : Array Value).toList = wS := ⟨_, rfl⟩
            rw [hwS] at xK xB xA9 xHKP xHNP xHLP ⊢
            replace HBW := Lib.hid xB
            replace KA10 := Lib.hid xK
            replace KA9 := Lib.hid xA9
            replace HKP := Lib.hid xHKP
            replace HNP := Lib.hid xHNP
            replace HLP := Lib.hid xHLP
            clear hwS xK xB xA9 xHKP xHNP xHLP
            refine hK.out _ _ ?_ (fun hHeld => ?_)
            · (try dsimp only)
              exact ⟨(K7.out.belowS HBW.out).cellV (i := 0) rfl, (K7.out.belowS HBW.out).cellV (i := 1) rfl, (K8.out.belowS HBW.out).cellV (i := 0) rfl, (K8.out.belowS HBW.out).cellV (i := 1) rfl, (K5.out.belowS HBW.out).cellV (i := 0) rfl, (K5.out.belowS HBW.out).cellV (i := 1) rfl, (K5.out.belowS HBW.out).cellV (i := 2) rfl⟩
            clear hK K
            refine wpAnyH_done (by kernel_rfl) ?_ _
            refine NoPanic.normal ?_
            go_wp2_with fail
            go_meet
            exact ⟨_, _, A3, n3, c3, A4, n4, c4, A6, n6, c6, rfl, rfl, KA9.out, KA10.out, HKP.out, HNP.out, HLP.out, HBW.out⟩
          ·
            go_simp
            have KA10 := Lib.hid (show Blk (wc8.alloc (.cells #[.slice none 0 0] 60)) (wc8.heap.size) 60 #[.slice none 0 0] from Blk.new wc8 60 #[.slice none 0 0])
            have HL10 := Lib.hid (show X4.heap.size ≤ wc8.heap.size from HBW.out.size)
            have hbA : Below wc8.heap.size wc8 ((wc8.alloc (.cells #[.slice none 0 0] 60))) := bal (bre wc8) (.cells #[.slice none 0 0] 60)
            replace HBW := Lib.hid (bstep HBW.out hbA)
            replace HKP := Lib.hid (HKP.out.below hbA)
            replace HNP := Lib.hid (HNP.out.below hbA)
            replace HLP := Lib.hid (HLP.out.below hbA)
            clear hbA
            refine hK.out _ _ ?_ (fun hHeld => ?_)
            · (try dsimp only)
              exact ⟨(K7.out.belowS HBW.out).cellV (i := 0) rfl, (K7.out.belowS HBW.out).cellV (i := 1) rfl, (K8.out.belowS HBW.out).cellV (i := 0) rfl, (K8.out.belowS HBW.out).cellV (i := 1) rfl, (K5.out.belowS HBW.out).cellV (i := 0) rfl, (K5.out.belowS HBW.out).cellV (i := 1) rfl, (K5.out.belowS HBW.out).cellV (i := 2) rfl⟩
            clear hK K
            refine wpAnyH_ready (rs := [9]) (by kernel_rfl) (by simp) ?_
            refine AllReadyH.cons rfl (fun K hK => ?_) AllReadyH.nil
            go_simp
            have HN10_9 := Lib.hid (show wc8.heap.size ≠ wc8.heap.size + 1 from by have h := KA10.out.lt; rw [show ((wc8.alloc (.cells #[.slice none 0 0] 60))).heap.size = wc8.heap.size + 1 from (show ((wc8.alloc (.cells #[.slice none 0 0] 60))).heap.size = wc8.heap.size + 1 by simp)] at h; exact Nat.ne_of_lt h)
            have KA9 := Lib.hid (show Blk ((wc8.alloc (.cells #[.slice none 0 0] 60)).alloc (.cells #[.int .u32 0, .slice none 0 0, .slice none 0 0] 93)) (wc8.heap.size + 1) 93 #[.int .u32 0, .slice none 0 0, .slice none 0 0] from by have h := Blk.new ((wc8.alloc (.cells #[.slice none 0 0] 60))) 93 #[.int .u32 0, .slice none 0 0, .slice none 0 0]; rw [show ((wc8.alloc (.cells #[.slice none 0 0] 60))).heap.size = wc8.heap.size + 1 from (show ((wc8.alloc (.cells #[.slice none 0 0] 60))).heap.size = wc8.heap.size + 1 by simp)] at h; exact h)
            have HL9 := Lib.hid (show X4.heap.size ≤ wc8.heap.size + 1 from by have h := HBW.out.size; rw [show ((wc8.alloc (.cells #[.slice none 0 0] 60))).heap.size = wc8.heap.size + 1 from (show ((wc8.alloc (.cells #[.slice none 0 0] 60))).heap.size = wc8.heap.size + 1 by simp)] at h; exact h)
            have hbA : Below (wc8.alloc (.cells #[.slice none 0 0] 60)).heap.size (wc8.alloc (.cells #[.slice none 0 0] 60)) (((wc8.alloc (.cells #[.slice none 0 0] 60)).alloc (.cells #[.int .u32 0, .slice none 0 0, .slice none 0 0] 93))) := bal (bre (wc8.alloc (.cells #[.slice none 0 0] 60))) (.cells #[.int .u32 0, .slice none 0 0, .slice none 0 0] 93)
            replace HBW := Lib.hid (bstep HBW.out hbA)
            replace KA10 := Lib.hid (KA10.out.belowS hbA)
            replace HKP := Lib.hid (HKP.out.below hbA)
            replace HNP := Lib.hid (HNP.out.below hbA)
            replace HLP := Lib.hid (HLP.out.below hbA)
            clear hbA
            refine hK.out _ _ ?_ (fun hHeld => ?_)
            · (try dsimp only)
              exact ⟨(K7.out.belowS HBW.out).cellV (i := 0) rfl, (K7.out.belowS HBW.out).cellV (i := 1) rfl, (K8.out.belowS HBW.out).cellV (i := 0) rfl, (K8.out.belowS HBW.out).cellV (i := 1) rfl, (K5.out.belowS HBW.out).cellV (i := 0) rfl, (K5.out.belowS HBW.out).cellV (i := 1) rfl, (K5.out.belowS HBW.out).cellV (i := 2) rfl⟩
            clear hK K
            refine wpAnyH_ready (rs := [11]) (by kernel_rfl) (by simp) ?_
            refine AllReadyH.cons rfl (fun K hK => ?_) AllReadyH.nil
            refine Tr.wanted_plain rfl ?_
            refine store_mid0 rfl 93 _ _ rfl (wc8.heap.size + 1) 0 #[.int .u32 i, .slice A3 n3 c3, .slice A4 n4 c4] (by rfl) (by rfl) (by have h := there_blk KA9.out; exact h) Tryz.sizeCh (by simp [Value.oneCell']) ?_
            have xK := put3 (.int .u32 i) (.slice A3 n3 c3) (.slice A4 n4 c4) KA9.out
            have xB := bsets HBW.out HL9.out (#[.int .u32 i, .slice A3 n3 c3, .slice A4 n4 c4] : Array Value).toList 0
            have xA10 := KA10.out.farCells (HN10_9.out) (#[.int .u32 i, .slice A3 n3 c3, .slice A4 n4 c4] : Array Value).toList 0
            have xHKP := (show RegP (World.setCells ((wc8.alloc (.cells #[.slice none 0 0] 60)).alloc (.cells #[.int .u32 0, .slice none 0 0, .slice none 0 0] 93)) (wc8.heap.size + 1) 0 (#[.int .u32 i, .slice A3 n3 c3, .slice A4 n4 c4] : Array Value).toList) _ _ from HKP.out.sets3 KA9.out)
            have xHNP := (show RegP (World.setCells ((wc8.alloc (.cells #[.slice none 0 0] 60)).alloc (.cells #[.int .u32 0, .slice none 0 0, .slice none 0 0] 93)) (wc8.heap.size + 1) 0 (#[.int .u32 i, .slice A3 n3 c3, .slice A4 n4 c4] : Array Value).toList) _ _ from HNP.out.sets3 KA9.out)
            have xHLP := (show RegP (World.setCells ((wc8.alloc (.cells #[.slice none 0 0] 60)).alloc (.cells #[.int .u32 0, .slice none 0 0, .slice none 0 0] 93)) (wc8.heap.size + 1) 0 (#[.int .u32 i, .slice A3 n3 c3, .slice A4 n4 c4] : Array Value).toList) _ _ from HLP.out.sets3 KA9.out)
            obtain ⟨wS11, hwS⟩ : ∃ wS, World.setCells ((wc8.alloc (.cells #[.slice none 0 0] 60)).alloc (.cells #[.int .u32 0, .slice none 0 0, .slice none 0 0] 93)) (wc8.heap.size + 1) 0 (#[.int .u32 i, .slice A3 n3 c3, .slice A4 n4 c4] : Array Value).toList = wS := ⟨_, rfl⟩
            rw [hwS] at xK xB xA10 xHKP xHNP xHLP ⊢
            replace HBW := Lib.hid xB
            replace KA9 := Lib.hid xK
            replace KA10 := Lib.hid xA10
            replace HKP := Lib.hid xHKP
            replace HNP := Lib.hid xHNP
            replace HLP := Lib.hid xHLP
            clear hwS xK xB xA10 xHKP xHNP xHLP
            refine hK.out _ _ ?_ (fun hHeld => ?_)
            · (try dsimp only)
              exact ⟨(K7.out.belowS HBW.out).cellV (i := 0) rfl, (K7.out.belowS HBW.out).cellV (i := 1) rfl, (K8.out.belowS HBW.out).cellV (i := 0) rfl, (K8.out.belowS HBW.out).cellV (i := 1) rfl, (K5.out.belowS HBW.out).cellV (i := 0) rfl, (K5.out.belowS HBW.out).cellV (i := 1) rfl, (K5.out.belowS HBW.out).cellV (i := 2) rfl⟩
            clear hK K
            refine wpAnyH_ready (rs := [12]) (by kernel_rfl) (by simp) ?_
            refine AllReadyH.cons rfl (fun K hK => ?_) AllReadyH.nil
            refine Tr.wanted_plain rfl ?_
            refine store_mid0 rfl 60 _ _ rfl (wc8.heap.size) 0 #[.slice A6 n6 c6] (by rfl) (by rfl) (by have h := there_blk KA10.out; exact h) Tryz.sizeRg (by simp [Value.oneCell']) ?_
            have xK := blk_puts1 (.slice A6 n6 c6) KA10.out
            have xB := bsets HBW.out HL10.out (#[.slice A6 n6 c6] : Array Value).toList 0
            have xA9 := KA9.out.farCells (HN10_9.out.symm) (#[.slice A6 n6 c6] : Array Value).toList 0
            have xHKP := (show RegP (World.setCells (wS11) (wc8.heap.size) 0 (#[.slice A6 n6 c6] : Array Value).toList) _ _ from HKP.out.sets1 KA10.out)
            have xHNP := (show RegP (World.setCells (wS11) (wc8.heap.size) 0 (#[.slice A6 n6 c6] : Array Value).toList) _ _ from HNP.out.sets1 KA10.out)
            have xHLP := (show RegP (World.setCells (wS11) (wc8.heap.size) 0 (#[.slice A6 n6 c6] : Array Value).toList) _ _ from HLP.out.sets1 KA10.out)
            obtain ⟨wS12, hwS⟩ : ∃ wS, World.setCells wS11 (wc8.heap.size) 0 (#[.slice A6 n6 c6] : Array Value).toList = wS := ⟨_, rfl⟩
            rw [hwS] at xK xB xA9 xHKP xHNP xHLP ⊢
            replace HBW := Lib.hid xB
            replace KA10 := Lib.hid xK
            replace KA9 := Lib.hid xA9
            replace HKP := Lib.hid xHKP
            replace HNP := Lib.hid xHNP
            replace HLP := Lib.hid xHLP
            clear hwS xK xB xA9 xHKP xHNP xHLP
            refine hK.out _ _ ?_ (fun hHeld => ?_)
            · (try dsimp only)
              exact ⟨(K7.out.belowS HBW.out).cellV (i := 0) rfl, (K7.out.belowS HBW.out).cellV (i := 1) rfl, (K8.out.belowS HBW.out).cellV (i := 0) rfl, (K8.out.belowS HBW.out).cellV (i := 1) rfl, (K5.out.belowS HBW.out).cellV (i := 0) rfl, (K5.out.belowS HBW.out).cellV (i := 1) rfl, (K5.out.belowS HBW.out).cellV (i := 2) rfl⟩
            clear hK K
            refine wpAnyH_done (by kernel_rfl) ?_ _
            refine NoPanic.normal ?_
            go_wp2_with fail
            go_meet
            exact ⟨_, _, A3, n3, c3, A4, n4, c4, A6, n6, c6, rfl, rfl, KA9.out, KA10.out, HKP.out, HNP.out, HLP.out, HBW.out⟩
        ·
          go_simp
          have KA9 := Lib.hid (show Blk (wc4.alloc (.cells #[.int .u32 0, .slice none 0 0, .slice none 0 0] 93)) (wc4.heap.size) 93 #[.int .u32 0, .slice none 0 0, .slice none 0 0] from Blk.new wc4 93 #[.int .u32 0, .slice none 0 0, .slice none 0 0])
          have HL9 := Lib.hid (show X4.heap.size ≤ wc4.heap.size from HBW.out.size)
          have hbA : Below wc4.heap.size wc4 ((wc4.alloc (.cells #[.int .u32 0, .slice none 0 0, .slice none 0 0] 93))) := bal (bre wc4) (.cells #[.int .u32 0, .slice none 0 0, .slice none 0 0] 93)
          replace HBW := Lib.hid (bstep HBW.out hbA)
          replace HKP := Lib.hid (HKP.out.below hbA)
          replace HNP := Lib.hid (HNP.out.below hbA)
          clear hbA
          refine hK.out _ _ ?_ (fun hHeld => ?_)
          · (try dsimp only)
            exact ⟨(K7.out.belowS HBW.out).cellV (i := 0) rfl, (K7.out.belowS HBW.out).cellV (i := 1) rfl, (K8.out.belowS HBW.out).cellV (i := 0) rfl, (K8.out.belowS HBW.out).cellV (i := 1) rfl, (K5.out.belowS HBW.out).cellV (i := 0) rfl, (K5.out.belowS HBW.out).cellV (i := 1) rfl, (K5.out.belowS HBW.out).cellV (i := 2) rfl⟩
          clear hK K
          refine wpAnyH_ready (rs := [8, 10]) (by kernel_rfl) (by simp) ?_
          refine AllReadyH.cons rfl (fun K hK => ?_) (AllReadyH.cons rfl (fun K hK => ?_) AllReadyH.nil)
          ·
            go_simp
            refine (lostP_any i (HA.out.below HBW.out) (HC.out.below HBW.out) HI.out).mono ?_
            rintro e wc8 ⟨u, rfl, hr, hbA⟩
            obtain ⟨A6, n6, c6, rfl⟩ := hr.form
            have HLP := Lib.hid hr
            clear hr
            replace HBW := Lib.hid (bstep HBW.out hbA)
            replace KA9 := Lib.hid (KA9.out.belowS hbA)
            replace HKP := Lib.hid (HKP.out.below hbA)
            replace HNP := Lib.hid (HNP.out.below hbA)
            clear hbA
            go_simp
            refine hK.out _ _ ?_ (fun hHeld => ?_)
            · (try dsimp only)
              exact ⟨(K7.out.belowS HBW.out).cellV (i := 0) rfl, (K7.out.belowS HBW.out).cellV (i := 1) rfl, (K8.out.belowS HBW.out).cellV (i := 0) rfl, (K8.out.belowS HBW.out).cellV (i := 1) rfl, (K5.out.belowS HBW.out).cellV (i := 0) rfl, (K5.out.belowS HBW.out).cellV (i := 1) rfl, (K5.out.belowS HBW.out).cellV (i := 2) rfl⟩
            clear hK K
            refine wpAnyH_ready (rs := [10]) (by kernel_rfl) (by simp) ?_
            refine AllReadyH.cons rfl (fun K hK => ?_) AllReadyH.nil
            go_simp
            have HN9_10 := Lib.hid (Nat.ne_of_lt KA9.out.lt)
            have KA10 := Lib.hid (show Blk (wc8.alloc (.cells #[.slice none 0 0] 60)) (wc8.heap.size) 60 #[.slice none 0 0] from Blk.new wc8 60 #[.slice none 0 0])
            have HL10 := Lib.hid (show X4.heap.size ≤ wc8.heap.size from HBW.out.size)
            have hbA : Below wc8.heap.size wc8 ((wc8.alloc (.cells #[.slice none 0 0] 60))) := bal (bre wc8) (.cells #[.slice none 0 0] 60)
            replace HBW := Lib.hid (bstep HBW.out hbA)
            replace KA9 := Lib.hid (KA9.out.belowS hbA)
            replace HKP := Lib.hid (HKP.out.below hbA)
            replace HNP := Lib.hid (HNP.out.below hbA)
            replace HLP := Lib.hid (HLP.out.below hbA)
            clear hbA
            refine hK.out _ _ ?_ (fun hHeld => ?_)
            · (try dsimp only)
              exact ⟨(K7.out.belowS HBW.out).cellV (i := 0) rfl, (K7.out.belowS HBW.out).cellV (i := 1) rfl, (K8.out.belowS HBW.out).cellV (i := 0) rfl, (K8.out.belowS HBW.out).cellV (i := 1) rfl, (K5.out.belowS HBW.out).cellV (i := 0) rfl, (K5.out.belowS HBW.out).cellV (i := 1) rfl, (K5.out.belowS HBW.out).cellV (i := 2) rfl⟩
            clear hK K
            refine wpAnyH_ready (rs := [11]) (by kernel_rfl) (by simp) ?_
            refine AllReadyH.cons rfl (fun K hK => ?_) AllReadyH.nil
            refine Tr.wanted_plain rfl ?_
            refine store_mid0 rfl 93 _ _ rfl (wc4.heap.size) 0 #[.int .u32 i, .slice A3 n3 c3, .slice A4 n4 c4] (by rfl) (by rfl) (by have h := there_blk KA9.out; exact h) Tryz.sizeCh (by simp [Value.oneCell']) ?_
            have xK := put3 (.int .u32 i) (.slice A3 n3 c3) (.slice A4 n4 c4) KA9.out
            have xB := bsets HBW.out HL9.out (#[.int .u32 i, .slice A3 n3 c3, .slice A4 n4 c4] : Array Value).toList 0
            have xA10 := KA10.out.farCells (HN9_10.out.symm) (#[.int .u32 i, .slice A3 n3 c3, .slice A4 n4 c4] : Array Value).toList 0
            have xHKP := (show RegP (World.setCells (wc8.alloc (.cells #[.slice none 0 0] 60)) (wc4.heap.size) 0 (#[.int .u32 i, .slice A3 n3 c3, .slice A4 n4 c4] : Array Value).toList) _ _ from HKP.out.sets3 KA9.out)
            have xHNP := (show RegP (World.setCells (wc8.alloc (.cells #[.slice none 0 0] 60)) (wc4.heap.size) 0 (#[.int .u32 i, .slice A3 n3 c3, .slice A4 n4 c4] : Array Value).toList) _ _ from HNP.out.sets3 KA9.out)
            have xHLP := (show RegP (World.setCells (wc8.alloc (.cells #[.slice none 0 0] 60)) (wc4.heap.size) 0 (#[.int .u32 i, .slice A3 n3 c3, .slice A4 n4 c4] : Array Value).toList) _ _ from HLP.out.sets3 KA9.out)
            obtain ⟨wS11, hwS⟩ : ∃ wS, World.setCells (wc8.alloc (.cells #[.slice none 0 0] 60)) (wc4.heap.size) 0 (#[.int .u32 i, .slice A3 n3 c3, .slice A4 n4 c4] : Array Value).toList = wS := ⟨_, rfl⟩
            rw [hwS] at xK xB xA10 xHKP xHNP xHLP ⊢
            replace HBW := Lib.hid xB
            replace KA9 := Lib.hid xK
            replace KA10 := Lib.hid xA10
            replace HKP := Lib.hid xHKP
            replace HNP := Lib.hid xHNP
            replace HLP := Lib.hid xHLP
            clear hwS xK xB xA10 xHKP xHNP xHLP
            refine hK.out _ _ ?_ (fun hHeld => ?_)
            · (try dsimp only)
              exact ⟨(K7.out.belowS HBW.out).cellV (i := 0) rfl, (K7.out.belowS HBW.out).cellV (i := 1) rfl, (K8.out.belowS HBW.out).cellV (i := 0) rfl, (K8.out.belowS HBW.out).cellV (i := 1) rfl, (K5.out.belowS HBW.out).cellV (i := 0) rfl, (K5.out.belowS HBW.out).cellV (i := 1) rfl, (K5.out.belowS HBW.out).cellV (i := 2) rfl⟩
            clear hK K
            refine wpAnyH_ready (rs := [12]) (by kernel_rfl) (by simp) ?_
            refine AllReadyH.cons rfl (fun K hK => ?_) AllReadyH.nil
            refine Tr.wanted_plain rfl ?_
            refine store_mid0 rfl 60 _ _ rfl (wc8.heap.size) 0 #[.slice A6 n6 c6] (by rfl) (by rfl) (by have h := there_blk KA10.out; exact h) Tryz.sizeRg (by simp [Value.oneCell']) ?_
            have xK := blk_puts1 (.slice A6 n6 c6) KA10.out
            have xB := bsets HBW.out HL10.out (#[.slice A6 n6 c6] : Array Value).toList 0
            have xA9 := KA9.out.farCells (HN9_10.out) (#[.slice A6 n6 c6] : Array Value).toList 0
            have xHKP := (show RegP (World.setCells (wS11) (wc8.heap.size) 0 (#[.slice A6 n6 c6] : Array Value).toList) _ _ from HKP.out.sets1 KA10.out)
            have xHNP := (show RegP (World.setCells (wS11) (wc8.heap.size) 0 (#[.slice A6 n6 c6] : Array Value).toList) _ _ from HNP.out.sets1 KA10.out)
            have xHLP := (show RegP (World.setCells (wS11) (wc8.heap.size) 0 (#[.slice A6 n6 c6] : Array Value).toList) _ _ from HLP.out.sets1 KA10.out)
            obtain ⟨wS12, hwS⟩ : ∃ wS, World.setCells wS11 (wc8.heap.size) 0 (#[.slice A6 n6 c6] : Array Value).toList = wS := ⟨_, rfl⟩
            rw [hwS] at xK xB xA9 xHKP xHNP xHLP ⊢
            replace HBW := Lib.hid xB
            replace KA10 := Lib.hid xK
            replace KA9 := Lib.hid xA9
            replace HKP := Lib.hid xHKP
            replace HNP := Lib.hid xHNP
            replace HLP := Lib.hid xHLP
            clear hwS xK xB xA9 xHKP xHNP xHLP
            refine hK.out _ _ ?_ (fun hHeld => ?_)
            · (try dsimp only)
              exact ⟨(K7.out.belowS HBW.out).cellV (i := 0) rfl, (K7.out.belowS HBW.out).cellV (i := 1) rfl, (K8.out.belowS HBW.out).cellV (i := 0) rfl, (K8.out.belowS HBW.out).cellV (i := 1) rfl, (K5.out.belowS HBW.out).cellV (i := 0) rfl, (K5.out.belowS HBW.out).cellV (i := 1) rfl, (K5.out.belowS HBW.out).cellV (i := 2) rfl⟩
            clear hK K
            refine wpAnyH_done (by kernel_rfl) ?_ _
            refine NoPanic.normal ?_
            go_wp2_with fail
            go_meet
            exact ⟨_, _, A3, n3, c3, A4, n4, c4, A6, n6, c6, rfl, rfl, KA9.out, KA10.out, HKP.out, HNP.out, HLP.out, HBW.out⟩
          ·
            go_simp
            have HN9_10 := Lib.hid (show wc4.heap.size ≠ wc4.heap.size + 1 from by have h := KA9.out.lt; rw [show ((wc4.alloc (.cells #[.int .u32 0, .slice none 0 0, .slice none 0 0] 93))).heap.size = wc4.heap.size + 1 from (show ((wc4.alloc (.cells #[.int .u32 0, .slice none 0 0, .slice none 0 0] 93))).heap.size = wc4.heap.size + 1 by simp)] at h; exact Nat.ne_of_lt h)
            have KA10 := Lib.hid (show Blk ((wc4.alloc (.cells #[.int .u32 0, .slice none 0 0, .slice none 0 0] 93)).alloc (.cells #[.slice none 0 0] 60)) (wc4.heap.size + 1) 60 #[.slice none 0 0] from by have h := Blk.new ((wc4.alloc (.cells #[.int .u32 0, .slice none 0 0, .slice none 0 0] 93))) 60 #[.slice none 0 0]; rw [show ((wc4.alloc (.cells #[.int .u32 0, .slice none 0 0, .slice none 0 0] 93))).heap.size = wc4.heap.size + 1 from (show ((wc4.alloc (.cells #[.int .u32 0, .slice none 0 0, .slice none 0 0] 93))).heap.size = wc4.heap.size + 1 by simp)] at h; exact h)
            have HL10 := Lib.hid (show X4.heap.size ≤ wc4.heap.size + 1 from by have h := HBW.out.size; rw [show ((wc4.alloc (.cells #[.int .u32 0, .slice none 0 0, .slice none 0 0] 93))).heap.size = wc4.heap.size + 1 from (show ((wc4.alloc (.cells #[.int .u32 0, .slice none 0 0, .slice none 0 0] 93))).heap.size = wc4.heap.size + 1 by simp)] at h; exact h)
            have hbA : Below (wc4.alloc (.cells #[.int .u32 0, .slice none 0 0, .slice none 0 0] 93)).heap.size (wc4.alloc (.cells #[.int .u32 0, .slice none 0 0, .slice none 0 0] 93)) (((wc4.alloc (.cells #[.int .u32 0, .slice none 0 0, .slice none 0 0] 93)).alloc (.cells #[.slice none 0 0] 60))) := bal (bre (wc4.alloc (.cells #[.int .u32 0, .slice none 0 0, .slice none 0 0] 93))) (.cells #[.slice none 0 0] 60)
            replace HBW := Lib.hid (bstep HBW.out hbA)
            replace KA9 := Lib.hid (KA9.out.belowS hbA)
            replace HKP := Lib.hid (HKP.out.below hbA)
            replace HNP := Lib.hid (HNP.out.below hbA)
            clear hbA
            refine hK.out _ _ ?_ (fun hHeld => ?_)
            · (try dsimp only)
              exact ⟨(K7.out.belowS HBW.out).cellV (i := 0) rfl, (K7.out.belowS HBW.out).cellV (i := 1) rfl, (K8.out.belowS HBW.out).cellV (i := 0) rfl, (K8.out.belowS HBW.out).cellV (i := 1) rfl, (K5.out.belowS HBW.out).cellV (i := 0) rfl, (K5.out.belowS HBW.out).cellV (i := 1) rfl, (K5.out.belowS HBW.out).cellV (i := 2) rfl⟩
            clear hK K
            refine wpAnyH_ready (rs := [8]) (by kernel_rfl) (by simp) ?_
            refine AllReadyH.cons rfl (fun K hK => ?_) AllReadyH.nil
            go_simp
            refine (lostP_any i (HA.out.below HBW.out) (HC.out.below HBW.out) HI.out).mono ?_
            rintro e wc8 ⟨u, rfl, hr, hbA⟩
            obtain ⟨A6, n6, c6, rfl⟩ := hr.form
            have HLP := Lib.hid hr
            clear hr
            replace HBW := Lib.hid (bstep HBW.out hbA)
            replace KA9 := Lib.hid (KA9.out.belowS hbA)
            replace KA10 := Lib.hid (KA10.out.belowS hbA)
            replace HKP := Lib.hid (HKP.out.below hbA)
            replace HNP := Lib.hid (HNP.out.below hbA)
            clear hbA
            go_simp
            refine hK.out _ _ ?_ (fun hHeld => ?_)
            · (try dsimp only)
              exact ⟨(K7.out.belowS HBW.out).cellV (i := 0) rfl, (K7.out.belowS HBW.out).cellV (i := 1) rfl, (K8.out.belowS HBW.out).cellV (i := 0) rfl, (K8.out.belowS HBW.out).cellV (i := 1) rfl, (K5.out.belowS HBW.out).cellV (i := 0) rfl, (K5.out.belowS HBW.out).cellV (i := 1) rfl, (K5.out.belowS HBW.out).cellV (i := 2) rfl⟩
            clear hK K
            refine wpAnyH_ready (rs := [11]) (by kernel_rfl) (by simp) ?_
            refine AllReadyH.cons rfl (fun K hK => ?_) AllReadyH.nil
            refine Tr.wanted_plain rfl ?_
            refine store_mid0 rfl 93 _ _ rfl (wc4.heap.size) 0 #[.int .u32 i, .slice A3 n3 c3, .slice A4 n4 c4] (by rfl) (by rfl) (by have h := there_blk KA9.out; exact h) Tryz.sizeCh (by simp [Value.oneCell']) ?_
            have xK := put3 (.int .u32 i) (.slice A3 n3 c3) (.slice A4 n4 c4) KA9.out
            have xB := bsets HBW.out HL9.out (#[.int .u32 i, .slice A3 n3 c3, .slice A4 n4 c4] : Array Value).toList 0
            have xA10 := KA10.out.farCells (HN9_10.out.symm) (#[.int .u32 i, .slice A3 n3 c3, .slice A4 n4 c4] : Array Value).toList 0
            have xHKP := (show RegP (World.setCells (wc8) (wc4.heap.size) 0 (#[.int .u32 i, .slice A3 n3 c3, .slice A4 n4 c4] : Array Value).toList) _ _ from HKP.out.sets3 KA9.out)
            have xHNP := (show RegP (World.setCells (wc8) (wc4.heap.size) 0 (#[.int .u32 i, .slice A3 n3 c3, .slice A4 n4 c4] : Array Value).toList) _ _ from HNP.out.sets3 KA9.out)
            have xHLP := (show RegP (World.setCells (wc8) (wc4.heap.size) 0 (#[.int .u32 i, .slice A3 n3 c3, .slice A4 n4 c4] : Array Value).toList) _ _ from HLP.out.sets3 KA9.out)
            obtain ⟨wS11, hwS⟩ : ∃ wS, World.setCells wc8 (wc4.heap.size) 0 (#[.int .u32 i, .slice A3 n3 c3, .slice A4 n4 c4] : Array Value).toList = wS := ⟨_, rfl⟩
            rw [hwS] at xK xB xA10 xHKP xHNP xHLP ⊢
            replace HBW := Lib.hid xB
            replace KA9 := Lib.hid xK
            replace KA10 := Lib.hid xA10
            replace HKP := Lib.hid xHKP
            replace HNP := Lib.hid xHNP
            replace HLP := Lib.hid xHLP
            clear hwS xK xB xA10 xHKP xHNP xHLP
            refine hK.out _ _ ?_ (fun hHeld => ?_)
            · (try dsimp only)
              exact ⟨(K7.out.belowS HBW.out).cellV (i := 0) rfl, (K7.out.belowS HBW.out).cellV (i := 1) rfl, (K8.out.belowS HBW.out).cellV (i := 0) rfl, (K8.out.belowS HBW.out).cellV (i := 1) rfl, (K5.out.belowS HBW.out).cellV (i := 0) rfl, (K5.out.belowS HBW.out).cellV (i := 1) rfl, (K5.out.belowS HBW.out).cellV (i := 2) rfl⟩
            clear hK K
            refine wpAnyH_ready (rs := [12]) (by kernel_rfl) (by simp) ?_
            refine AllReadyH.cons rfl (fun K hK => ?_) AllReadyH.nil
            refine Tr.wanted_plain rfl ?_
            refine store_mid0 rfl 60 _ _ rfl (wc4.heap.size + 1) 0 #[.slice A6 n6 c6] (by rfl) (by rfl) (by have h := there_blk KA10.out; exact h) Tryz.sizeRg (by simp [Value.oneCell']) ?_
            have xK := blk_puts1 (.slice A6 n6 c6) KA10.out
            have xB := bsets HBW.out HL10.out (#[.slice A6 n6 c6] : Array Value).toList 0
            have xA9 := KA9.out.farCells (HN9_10.out) (#[.slice A6 n6 c6] : Array Value).toList 0
            have xHKP := (show RegP (World.setCells (wS11) (wc4.heap.size + 1) 0 (#[.slice A6 n6 c6] : Array Value).toList) _ _ from HKP.out.sets1 KA10.out)
            have xHNP := (show RegP (World.setCells (wS11) (wc4.heap.size + 1) 0 (#[.slice A6 n6 c6] : Array Value).toList) _ _ from HNP.out.sets1 KA10.out)
            have xHLP := (show RegP (World.setCells (wS11) (wc4.heap.size + 1) 0 (#[.slice A6 n6 c6] : Array Value).toList) _ _ from HLP.out.sets1 KA10.out)
            obtain ⟨wS12, hwS⟩ : ∃ wS, World.setCells wS11 (wc4.heap.size + 1) 0 (#[.slice A6 n6 c6] : Array Value).toList = wS := ⟨_, rfl⟩
            rw [hwS] at xK xB xA9 xHKP xHNP xHLP ⊢
            replace HBW := Lib.hid xB
            replace KA10 := Lib.hid xK
            replace KA9 := Lib.hid xA9
            replace HKP := Lib.hid xHKP
            replace HNP := Lib.hid xHNP
            replace HLP := Lib.hid xHLP
            clear hwS xK xB xA9 xHKP xHNP xHLP
            refine hK.out _ _ ?_ (fun hHeld => ?_)
            · (try dsimp only)
              exact ⟨(K7.out.belowS HBW.out).cellV (i := 0) rfl, (K7.out.belowS HBW.out).cellV (i := 1) rfl, (K8.out.belowS HBW.out).cellV (i := 0) rfl, (K8.out.belowS HBW.out).cellV (i := 1) rfl, (K5.out.belowS HBW.out).cellV (i := 0) rfl, (K5.out.belowS HBW.out).cellV (i := 1) rfl, (K5.out.belowS HBW.out).cellV (i := 2) rfl⟩
            clear hK K
            refine wpAnyH_done (by kernel_rfl) ?_ _
            refine NoPanic.normal ?_
            go_wp2_with fail
            go_meet
            exact ⟨_, _, A3, n3, c3, A4, n4, c4, A6, n6, c6, rfl, rfl, KA9.out, KA10.out, HKP.out, HNP.out, HLP.out, HBW.out⟩
        ·
          go_simp
          have KA10 := Lib.hid (show Blk (wc4.alloc (.cells #[.slice none 0 0] 60)) (wc4.heap.size) 60 #[.slice none 0 0] from Blk.new wc4 60 #[.slice none 0 0])
          have HL10 := Lib.hid (show X4.heap.size ≤ wc4.heap.size from HBW.out.size)
          have hbA : Below wc4.heap.size wc4 ((wc4.alloc (.cells #[.slice none 0 0] 60))) := bal (bre wc4) (.cells #[.slice none 0 0] 60)
          replace HBW := Lib.hid (bstep HBW.out hbA)
          replace HKP := Lib.hid (HKP.out.below hbA)
          replace HNP := Lib.hid (HNP.out.below hbA)
          clear hbA
          refine hK.out _ _ ?_ (fun hHeld => ?_)
          · (try dsimp only)
            exact ⟨(K7.out.belowS HBW.out).cellV (i := 0) rfl, (K7.out.belowS HBW.out).cellV (i := 1) rfl, (K8.out.belowS HBW.out).cellV (i := 0) rfl, (K8.out.belowS HBW.out).cellV (i := 1) rfl, (K5.out.belowS HBW.out).cellV (i := 0) rfl, (K5.out.belowS HBW.out).cellV (i := 1) rfl, (K5.out.belowS HBW.out).cellV (i := 2) rfl⟩
          clear hK K
          refine wpAnyH_ready (rs := [8, 9]) (by kernel_rfl) (by simp) ?_
          refine AllReadyH.cons rfl (fun K hK => ?_) (AllReadyH.cons rfl (fun K hK => ?_) AllReadyH.nil)
          ·
            go_simp
            refine (lostP_any i (HA.out.below HBW.out) (HC.out.below HBW.out) HI.out).mono ?_
            rintro e wc8 ⟨u, rfl, hr, hbA⟩
            obtain ⟨A6, n6, c6, rfl⟩ := hr.form
            have HLP := Lib.hid hr
            clear hr
            replace HBW := Lib.hid (bstep HBW.out hbA)
            replace KA10 := Lib.hid (KA10.out.belowS hbA)
            replace HKP := Lib.hid (HKP.out.below hbA)
            replace HNP := Lib.hid (HNP.out.below hbA)
            clear hbA
            go_simp
            refine hK.out _ _ ?_ (fun hHeld => ?_)
            · (try dsimp only)
              exact ⟨(K7.out.belowS HBW.out).cellV (i := 0) rfl, (K7.out.belowS HBW.out).cellV (i := 1) rfl, (K8.out.belowS HBW.out).cellV (i := 0) rfl, (K8.out.belowS HBW.out).cellV (i := 1) rfl, (K5.out.belowS HBW.out).cellV (i := 0) rfl, (K5.out.belowS HBW.out).cellV (i := 1) rfl, (K5.out.belowS HBW.out).cellV (i := 2) rfl⟩
            clear hK K
            refine wpAnyH_ready (rs := [9]) (by kernel_rfl) (by simp) ?_
            refine AllReadyH.cons rfl (fun K hK => ?_) AllReadyH.nil
            go_simp
            have HN10_9 := Lib.hid (Nat.ne_of_lt KA10.out.lt)
            have KA9 := Lib.hid (show Blk (wc8.alloc (.cells #[.int .u32 0, .slice none 0 0, .slice none 0 0] 93)) (wc8.heap.size) 93 #[.int .u32 0, .slice none 0 0, .slice none 0 0] from Blk.new wc8 93 #[.int .u32 0, .slice none 0 0, .slice none 0 0])
            have HL9 := Lib.hid (show X4.heap.size ≤ wc8.heap.size from HBW.out.size)
            have hbA : Below wc8.heap.size wc8 ((wc8.alloc (.cells #[.int .u32 0, .slice none 0 0, .slice none 0 0] 93))) := bal (bre wc8) (.cells #[.int .u32 0, .slice none 0 0, .slice none 0 0] 93)
            replace HBW := Lib.hid (bstep HBW.out hbA)
            replace KA10 := Lib.hid (KA10.out.belowS hbA)
            replace HKP := Lib.hid (HKP.out.below hbA)
            replace HNP := Lib.hid (HNP.out.below hbA)
            replace HLP := Lib.hid (HLP.out.below hbA)
            clear hbA
            refine hK.out _ _ ?_ (fun hHeld => ?_)
            · (try dsimp only)
              exact ⟨(K7.out.belowS HBW.out).cellV (i := 0) rfl, (K7.out.belowS HBW.out).cellV (i := 1) rfl, (K8.out.belowS HBW.out).cellV (i := 0) rfl, (K8.out.belowS HBW.out).cellV (i := 1) rfl, (K5.out.belowS HBW.out).cellV (i := 0) rfl, (K5.out.belowS HBW.out).cellV (i := 1) rfl, (K5.out.belowS HBW.out).cellV (i := 2) rfl⟩
            clear hK K
            refine wpAnyH_ready (rs := [11]) (by kernel_rfl) (by simp) ?_
            refine AllReadyH.cons rfl (fun K hK => ?_) AllReadyH.nil
            refine Tr.wanted_plain rfl ?_
            refine store_mid0 rfl 93 _ _ rfl (wc8.heap.size) 0 #[.int .u32 i, .slice A3 n3 c3, .slice A4 n4 c4] (by rfl) (by rfl) (by have h := there_blk KA9.out; exact h) Tryz.sizeCh (by simp [Value.oneCell']) ?_
            have xK := put3 (.int .u32 i) (.slice A3 n3 c3) (.slice A4 n4 c4) KA9.out
            have xB := bsets HBW.out HL9.out (#[.int .u32 i, .slice A3 n3 c3, .slice A4 n4 c4] : Array Value).toList 0
            have xA10 := KA10.out.farCells (HN10_9.out) (#[.int .u32 i, .slice A3 n3 c3, .slice A4 n4 c4] : Array Value).toList 0
            have xHKP := (show RegP (World.setCells (wc8.alloc (.cells #[.int .u32 0, .slice none 0 0, .slice none 0 0] 93)) (wc8.heap.size) 0 (#[.int .u32 i, .slice A3 n3 c3, .slice A4 n4 c4] : Array Value).toList) _ _ from HKP.out.sets3 KA9.out)
            have xHNP := (show RegP (World.setCells (wc8.alloc (.cells #[.int .u32 0, .slice none 0 0, .slice none 0 0] 93)) (wc8.heap.size) 0 (#[.int .u32 i, .slice A3 n3 c3, .slice A4 n4 c4] : Array Value).toList) _ _ from HNP.out.sets3 KA9.out)
            have xHLP := (show RegP (World.setCells (wc8.alloc (.cells #[.int .u32 0, .slice none 0 0, .slice none 0 0] 93)) (wc8.heap.size) 0 (#[.int .u32 i, .slice A3 n3 c3, .slice A4 n4 c4] : Array Value).toList) _ _ from HLP.out.sets3 KA9.out)
            obtain ⟨wS11, hwS⟩ : ∃ wS, World.setCells (wc8.alloc (.cells #[.int .u32 0, .slice none 0 0, .slice none 0 0] 93)) (wc8.heap.size) 0 (#[.int .u32 i, .slice A3 n3 c3, .slice A4 n4 c4] : Array Value).toList = wS := ⟨_, rfl⟩
            rw [hwS] at xK xB xA10 xHKP xHNP xHLP ⊢
            replace HBW := Lib.hid xB
            replace KA9 := Lib.hid xK
            replace KA10 := Lib.hid xA10
            replace HKP := Lib.hid xHKP
            replace HNP := Lib.hid xHNP
            replace HLP := Lib.hid xHLP
            clear hwS xK xB xA10 xHKP xHNP xHLP
            refine hK.out _ _ ?_ (fun hHeld => ?_)
            · (try dsimp only)
              exact ⟨(K7.out.belowS HBW.out).cellV (i := 0) rfl, (K7.out.belowS HBW.out).cellV (i := 1) rfl, (K8.out.belowS HBW.out).cellV (i := 0) rfl, (K8.out.belowS HBW.out).cellV (i := 1) rfl, (K5.out.belowS HBW.out).cellV (i := 0) rfl, (K5.out.belowS HBW.out).cellV (i := 1) rfl, (K5.out.belowS HBW.out).cellV (i := 2) rfl⟩
            clear hK K
            refine wpAnyH_ready (rs := [12]) (by kernel_rfl) (by simp) ?_
            refine AllReadyH.cons rfl (fun K hK => ?_) AllReadyH.nil
            refine Tr.wanted_plain rfl ?_
            refine store_mid0 rfl 60 _ _ rfl (wc4.heap.size) 0 #[.slice A6 n6 c6] (by rfl) (by rfl) (by have h := there_blk KA10.out; exact h) Tryz.sizeRg (by simp [Value.oneCell']) ?_
            have xK := blk_puts1 (.slice A6 n6 c6) KA10.out
            have xB := bsets HBW.out HL10.out (#[.slice A6 n6 c6] : Array Value).toList 0
            have xA9 := KA9.out.farCells (HN10_9.out.symm) (#[.slice A6 n6 c6] : Array Value).toList 0
            have xHKP := (show RegP (World.setCells (wS11) (wc4.heap.size) 0 (#[.slice A6 n6 c6] : Array Value).toList) _ _ from HKP.out.sets1 KA10.out)
            have xHNP := (show RegP (World.setCells (wS11) (wc4.heap.size) 0 (#[.slice A6 n6 c6] : Array Value).toList) _ _ from HNP.out.sets1 KA10.out)
            have xHLP := (show RegP (World.setCells (wS11) (wc4.heap.size) 0 (#[.slice A6 n6 c6] : Array Value).toList) _ _ from HLP.out.sets1 KA10.out)
            obtain ⟨wS12, hwS⟩ : ∃ wS, World.setCells wS11 (wc4.heap.size) 0 (#[.slice A6 n6 c6] : Array Value).toList = wS := ⟨_, rfl⟩
            rw [hwS] at xK xB xA9 xHKP xHNP xHLP ⊢
            replace HBW := Lib.hid xB
            replace KA10 := Lib.hid xK
            replace KA9 := Lib.hid xA9
            replace HKP := Lib.hid xHKP
            replace HNP := Lib.hid xHNP
            replace HLP := Lib.hid xHLP
            clear hwS xK xB xA9 xHKP xHNP xHLP
            refine hK.out _ _ ?_ (fun hHeld => ?_)
            · (try dsimp only)
              exact ⟨(K7.out.belowS HBW.out).cellV (i := 0) rfl, (K7.out.belowS HBW.out).cellV (i := 1) rfl, (K8.out.belowS HBW.out).cellV (i := 0) rfl, (K8.out.belowS HBW.out).cellV (i := 1) rfl, (K5.out.belowS HBW.out).cellV (i := 0) rfl, (K5.out.belowS HBW.out).cellV (i := 1) rfl, (K5.out.belowS HBW.out).cellV (i := 2) rfl⟩
            clear hK K
            refine wpAnyH_done (by kernel_rfl) ?_ _
            refine NoPanic.normal ?_
            go_wp2_with fail
            go_meet
            exact ⟨_, _, A3, n3, c3, A4, n4, c4, A6, n6, c6, rfl, rfl, KA9.out, KA10.out, HKP.out, HNP.out, HLP.out, HBW.out⟩
          ·
            go_simp
            have HN10_9 := Lib.hid (show wc4.heap.size ≠ wc4.heap.size + 1 from by have h := KA10.out.lt; rw [show ((wc4.alloc (.cells #[.slice none 0 0] 60))).heap.size = wc4.heap.size + 1 from (show ((wc4.alloc (.cells #[.slice none 0 0] 60))).heap.size = wc4.heap.size + 1 by simp)] at h; exact Nat.ne_of_lt h)
            have KA9 := Lib.hid (show Blk ((wc4.alloc (.cells #[.slice none 0 0] 60)).alloc (.cells #[.int .u32 0, .slice none 0 0, .slice none 0 0] 93)) (wc4.heap.size + 1) 93 #[.int .u32 0, .slice none 0 0, .slice none 0 0] from by have h := Blk.new ((wc4.alloc (.cells #[.slice none 0 0] 60))) 93 #[.int .u32 0, .slice none 0 0, .slice none 0 0]; rw [show ((wc4.alloc (.cells #[.slice none 0 0] 60))).heap.size = wc4.heap.size + 1 from (show ((wc4.alloc (.cells #[.slice none 0 0] 60))).heap.size = wc4.heap.size + 1 by simp)] at h; exact h)
            have HL9 := Lib.hid (show X4.heap.size ≤ wc4.heap.size + 1 from by have h := HBW.out.size; rw [show ((wc4.alloc (.cells #[.slice none 0 0] 60))).heap.size = wc4.heap.size + 1 from (show ((wc4.alloc (.cells #[.slice none 0 0] 60))).heap.size = wc4.heap.size + 1 by simp)] at h; exact h)
            have hbA : Below (wc4.alloc (.cells #[.slice none 0 0] 60)).heap.size (wc4.alloc (.cells #[.slice none 0 0] 60)) (((wc4.alloc (.cells #[.slice none 0 0] 60)).alloc (.cells #[.int .u32 0, .slice none 0 0, .slice none 0 0] 93))) := bal (bre (wc4.alloc (.cells #[.slice none 0 0] 60))) (.cells #[.int .u32 0, .slice none 0 0, .slice none 0 0] 93)
            replace HBW := Lib.hid (bstep HBW.out hbA)
            replace KA10 := Lib.hid (KA10.out.belowS hbA)
            replace HKP := Lib.hid (HKP.out.below hbA)
            replace HNP := Lib.hid (HNP.out.below hbA)
            clear hbA
            refine hK.out _ _ ?_ (fun hHeld => ?_)
            · (try dsimp only)
              exact ⟨(K7.out.belowS HBW.out).cellV (i := 0) rfl, (K7.out.belowS HBW.out).cellV (i := 1) rfl, (K8.out.belowS HBW.out).cellV (i := 0) rfl, (K8.out.belowS HBW.out).cellV (i := 1) rfl, (K5.out.belowS HBW.out).cellV (i := 0) rfl, (K5.out.belowS HBW.out).cellV (i := 1) rfl, (K5.out.belowS HBW.out).cellV (i := 2) rfl⟩
            clear hK K
            refine wpAnyH_ready (rs := [8]) (by kernel_rfl) (by simp) ?_
            refine AllReadyH.cons rfl (fun K hK => ?_) AllReadyH.nil
            go_simp
            refine (lostP_any i (HA.out.below HBW.out) (HC.out.below HBW.out) HI.out).mono ?_
            rintro e wc8 ⟨u, rfl, hr, hbA⟩
            obtain ⟨A6, n6, c6, rfl⟩ := hr.form
            have HLP := Lib.hid hr
            clear hr
            replace HBW := Lib.hid (bstep HBW.out hbA)
            replace KA10 := Lib.hid (KA10.out.belowS hbA)
            replace KA9 := Lib.hid (KA9.out.belowS hbA)
            replace HKP := Lib.hid (HKP.out.below hbA)
            replace HNP := Lib.hid (HNP.out.below hbA)
            clear hbA
            go_simp
            refine hK.out _ _ ?_ (fun hHeld => ?_)
            · (try dsimp only)
              exact ⟨(K7.out.belowS HBW.out).cellV (i := 0) rfl, (K7.out.belowS HBW.out).cellV (i := 1) rfl, (K8.out.belowS HBW.out).cellV (i := 0) rfl, (K8.out.belowS HBW.out).cellV (i := 1) rfl, (K5.out.belowS HBW.out).cellV (i := 0) rfl, (K5.out.belowS HBW.out).cellV (i := 1) rfl, (K5.out.belowS HBW.out).cellV (i := 2) rfl⟩
            clear hK K
            refine wpAnyH_ready (rs := [11]) (by kernel_rfl) (by simp) ?_
            refine AllReadyH.cons rfl (fun K hK => ?_) AllReadyH.nil
            refine Tr.wanted_plain rfl ?_
            refine store_mid0 rfl 93 _ _ rfl (wc4.heap.size + 1) 0 #[.int .u32 i, .slice A3 n3 c3, .slice A4 n4 c4] (by rfl) (by rfl) (by have h := there_blk KA9.out; exact h) Tryz.sizeCh (by simp [Value.oneCell']) ?_
            have xK := put3 (.int .u32 i) (.slice A3 n3 c3) (.slice A4 n4 c4) KA9.out
            have xB := bsets HBW.out HL9.out (#[.int .u32 i, .slice A3 n3 c3, .slice A4 n4 c4] : Array Value).toList 0
            have xA10 := KA10.out.farCells (HN10_9.out) (#[.int .u32 i, .slice A3 n3 c3, .slice A4 n4 c4] : Array Value).toList 0
            have xHKP := (show RegP (World.setCells (wc8) (wc4.heap.size + 1) 0 (#[.int .u32 i, .slice A3 n3 c3, .slice A4 n4 c4] : Array Value).toList) _ _ from HKP.out.sets3 KA9.out)
            have xHNP := (show RegP (World.setCells (wc8) (wc4.heap.size + 1) 0 (#[.int .u32 i, .slice A3 n3 c3, .slice A4 n4 c4] : Array Value).toList) _ _ from HNP.out.sets3 KA9.out)
            have xHLP := (show RegP (World.setCells (wc8) (wc4.heap.size + 1) 0 (#[.int .u32 i, .slice A3 n3 c3, .slice A4 n4 c4] : Array Value).toList) _ _ from HLP.out.sets3 KA9.out)
            obtain ⟨wS11, hwS⟩ : ∃ wS, World.setCells wc8 (wc4.heap.size + 1) 0 (#[.int .u32 i, .slice A3 n3 c3, .slice A4 n4 c4] : Array Value).toList = wS := ⟨_, rfl⟩
            rw [hwS] at xK xB xA10 xHKP xHNP xHLP ⊢
            replace HBW := Lib.hid xB
            replace KA9 := Lib.hid xK
            replace KA10 := Lib.hid xA10
            replace HKP := Lib.hid xHKP
            replace HNP := Lib.hid xHNP
            replace HLP := Lib.hid xHLP
            clear hwS xK xB xA10 xHKP xHNP xHLP
            refine hK.out _ _ ?_ (fun hHeld => ?_)
            · (try dsimp only)
              exact ⟨(K7.out.belowS HBW.out).cellV (i := 0) rfl, (K7.out.belowS HBW.out).cellV (i := 1) rfl, (K8.out.belowS HBW.out).cellV (i := 0) rfl, (K8.out.belowS HBW.out).cellV (i := 1) rfl, (K5.out.belowS HBW.out).cellV (i := 0) rfl, (K5.out.belowS HBW.out).cellV (i := 1) rfl, (K5.out.belowS HBW.out).cellV (i := 2) rfl⟩
            clear hK K
            refine wpAnyH_ready (rs := [12]) (by kernel_rfl) (by simp) ?_
            refine AllReadyH.cons rfl (fun K hK => ?_) AllReadyH.nil
            refine Tr.wanted_plain rfl ?_
            refine store_mid0 rfl 60 _ _ rfl (wc4.heap.size) 0 #[.slice A6 n6 c6] (by rfl) (by rfl) (by have h := there_blk KA10.out; exact h) Tryz.sizeRg (by simp [Value.oneCell']) ?_
            have xK := blk_puts1 (.slice A6 n6 c6) KA10.out
            have xB := bsets HBW.out HL10.out (#[.slice A6 n6 c6] : Array Value).toList 0
            have xA9 := KA9.out.farCells (HN10_9.out.symm) (#[.slice A6 n6 c6] : Array Value).toList 0
            have xHKP := (show RegP (World.setCells (wS11) (wc4.heap.size) 0 (#[.slice A6 n6 c6] : Array Value).toList) _ _ from HKP.out.sets1 KA10.out)
            have xHNP := (show RegP (World.setCells (wS11) (wc4.heap.size) 0 (#[.slice A6 n6 c6] : Array Value).toList) _ _ from HNP.out.sets1 KA10.out)
            have xHLP := (show RegP (World.setCells (wS11) (wc4.heap.size) 0 (#[.slice A6 n6 c6] : Array Value).toList) _ _ from HLP.out.sets1 KA10.out)
            obtain ⟨wS12, hwS⟩ : ∃ wS, World.setCells wS11 (wc4.heap.size) 0 (#[.slice A6 n6 c6] : Array Value).toList = wS := ⟨_, rfl⟩
            rw [hwS] at xK xB xA9 xHKP xHNP xHLP ⊢
            replace HBW := Lib.hid xB
            replace KA10 := Lib.hid xK
            replace KA9 := Lib.hid xA9
            replace HKP := Lib.hid xHKP
            replace HNP := Lib.hid xHNP
            replace HLP := Lib.hid xHLP
            clear hwS xK xB xA9 xHKP xHNP xHLP
            refine hK.out _ _ ?_ (fun hHeld => ?_)
            · (try dsimp only)
              exact ⟨(K7.out.belowS HBW.out).cellV (i := 0) rfl, (K7.out.belowS HBW.out).cellV (i := 1) rfl, (K8.out.belowS HBW.out).cellV (i := 0) rfl, (K8.out.belowS HBW.out).cellV (i := 1) rfl, (K5.out.belowS HBW.out).cellV (i := 0) rfl, (K5.out.belowS HBW.out).cellV (i := 1) rfl, (K5.out.belowS HBW.out).cellV (i := 2) rfl⟩
            clear hK K
            refine wpAnyH_done (by kernel_rfl) ?_ _
            refine NoPanic.normal ?_
            go_wp2_with fail
            go_meet
            exact ⟨_, _, A3, n3, c3, A4, n4, c4, A6, n6, c6, rfl, rfl, KA9.out, KA10.out, HKP.out, HNP.out, HLP.out, HBW.out⟩
      ·
        go_simp
        have KA9 := Lib.hid (show Blk (X4.alloc (.cells #[.int .u32 0, .slice none 0 0, .slice none 0 0] 93)).drew (X4.heap.size) 93 #[.int .u32 0, .slice none 0 0, .slice none 0 0] from Blk.new X4.drew 93 #[.int .u32 0, .slice none 0 0, .slice none 0 0])
        have HL9 := Lib.hid (show X4.heap.size ≤ X4.heap.size from HBW.out.size)
        have hbA : Below X4.drew.heap.size X4.drew ((X4.alloc (.cells #[.int .u32 0, .slice none 0 0, .slice none 0 0] 93)).drew) := bal (bre X4.drew) (.cells #[.int .u32 0, .slice none 0 0, .slice none 0 0] 93)
        replace HBW := Lib.hid (bstep HBW.out hbA)
        clear hbA
        refine hK.out _ _ ?_ (fun hHeld => ?_)
        · (try dsimp only)
          exact ⟨(K7.out.belowS HBW.out).cellV (i := 0) rfl, (K7.out.belowS HBW.out).cellV (i := 1) rfl, (K8.out.belowS HBW.out).cellV (i := 0) rfl, (K8.out.belowS HBW.out).cellV (i := 1) rfl, (K5.out.belowS HBW.out).cellV (i := 0) rfl, (K5.out.belowS HBW.out).cellV (i := 1) rfl, (K5.out.belowS HBW.out).cellV (i := 2) rfl⟩
        clear hK K
        refine wpAnyH_ready (rs := [4, 10]) (by kernel_rfl) (by simp) ?_
        refine AllReadyH.cons rfl (fun K hK => ?_) (AllReadyH.cons rfl (fun K hK => ?_) AllReadyH.nil)
        ·
          go_simp
          refine (one_any i dx dy F (HA.out.below HBW.out) (HC.out.below HBW.out) HI.out (by have := HSM.out; omega)).mono ?_
          rintro e wc4 ⟨A3, n3, c3, A4, n4, c4, rfl, hk4, hn4, hbA⟩
          have HKP := Lib.hid hk4
          have HNP := Lib.hid hn4
          clear hk4 hn4
          replace HBW := Lib.hid (bstep HBW.out hbA)
          replace KA9 := Lib.hid (KA9.out.belowS hbA)
          clear hbA
          go_simp
          refine hK.out _ _ ?_ (fun hHeld => ?_)
          · (try dsimp only)
            exact ⟨(K7.out.belowS HBW.out).cellV (i := 0) rfl, (K7.out.belowS HBW.out).cellV (i := 1) rfl, (K8.out.belowS HBW.out).cellV (i := 0) rfl, (K8.out.belowS HBW.out).cellV (i := 1) rfl, (K5.out.belowS HBW.out).cellV (i := 0) rfl, (K5.out.belowS HBW.out).cellV (i := 1) rfl, (K5.out.belowS HBW.out).cellV (i := 2) rfl⟩
          clear hK K
          refine wpAnyH_ready (rs := [8, 10]) (by kernel_rfl) (by simp) ?_
          refine AllReadyH.cons rfl (fun K hK => ?_) (AllReadyH.cons rfl (fun K hK => ?_) AllReadyH.nil)
          ·
            go_simp
            refine (lostP_any i (HA.out.below HBW.out) (HC.out.below HBW.out) HI.out).mono ?_
            rintro e wc8 ⟨u, rfl, hr, hbA⟩
            obtain ⟨A6, n6, c6, rfl⟩ := hr.form
            have HLP := Lib.hid hr
            clear hr
            replace HBW := Lib.hid (bstep HBW.out hbA)
            replace KA9 := Lib.hid (KA9.out.belowS hbA)
            replace HKP := Lib.hid (HKP.out.below hbA)
            replace HNP := Lib.hid (HNP.out.below hbA)
            clear hbA
            go_simp
            refine hK.out _ _ ?_ (fun hHeld => ?_)
            · (try dsimp only)
              exact ⟨(K7.out.belowS HBW.out).cellV (i := 0) rfl, (K7.out.belowS HBW.out).cellV (i := 1) rfl, (K8.out.belowS HBW.out).cellV (i := 0) rfl, (K8.out.belowS HBW.out).cellV (i := 1) rfl, (K5.out.belowS HBW.out).cellV (i := 0) rfl, (K5.out.belowS HBW.out).cellV (i := 1) rfl, (K5.out.belowS HBW.out).cellV (i := 2) rfl⟩
            clear hK K
            refine wpAnyH_ready (rs := [10]) (by kernel_rfl) (by simp) ?_
            refine AllReadyH.cons rfl (fun K hK => ?_) AllReadyH.nil
            go_simp
            have HN9_10 := Lib.hid (Nat.ne_of_lt KA9.out.lt)
            have KA10 := Lib.hid (show Blk (wc8.alloc (.cells #[.slice none 0 0] 60)) (wc8.heap.size) 60 #[.slice none 0 0] from Blk.new wc8 60 #[.slice none 0 0])
            have HL10 := Lib.hid (show X4.heap.size ≤ wc8.heap.size from HBW.out.size)
            have hbA : Below wc8.heap.size wc8 ((wc8.alloc (.cells #[.slice none 0 0] 60))) := bal (bre wc8) (.cells #[.slice none 0 0] 60)
            replace HBW := Lib.hid (bstep HBW.out hbA)
            replace KA9 := Lib.hid (KA9.out.belowS hbA)
            replace HKP := Lib.hid (HKP.out.below hbA)
            replace HNP := Lib.hid (HNP.out.below hbA)
            replace HLP := Lib.hid (HLP.out.below hbA)
            clear hbA
            refine hK.out _ _ ?_ (fun hHeld => ?_)
            · (try dsimp only)
              exact ⟨(K7.out.belowS HBW.out).cellV (i := 0) rfl, (K7.out.belowS HBW.out).cellV (i := 1) rfl, (K8.out.belowS HBW.out).cellV (i := 0) rfl, (K8.out.belowS HBW.out).cellV (i := 1) rfl, (K5.out.belowS HBW.out).cellV (i := 0) rfl, (K5.out.belowS HBW.out).cellV (i := 1) rfl, (K5.out.belowS HBW.out).cellV (i := 2) rfl⟩
            clear hK K
            refine wpAnyH_ready (rs := [11]) (by kernel_rfl) (by simp) ?_
            refine AllReadyH.cons rfl (fun K hK => ?_) AllReadyH.nil
            refine Tr.wanted_plain rfl ?_
            refine store_mid0 rfl 93 _ _ rfl (X4.heap.size) 0 #[.int .u32 i, .slice A3 n3 c3, .slice A4 n4 c4] (by rfl) (by rfl) (by have h := there_blk KA9.out; exact h) Tryz.sizeCh (by simp [Value.oneCell']) ?_
            have xK := put3 (.int .u32 i) (.slice A3 n3 c3) (.slice A4 n4 c4) KA9.out
            have xB := bsets HBW.out HL9.out (#[.int .u32 i, .slice A3 n3 c3, .slice A4 n4 c4] : Array Value).toList 0
            have xA10 := KA10.out.farCells (HN9_10.out.symm) (#[.int .u32 i, .slice A3 n3 c3, .slice A4 n4 c4] : Array Value).toList 0
            have xHKP := (show RegP (World.setCells (wc8.alloc (.cells #[.slice none 0 0] 60)) (X4.heap.size) 0 (#[.int .u32 i, .slice A3 n3 c3, .slice A4 n4 c4] : Array Value).toList) _ _ from HKP.out.sets3 KA9.out)
            have xHNP := (show RegP (World.setCells (wc8.alloc (.cells #[.slice none 0 0] 60)) (X4.heap.size) 0 (#[.int .u32 i, .slice A3 n3 c3, .slice A4 n4 c4] : Array Value).toList) _ _ from HNP.out.sets3 KA9.out)
            have xHLP := (show RegP (World.setCells (wc8.alloc (.cells #[.slice none 0 0] 60)) (X4.heap.size) 0 (#[.int .u32 i, .slice A3 n3 c3, .slice A4 n4 c4] : Array Value).toList) _ _ from HLP.out.sets3 KA9.out)
            obtain ⟨wS11, hwS⟩ : ∃ wS, World.setCells (wc8.alloc (.cells #[.slice none 0 0] 60)) (X4.heap.size) 0 (#[.int .u32 i, .slice A3 n3 c3, .slice A4 n4 c4] : Array Value).toList = wS := ⟨_, rfl⟩
            rw [hwS] at xK xB xA10 xHKP xHNP xHLP ⊢
            replace HBW := Lib.hid xB
            replace KA9 := Lib.hid xK
            replace KA10 := Lib.hid xA10
            replace HKP := Lib.hid xHKP
            replace HNP := Lib.hid xHNP
            replace HLP := Lib.hid xHLP
            clear hwS xK xB xA10 xHKP xHNP xHLP
            refine hK.out _ _ ?_ (fun hHeld => ?_)
            · (try dsimp only)
              exact ⟨(K7.out.belowS HBW.out).cellV (i := 0) rfl, (K7.out.belowS HBW.out).cellV (i := 1) rfl, (K8.out.belowS HBW.out).cellV (i := 0) rfl, (K8.out.belowS HBW.out).cellV (i := 1) rfl, (K5.out.belowS HBW.out).cellV (i := 0) rfl, (K5.out.belowS HBW.out).cellV (i := 1) rfl, (K5.out.belowS HBW.out).cellV (i := 2) rfl⟩
            clear hK K
            refine wpAnyH_ready (rs := [12]) (by kernel_rfl) (by simp) ?_
            refine AllReadyH.cons rfl (fun K hK => ?_) AllReadyH.nil
            refine Tr.wanted_plain rfl ?_
            refine store_mid0 rfl 60 _ _ rfl (wc8.heap.size) 0 #[.slice A6 n6 c6] (by rfl) (by rfl) (by have h := there_blk KA10.out; exact h) Tryz.sizeRg (by simp [Value.oneCell']) ?_
            have xK := blk_puts1 (.slice A6 n6 c6) KA10.out
            have xB := bsets HBW.out HL10.out (#[.slice A6 n6 c6] : Array Value).toList 0
            have xA9 := KA9.out.farCells (HN9_10.out) (#[.slice A6 n6 c6] : Array Value).toList 0
            have xHKP := (show RegP (World.setCells (wS11) (wc8.heap.size) 0 (#[.slice A6 n6 c6] : Array Value).toList) _ _ from HKP.out.sets1 KA10.out)
            have xHNP := (show RegP (World.setCells (wS11) (wc8.heap.size) 0 (#[.slice A6 n6 c6] : Array Value).toList) _ _ from HNP.out.sets1 KA10.out)
            have xHLP := (show RegP (World.setCells (wS11) (wc8.heap.size) 0 (#[.slice A6 n6 c6] : Array Value).toList) _ _ from HLP.out.sets1 KA10.out)
            obtain ⟨wS12, hwS⟩ : ∃ wS, World.setCells wS11 (wc8.heap.size) 0 (#[.slice A6 n6 c6] : Array Value).toList = wS := ⟨_, rfl⟩
            rw [hwS] at xK xB xA9 xHKP xHNP xHLP ⊢
            replace HBW := Lib.hid xB
            replace KA10 := Lib.hid xK
            replace KA9 := Lib.hid xA9
            replace HKP := Lib.hid xHKP
            replace HNP := Lib.hid xHNP
            replace HLP := Lib.hid xHLP
            clear hwS xK xB xA9 xHKP xHNP xHLP
            refine hK.out _ _ ?_ (fun hHeld => ?_)
            · (try dsimp only)
              exact ⟨(K7.out.belowS HBW.out).cellV (i := 0) rfl, (K7.out.belowS HBW.out).cellV (i := 1) rfl, (K8.out.belowS HBW.out).cellV (i := 0) rfl, (K8.out.belowS HBW.out).cellV (i := 1) rfl, (K5.out.belowS HBW.out).cellV (i := 0) rfl, (K5.out.belowS HBW.out).cellV (i := 1) rfl, (K5.out.belowS HBW.out).cellV (i := 2) rfl⟩
            clear hK K
            refine wpAnyH_done (by kernel_rfl) ?_ _
            refine NoPanic.normal ?_
            go_wp2_with fail
            go_meet
            exact ⟨_, _, A3, n3, c3, A4, n4, c4, A6, n6, c6, rfl, rfl, KA9.out, KA10.out, HKP.out, HNP.out, HLP.out, HBW.out⟩
          ·
            go_simp
            have HN9_10 := Lib.hid (Nat.ne_of_lt KA9.out.lt)
            have KA10 := Lib.hid (show Blk (wc4.alloc (.cells #[.slice none 0 0] 60)) (wc4.heap.size) 60 #[.slice none 0 0] from Blk.new wc4 60 #[.slice none 0 0])
            have HL10 := Lib.hid (show X4.heap.size ≤ wc4.heap.size from HBW.out.size)
            have hbA : Below wc4.heap.size wc4 ((wc4.alloc (.cells #[.slice none 0 0] 60))) := bal (bre wc4) (.cells #[.slice none 0 0] 60)
            replace HBW := Lib.hid (bstep HBW.out hbA)
            replace KA9 := Lib.hid (KA9.out.belowS hbA)
            replace HKP := Lib.hid (HKP.out.below hbA)
            replace HNP := Lib.hid (HNP.out.below hbA)
            clear hbA
            refine hK.out _ _ ?_ (fun hHeld => ?_)
            · (try dsimp only)
              exact ⟨(K7.out.belowS HBW.out).cellV (i := 0) rfl, (K7.out.belowS HBW.out).cellV (i := 1) rfl, (K8.out.belowS HBW.out).cellV (i := 0) rfl, (K8.out.belowS HBW.out).cellV (i := 1) rfl, (K5.out.belowS HBW.out).cellV (i := 0) rfl, (K5.out.belowS HBW.out).cellV (i := 1) rfl, (K5.out.belowS HBW.out).cellV (i := 2) rfl⟩
            clear hK K
            refine wpAnyH_ready (rs := [8]) (by kernel_rfl) (by simp) ?_
            refine AllReadyH.cons rfl (fun K hK => ?_) AllReadyH.nil
            go_simp
            refine (lostP_any i (HA.out.below HBW.out) (HC.out.below HBW.out) HI.out).mono ?_
            rintro e wc8 ⟨u, rfl, hr, hbA⟩
            obtain ⟨A6, n6, c6, rfl⟩ := hr.form
            have HLP := Lib.hid hr
            clear hr
            replace HBW := Lib.hid (bstep HBW.out hbA)
            replace KA9 := Lib.hid (KA9.out.belowS hbA)
            replace KA10 := Lib.hid (KA10.out.belowS hbA)
            replace HKP := Lib.hid (HKP.out.below hbA)
            replace HNP := Lib.hid (HNP.out.below hbA)
            clear hbA
            go_simp
            refine hK.out _ _ ?_ (fun hHeld => ?_)
            · (try dsimp only)
              exact ⟨(K7.out.belowS HBW.out).cellV (i := 0) rfl, (K7.out.belowS HBW.out).cellV (i := 1) rfl, (K8.out.belowS HBW.out).cellV (i := 0) rfl, (K8.out.belowS HBW.out).cellV (i := 1) rfl, (K5.out.belowS HBW.out).cellV (i := 0) rfl, (K5.out.belowS HBW.out).cellV (i := 1) rfl, (K5.out.belowS HBW.out).cellV (i := 2) rfl⟩
            clear hK K
            refine wpAnyH_ready (rs := [11]) (by kernel_rfl) (by simp) ?_
            refine AllReadyH.cons rfl (fun K hK => ?_) AllReadyH.nil
            refine Tr.wanted_plain rfl ?_
            refine store_mid0 rfl 93 _ _ rfl (X4.heap.size) 0 #[.int .u32 i, .slice A3 n3 c3, .slice A4 n4 c4] (by rfl) (by rfl) (by have h := there_blk KA9.out; exact h) Tryz.sizeCh (by simp [Value.oneCell']) ?_
            have xK := put3 (.int .u32 i) (.slice A3 n3 c3) (.slice A4 n4 c4) KA9.out
            have xB := bsets HBW.out HL9.out (#[.int .u32 i, .slice A3 n3 c3, .slice A4 n4 c4] : Array Value).toList 0
            have xA10 := KA10.out.farCells (HN9_10.out.symm) (#[.int .u32 i, .slice A3 n3 c3, .slice A4 n4 c4] : Array Value).toList 0
            have xHKP := (show RegP (World.setCells (wc8) (X4.heap.size) 0 (#[.int .u32 i, .slice A3 n3 c3, .slice A4 n4 c4] : Array Value).toList) _ _ from HKP.out.sets3 KA9.out)
            have xHNP := (show RegP (World.setCells (wc8) (X4.heap.size) 0 (#[.int .u32 i, .slice A3 n3 c3, .slice A4 n4 c4] : Array Value).toList) _ _ from HNP.out.sets3 KA9.out)
            have xHLP := (show RegP (World.setCells (wc8) (X4.heap.size) 0 (#[.int .u32 i, .slice A3 n3 c3, .slice A4 n4 c4] : Array Value).toList) _ _ from HLP.out.sets3 KA9.out)
            obtain ⟨wS11, hwS⟩ : ∃ wS, World.setCells wc8 (X4.heap.size) 0 (#[.int .u32 i, .slice A3 n3 c3, .slice A4 n4 c4] : Array Value).toList = wS := ⟨_, rfl⟩
            rw [hwS] at xK xB xA10 xHKP xHNP xHLP ⊢
            replace HBW := Lib.hid xB
            replace KA9 := Lib.hid xK
            replace KA10 := Lib.hid xA10
            replace HKP := Lib.hid xHKP
            replace HNP := Lib.hid xHNP
            replace HLP := Lib.hid xHLP
            clear hwS xK xB xA10 xHKP xHNP xHLP
            refine hK.out _ _ ?_ (fun hHeld => ?_)
            · (try dsimp only)
              exact ⟨(K7.out.belowS HBW.out).cellV (i := 0) rfl, (K7.out.belowS HBW.out).cellV (i := 1) rfl, (K8.out.belowS HBW.out).cellV (i := 0) rfl, (K8.out.belowS HBW.out).cellV (i := 1) rfl, (K5.out.belowS HBW.out).cellV (i := 0) rfl, (K5.out.belowS HBW.out).cellV (i := 1) rfl, (K5.out.belowS HBW.out).cellV (i := 2) rfl⟩
            clear hK K
            refine wpAnyH_ready (rs := [12]) (by kernel_rfl) (by simp) ?_
            refine AllReadyH.cons rfl (fun K hK => ?_) AllReadyH.nil
            refine Tr.wanted_plain rfl ?_
            refine store_mid0 rfl 60 _ _ rfl (wc4.heap.size) 0 #[.slice A6 n6 c6] (by rfl) (by rfl) (by have h := there_blk KA10.out; exact h) Tryz.sizeRg (by simp [Value.oneCell']) ?_
            have xK := blk_puts1 (.slice A6 n6 c6) KA10.out
            have xB := bsets HBW.out HL10.out (#[.slice A6 n6 c6] : Array Value).toList 0
            have xA9 := KA9.out.farCells (HN9_10.out) (#[.slice A6 n6 c6] : Array Value).toList 0
            have xHKP := (show RegP (World.setCells (wS11) (wc4.heap.size) 0 (#[.slice A6 n6 c6] : Array Value).toList) _ _ from HKP.out.sets1 KA10.out)
            have xHNP := (show RegP (World.setCells (wS11) (wc4.heap.size) 0 (#[.slice A6 n6 c6] : Array Value).toList) _ _ from HNP.out.sets1 KA10.out)
            have xHLP := (show RegP (World.setCells (wS11) (wc4.heap.size) 0 (#[.slice A6 n6 c6] : Array Value).toList) _ _ from HLP.out.sets1 KA10.out)
            obtain ⟨wS12, hwS⟩ : ∃ wS, World.setCells wS11 (wc4.heap.size) 0 (#[.slice A6 n6 c6] : Array Value).toList = wS := ⟨_, rfl⟩
            rw [hwS] at xK xB xA9 xHKP xHNP xHLP ⊢
            replace HBW := Lib.hid xB
            replace KA10 := Lib.hid xK
            replace KA9 := Lib.hid xA9
            replace HKP := Lib.hid xHKP
            replace HNP := Lib.hid xHNP
            replace HLP := Lib.hid xHLP
            clear hwS xK xB xA9 xHKP xHNP xHLP
            refine hK.out _ _ ?_ (fun hHeld => ?_)
            · (try dsimp only)
              exact ⟨(K7.out.belowS HBW.out).cellV (i := 0) rfl, (K7.out.belowS HBW.out).cellV (i := 1) rfl, (K8.out.belowS HBW.out).cellV (i := 0) rfl, (K8.out.belowS HBW.out).cellV (i := 1) rfl, (K5.out.belowS HBW.out).cellV (i := 0) rfl, (K5.out.belowS HBW.out).cellV (i := 1) rfl, (K5.out.belowS HBW.out).cellV (i := 2) rfl⟩
            clear hK K
            refine wpAnyH_done (by kernel_rfl) ?_ _
            refine NoPanic.normal ?_
            go_wp2_with fail
            go_meet
            exact ⟨_, _, A3, n3, c3, A4, n4, c4, A6, n6, c6, rfl, rfl, KA9.out, KA10.out, HKP.out, HNP.out, HLP.out, HBW.out⟩
        ·
          go_simp
          have HN9_10 := Lib.hid (show X4.heap.size ≠ X4.heap.size + 1 from by have h := KA9.out.lt; rw [show ((X4.alloc (.cells #[.int .u32 0, .slice none 0 0, .slice none 0 0] 93)).drew).heap.size = X4.heap.size + 1 from (show ((X4.alloc (.cells #[.int .u32 0, .slice none 0 0, .slice none 0 0] 93))).heap.size = X4.heap.size + 1 by simp)] at h; exact Nat.ne_of_lt h)
          have KA10 := Lib.hid (show Blk ((X4.alloc (.cells #[.int .u32 0, .slice none 0 0, .slice none 0 0] 93)).alloc (.cells #[.slice none 0 0] 60)).drew (X4.heap.size + 1) 60 #[.slice none 0 0] from by have h := Blk.new ((X4.alloc (.cells #[.int .u32 0, .slice none 0 0, .slice none 0 0] 93)).drew) 60 #[.slice none 0 0]; rw [show ((X4.alloc (.cells #[.int .u32 0, .slice none 0 0, .slice none 0 0] 93)).drew).heap.size = X4.heap.size + 1 from (show ((X4.alloc (.cells #[.int .u32 0, .slice none 0 0, .slice none 0 0] 93))).heap.size = X4.heap.size + 1 by simp)] at h; exact h)
          have HL10 := Lib.hid (show X4.heap.size ≤ X4.heap.size + 1 from by have h := HBW.out.size; rw [show ((X4.alloc (.cells #[.int .u32 0, .slice none 0 0, .slice none 0 0] 93)).drew).heap.size = X4.heap.size + 1 from (show ((X4.alloc (.cells #[.int .u32 0, .slice none 0 0, .slice none 0 0] 93))).heap.size = X4.heap.size + 1 by simp)] at h; exact h)
          have hbA : Below (X4.alloc (.cells #[.int .u32 0, .slice none 0 0, .slice none 0 0] 93)).drew.heap.size (X4.alloc (.cells #[.int .u32 0, .slice none 0 0, .slice none 0 0] 93)).drew (((X4.alloc (.cells #[.int .u32 0, .slice none 0 0, .slice none 0 0] 93)).alloc (.cells #[.slice none 0 0] 60)).drew) := bal (bre (X4.alloc (.cells #[.int .u32 0, .slice none 0 0, .slice none 0 0] 93)).drew) (.cells #[.slice none 0 0] 60)
          replace HBW := Lib.hid (bstep HBW.out hbA)
          replace KA9 := Lib.hid (KA9.out.belowS hbA)
          clear hbA
          refine hK.out _ _ ?_ (fun hHeld => ?_)
          · (try dsimp only)
            exact ⟨(K7.out.belowS HBW.out).cellV (i := 0) rfl, (K7.out.belowS HBW.out).cellV (i := 1) rfl, (K8.out.belowS HBW.out).cellV (i := 0) rfl, (K8.out.belowS HBW.out).cellV (i := 1) rfl, (K5.out.belowS HBW.out).cellV (i := 0) rfl, (K5.out.belowS HBW.out).cellV (i := 1) rfl, (K5.out.belowS HBW.out).cellV (i := 2) rfl⟩
          clear hK K
          refine wpAnyH_ready (rs := [4]) (by kernel_rfl) (by simp) ?_
          refine AllReadyH.cons rfl (fun K hK => ?_) AllReadyH.nil
          go_simp
          refine (one_any i dx dy F (HA.out.below HBW.out) (HC.out.below HBW.out) HI.out (by have := HSM.out; omega)).mono ?_
          rintro e wc4 ⟨A3, n3, c3, A4, n4, c4, rfl, hk4, hn4, hbA⟩
          have HKP := Lib.hid hk4
          have HNP := Lib.hid hn4
          clear hk4 hn4
          replace HBW := Lib.hid (bstep HBW.out hbA)
          replace KA9 := Lib.hid (KA9.out.belowS hbA)
          replace KA10 := Lib.hid (KA10.out.belowS hbA)
          clear hbA
          go_simp
          refine hK.out _ _ ?_ (fun hHeld => ?_)
          · (try dsimp only)
            exact ⟨(K7.out.belowS HBW.out).cellV (i := 0) rfl, (K7.out.belowS HBW.out).cellV (i := 1) rfl, (K8.out.belowS HBW.out).cellV (i := 0) rfl, (K8.out.belowS HBW.out).cellV (i := 1) rfl, (K5.out.belowS HBW.out).cellV (i := 0) rfl, (K5.out.belowS HBW.out).cellV (i := 1) rfl, (K5.out.belowS HBW.out).cellV (i := 2) rfl⟩
          clear hK K
          refine wpAnyH_ready (rs := [8]) (by kernel_rfl) (by simp) ?_
          refine AllReadyH.cons rfl (fun K hK => ?_) AllReadyH.nil
          go_simp
          refine (lostP_any i (HA.out.below HBW.out) (HC.out.below HBW.out) HI.out).mono ?_
          rintro e wc8 ⟨u, rfl, hr, hbA⟩
          obtain ⟨A6, n6, c6, rfl⟩ := hr.form
          have HLP := Lib.hid hr
          clear hr
          replace HBW := Lib.hid (bstep HBW.out hbA)
          replace KA9 := Lib.hid (KA9.out.belowS hbA)
          replace KA10 := Lib.hid (KA10.out.belowS hbA)
          replace HKP := Lib.hid (HKP.out.below hbA)
          replace HNP := Lib.hid (HNP.out.below hbA)
          clear hbA
          go_simp
          refine hK.out _ _ ?_ (fun hHeld => ?_)
          · (try dsimp only)
            exact ⟨(K7.out.belowS HBW.out).cellV (i := 0) rfl, (K7.out.belowS HBW.out).cellV (i := 1) rfl, (K8.out.belowS HBW.out).cellV (i := 0) rfl, (K8.out.belowS HBW.out).cellV (i := 1) rfl, (K5.out.belowS HBW.out).cellV (i := 0) rfl, (K5.out.belowS HBW.out).cellV (i := 1) rfl, (K5.out.belowS HBW.out).cellV (i := 2) rfl⟩
          clear hK K
          refine wpAnyH_ready (rs := [11]) (by kernel_rfl) (by simp) ?_
          refine AllReadyH.cons rfl (fun K hK => ?_) AllReadyH.nil
          refine Tr.wanted_plain rfl ?_
          refine store_mid0 rfl 93 _ _ rfl (X4.heap.size) 0 #[.int .u32 i, .slice A3 n3 c3, .slice A4 n4 c4] (by rfl) (by rfl) (by have h := there_blk KA9.out; exact h) Tryz.sizeCh (by simp [Value.oneCell']) ?_
          have xK := put3 (.int .u32 i) (.slice A3 n3 c3) (.slice A4 n4 c4) KA9.out
          have xB := bsets HBW.out HL9.out (#[.int .u32 i, .slice A3 n3 c3, .slice A4 n4 c4] : Array Value).toList 0
          have xA10 := KA10.out.farCells (HN9_10.out.symm) (#[.int .u32 i, .slice A3 n3 c3, .slice A4 n4 c4] : Array Value).toList 0
          have xHKP := (show RegP (World.setCells (wc8) (X4.heap.size) 0 (#[.int .u32 i, .slice A3 n3 c3, .slice A4 n4 c4] : Array Value).toList) _ _ from HKP.out.sets3 KA9.out)
          have xHNP := (show RegP (World.setCells (wc8) (X4.heap.size) 0 (#[.int .u32 i, .slice A3 n3 c3, .slice A4 n4 c4] : Array Value).toList) _ _ from HNP.out.sets3 KA9.out)
          have xHLP := (show RegP (World.setCells (wc8) (X4.heap.size) 0 (#[.int .u32 i, .slice A3 n3 c3, .slice A4 n4 c4] : Array Value).toList) _ _ from HLP.out.sets3 KA9.out)
          obtain ⟨wS11, hwS⟩ : ∃ wS, World.setCells wc8 (X4.heap.size) 0 (#[.int .u32 i, .slice A3 n3 c3, .slice A4 n4 c4] : Array Value).toList = wS := ⟨_, rfl⟩
          rw [hwS] at xK xB xA10 xHKP xHNP xHLP ⊢
          replace HBW := Lib.hid xB
          replace KA9 := Lib.hid xK
          replace KA10 := Lib.hid xA10
          replace HKP := Lib.hid xHKP
          replace HNP := Lib.hid xHNP
          replace HLP := Lib.hid xHLP
          clear hwS xK xB xA10 xHKP xHNP xHLP
          refine hK.out _ _ ?_ (fun hHeld => ?_)
          · (try dsimp only)
            exact ⟨(K7.out.belowS HBW.out).cellV (i := 0) rfl, (K7.out.belowS HBW.out).cellV (i := 1) rfl, (K8.out.belowS HBW.out).cellV (i := 0) rfl, (K8.out.belowS HBW.out).cellV (i := 1) rfl, (K5.out.belowS HBW.out).cellV (i := 0) rfl, (K5.out.belowS HBW.out).cellV (i := 1) rfl, (K5.out.belowS HBW.out).cellV (i := 2) rfl⟩
          clear hK K
          refine wpAnyH_ready (rs := [12]) (by kernel_rfl) (by simp) ?_
          refine AllReadyH.cons rfl (fun K hK => ?_) AllReadyH.nil
          refine Tr.wanted_plain rfl ?_
          refine store_mid0 rfl 60 _ _ rfl (X4.heap.size + 1) 0 #[.slice A6 n6 c6] (by rfl) (by rfl) (by have h := there_blk KA10.out; exact h) Tryz.sizeRg (by simp [Value.oneCell']) ?_
          have xK := blk_puts1 (.slice A6 n6 c6) KA10.out
          have xB := bsets HBW.out HL10.out (#[.slice A6 n6 c6] : Array Value).toList 0
          have xA9 := KA9.out.farCells (HN9_10.out) (#[.slice A6 n6 c6] : Array Value).toList 0
          have xHKP := (show RegP (World.setCells (wS11) (X4.heap.size + 1) 0 (#[.slice A6 n6 c6] : Array Value).toList) _ _ from HKP.out.sets1 KA10.out)
          have xHNP := (show RegP (World.setCells (wS11) (X4.heap.size + 1) 0 (#[.slice A6 n6 c6] : Array Value).toList) _ _ from HNP.out.sets1 KA10.out)
          have xHLP := (show RegP (World.setCells (wS11) (X4.heap.size + 1) 0 (#[.slice A6 n6 c6] : Array Value).toList) _ _ from HLP.out.sets1 KA10.out)
          obtain ⟨wS12, hwS⟩ : ∃ wS, World.setCells wS11 (X4.heap.size + 1) 0 (#[.slice A6 n6 c6] : Array Value).toList = wS := ⟨_, rfl⟩
          rw [hwS] at xK xB xA9 xHKP xHNP xHLP ⊢
          replace HBW := Lib.hid xB
          replace KA10 := Lib.hid xK
          replace KA9 := Lib.hid xA9
          replace HKP := Lib.hid xHKP
          replace HNP := Lib.hid xHNP
          replace HLP := Lib.hid xHLP
          clear hwS xK xB xA9 xHKP xHNP xHLP
          refine hK.out _ _ ?_ (fun hHeld => ?_)
          · (try dsimp only)
            exact ⟨(K7.out.belowS HBW.out).cellV (i := 0) rfl, (K7.out.belowS HBW.out).cellV (i := 1) rfl, (K8.out.belowS HBW.out).cellV (i := 0) rfl, (K8.out.belowS HBW.out).cellV (i := 1) rfl, (K5.out.belowS HBW.out).cellV (i := 0) rfl, (K5.out.belowS HBW.out).cellV (i := 1) rfl, (K5.out.belowS HBW.out).cellV (i := 2) rfl⟩
          clear hK K
          refine wpAnyH_done (by kernel_rfl) ?_ _
          refine NoPanic.normal ?_
          go_wp2_with fail
          go_meet
          exact ⟨_, _, A3, n3, c3, A4, n4, c4, A6, n6, c6, rfl, rfl, KA9.out, KA10.out, HKP.out, HNP.out, HLP.out, HBW.out⟩
      ·
        go_simp
        have KA10 := Lib.hid (show Blk (X4.alloc (.cells #[.slice none 0 0] 60)).drew (X4.heap.size) 60 #[.slice none 0 0] from Blk.new X4.drew 60 #[.slice none 0 0])
        have HL10 := Lib.hid (show X4.heap.size ≤ X4.heap.size from HBW.out.size)
        have hbA : Below X4.drew.heap.size X4.drew ((X4.alloc (.cells #[.slice none 0 0] 60)).drew) := bal (bre X4.drew) (.cells #[.slice none 0 0] 60)
        replace HBW := Lib.hid (bstep HBW.out hbA)
        clear hbA
        refine hK.out _ _ ?_ (fun hHeld => ?_)
        · (try dsimp only)
          exact ⟨(K7.out.belowS HBW.out).cellV (i := 0) rfl, (K7.out.belowS HBW.out).cellV (i := 1) rfl, (K8.out.belowS HBW.out).cellV (i := 0) rfl, (K8.out.belowS HBW.out).cellV (i := 1) rfl, (K5.out.belowS HBW.out).cellV (i := 0) rfl, (K5.out.belowS HBW.out).cellV (i := 1) rfl, (K5.out.belowS HBW.out).cellV (i := 2) rfl⟩
        clear hK K
        refine wpAnyH_ready (rs := [4, 9]) (by kernel_rfl) (by simp) ?_
        refine AllReadyH.cons rfl (fun K hK => ?_) (AllReadyH.cons rfl (fun K hK => ?_) AllReadyH.nil)
        ·
          go_simp
          refine (one_any i dx dy F (HA.out.below HBW.out) (HC.out.below HBW.out) HI.out (by have := HSM.out; omega)).mono ?_
          rintro e wc4 ⟨A3, n3, c3, A4, n4, c4, rfl, hk4, hn4, hbA⟩
          have HKP := Lib.hid hk4
          have HNP := Lib.hid hn4
          clear hk4 hn4
          replace HBW := Lib.hid (bstep HBW.out hbA)
          replace KA10 := Lib.hid (KA10.out.belowS hbA)
          clear hbA
          go_simp
          refine hK.out _ _ ?_ (fun hHeld => ?_)
          · (try dsimp only)
            exact ⟨(K7.out.belowS HBW.out).cellV (i := 0) rfl, (K7.out.belowS HBW.out).cellV (i := 1) rfl, (K8.out.belowS HBW.out).cellV (i := 0) rfl, (K8.out.belowS HBW.out).cellV (i := 1) rfl, (K5.out.belowS HBW.out).cellV (i := 0) rfl, (K5.out.belowS HBW.out).cellV (i := 1) rfl, (K5.out.belowS HBW.out).cellV (i := 2) rfl⟩
          clear hK K
          refine wpAnyH_ready (rs := [8, 9]) (by kernel_rfl) (by simp) ?_
          refine AllReadyH.cons rfl (fun K hK => ?_) (AllReadyH.cons rfl (fun K hK => ?_) AllReadyH.nil)
          ·
            go_simp
            refine (lostP_any i (HA.out.below HBW.out) (HC.out.below HBW.out) HI.out).mono ?_
            rintro e wc8 ⟨u, rfl, hr, hbA⟩
            obtain ⟨A6, n6, c6, rfl⟩ := hr.form
            have HLP := Lib.hid hr
            clear hr
            replace HBW := Lib.hid (bstep HBW.out hbA)
            replace KA10 := Lib.hid (KA10.out.belowS hbA)
            replace HKP := Lib.hid (HKP.out.below hbA)
            replace HNP := Lib.hid (HNP.out.below hbA)
            clear hbA
            go_simp
            refine hK.out _ _ ?_ (fun hHeld => ?_)
            · (try dsimp only)
              exact ⟨(K7.out.belowS HBW.out).cellV (i := 0) rfl, (K7.out.belowS HBW.out).cellV (i := 1) rfl, (K8.out.belowS HBW.out).cellV (i := 0) rfl, (K8.out.belowS HBW.out).cellV (i := 1) rfl, (K5.out.belowS HBW.out).cellV (i := 0) rfl, (K5.out.belowS HBW.out).cellV (i := 1) rfl, (K5.out.belowS HBW.out).cellV (i := 2) rfl⟩
            clear hK K
            refine wpAnyH_ready (rs := [9]) (by kernel_rfl) (by simp) ?_
            refine AllReadyH.cons rfl (fun K hK => ?_) AllReadyH.nil
            go_simp
            have HN10_9 := Lib.hid (Nat.ne_of_lt KA10.out.lt)
            have KA9 := Lib.hid (show Blk (wc8.alloc (.cells #[.int .u32 0, .slice none 0 0, .slice none 0 0] 93)) (wc8.heap.size) 93 #[.int .u32 0, .slice none 0 0, .slice none 0 0] from Blk.new wc8 93 #[.int .u32 0, .slice none 0 0, .slice none 0 0])
            have HL9 := Lib.hid (show X4.heap.size ≤ wc8.heap.size from HBW.out.size)
            have hbA : Below wc8.heap.size wc8 ((wc8.alloc (.cells #[.int .u32 0, .slice none 0 0, .slice none 0 0] 93))) := bal (bre wc8) (.cells #[.int .u32 0, .slice none 0 0, .slice none 0 0] 93)
            replace HBW := Lib.hid (bstep HBW.out hbA)
            replace KA10 := Lib.hid (KA10.out.belowS hbA)
            replace HKP := Lib.hid (HKP.out.below hbA)
            replace HNP := Lib.hid (HNP.out.below hbA)
            replace HLP := Lib.hid (HLP.out.below hbA)
            clear hbA
            refine hK.out _ _ ?_ (fun hHeld => ?_)
            · (try dsimp only)
              exact ⟨(K7.out.belowS HBW.out).cellV (i := 0) rfl, (K7.out.belowS HBW.out).cellV (i := 1) rfl, (K8.out.belowS HBW.out).cellV (i := 0) rfl, (K8.out.belowS HBW.out).cellV (i := 1) rfl, (K5.out.belowS HBW.out).cellV (i := 0) rfl, (K5.out.belowS HBW.out).cellV (i := 1) rfl, (K5.out.belowS HBW.out).cellV (i := 2) rfl⟩
            clear hK K
            refine wpAnyH_ready (rs := [11]) (by kernel_rfl) (by simp) ?_
            refine AllReadyH.cons rfl (fun K hK => ?_) AllReadyH.nil
            refine Tr.wanted_plain rfl ?_
            refine store_mid0 rfl 93 _ _ rfl (wc8.heap.size) 0 #[.int .u32 i, .slice A3 n3 c3, .slice A4 n4 c4] (by rfl) (by rfl) (by have h := there_blk KA9.out; exact h) Tryz.sizeCh (by simp [Value.oneCell']) ?_
            have xK := put3 (.int .u32 i) (.slice A3 n3 c3) (.slice A4 n4 c4) KA9.out
            have xB := bsets HBW.out HL9.out (#[.int .u32 i, .slice A3 n3 c3, .slice A4 n4 c4] : Array Value).toList 0
            have xA10 := KA10.out.farCells (HN10_9.out) (#[.int .u32 i, .slice A3 n3 c3, .slice A4 n4 c4] : Array Value).toList 0
            have xHKP := (show RegP (World.setCells (wc8.alloc (.cells #[.int .u32 0, .slice none 0 0, .slice none 0 0] 93)) (wc8.heap.size) 0 (#[.int .u32 i, .slice A3 n3 c3, .slice A4 n4 c4] : Array Value).toList) _ _ from HKP.out.sets3 KA9.out)
            have xHNP := (show RegP (World.setCells (wc8.alloc (.cells #[.int .u32 0, .slice none 0 0, .slice none 0 0] 93)) (wc8.heap.size) 0 (#[.int .u32 i, .slice A3 n3 c3, .slice A4 n4 c4] : Array Value).toList) _ _ from HNP.out.sets3 KA9.out)
            have xHLP := (show RegP (World.setCells (wc8.alloc (.cells #[.int .u32 0, .slice none 0 0, .slice none 0 0] 93)) (wc8.heap.size) 0 (#[.int .u32 i, .slice A3 n3 c3, .slice A4 n4 c4] : Array Value).toList) _ _ from HLP.out.sets3 KA9.out)
            obtain ⟨wS11, hwS⟩ : ∃ wS, World.setCells (wc8.alloc (.cells #[.int .u32 0, .slice none 0 0, .slice none 0 0] 93)) (wc8.heap.size) 0 (#[.int .u32 i, .slice A3 n3 c3, .slice A4 n4 c4] : Array Value).toList = wS := ⟨_, rfl⟩
            rw [hwS] at xK xB xA10 xHKP xHNP xHLP ⊢
            replace HBW := Lib.hid xB
            replace KA9 := Lib.hid xK
            replace KA10 := Lib.hid xA10
            replace HKP := Lib.hid xHKP
            replace HNP := Lib.hid xHNP
            replace HLP := Lib.hid xHLP
            clear hwS xK xB xA10 xHKP xHNP xHLP
            refine hK.out _ _ ?_ (fun hHeld => ?_)
            · (try dsimp only)
              exact ⟨(K7.out.belowS HBW.out).cellV (i := 0) rfl, (K7.out.belowS HBW.out).cellV (i := 1) rfl, (K8.out.belowS HBW.out).cellV (i := 0) rfl, (K8.out.belowS HBW.out).cellV (i := 1) rfl, (K5.out.belowS HBW.out).cellV (i := 0) rfl, (K5.out.belowS HBW.out).cellV (i := 1) rfl, (K5.out.belowS HBW.out).cellV (i := 2) rfl⟩
            clear hK K
            refine wpAnyH_ready (rs := [12]) (by kernel_rfl) (by simp) ?_
            refine AllReadyH.cons rfl (fun K hK => ?_) AllReadyH.nil
            refine Tr.wanted_plain rfl ?_
            refine store_mid0 rfl 60 _ _ rfl (X4.heap.size) 0 #[.slice A6 n6 c6] (by rfl) (by rfl) (by have h := there_blk KA10.out; exact h) Tryz.sizeRg (by simp [Value.oneCell']) ?_
            have xK := blk_puts1 (.slice A6 n6 c6) KA10.out
            have xB := bsets HBW.out HL10.out (#[.slice A6 n6 c6] : Array Value).toList 0
            have xA9 := KA9.out.farCells (HN10_9.out.symm) (#[.slice A6 n6 c6] : Array Value).toList 0
            have xHKP := (show RegP (World.setCells (wS11) (X4.heap.size) 0 (#[.slice A6 n6 c6] : Array Value).toList) _ _ from HKP.out.sets1 KA10.out)
            have xHNP := (show RegP (World.setCells (wS11) (X4.heap.size) 0 (#[.slice A6 n6 c6] : Array Value).toList) _ _ from HNP.out.sets1 KA10.out)
            have xHLP := (show RegP (World.setCells (wS11) (X4.heap.size) 0 (#[.slice A6 n6 c6] : Array Value).toList) _ _ from HLP.out.sets1 KA10.out)
            obtain ⟨wS12, hwS⟩ : ∃ wS, World.setCells wS11 (X4.heap.size) 0 (#[.slice A6 n6 c6] : Array Value).toList = wS := ⟨_, rfl⟩
            rw [hwS] at xK xB xA9 xHKP xHNP xHLP ⊢
            replace HBW := Lib.hid xB
            replace KA10 := Lib.hid xK
            replace KA9 := Lib.hid xA9
            replace HKP := Lib.hid xHKP
            replace HNP := Lib.hid xHNP
            replace HLP := Lib.hid xHLP
            clear hwS xK xB xA9 xHKP xHNP xHLP
            refine hK.out _ _ ?_ (fun hHeld => ?_)
            · (try dsimp only)
              exact ⟨(K7.out.belowS HBW.out).cellV (i := 0) rfl, (K7.out.belowS HBW.out).cellV (i := 1) rfl, (K8.out.belowS HBW.out).cellV (i := 0) rfl, (K8.out.belowS HBW.out).cellV (i := 1) rfl, (K5.out.belowS HBW.out).cellV (i := 0) rfl, (K5.out.belowS HBW.out).cellV (i := 1) rfl, (K5.out.belowS HBW.out).cellV (i := 2) rfl⟩
            clear hK K
            refine wpAnyH_done (by kernel_rfl) ?_ _
            refine NoPanic.normal ?_
            go_wp2_with fail
            go_meet
            exact ⟨_, _, A3, n3, c3, A4, n4, c4, A6, n6, c6, rfl, rfl, KA9.out, KA10.out, HKP.out, HNP.out, HLP.out, HBW.out⟩
          ·
            go_simp
            have HN10_9 := Lib.hid (Nat.ne_of_lt KA10.out.lt)
            have KA9 := Lib.hid (show Blk (wc4.alloc (.cells #[.int .u32 0, .slice none 0 0, .slice none 0 0] 93)) (wc4.heap.size) 93 #[.int .u32 0, .slice none 0 0, .slice none 0 0] from Blk.new wc4 93 #[.int .u32 0, .slice none 0 0, .slice none 0 0])
            have HL9 := Lib.hid (show X4.heap.size ≤ wc4.heap.size from HBW.out.size)
            have hbA : Below wc4.heap.size wc4 ((wc4.alloc (.cells #[.int .u32 0, .slice none 0 0, .slice none 0 0] 93))) := bal (bre wc4) (.cells #[.int .u32 0, .slice none 0 0, .slice none 0 0] 93)
            replace HBW := Lib.hid (bstep HBW.out hbA)
            replace KA10 := Lib.hid (KA10.out.belowS hbA)
            replace HKP := Lib.hid (HKP.out.below hbA)
            replace HNP := Lib.hid (HNP.out.below hbA)
            clear hbA
            refine hK.out _ _ ?_ (fun hHeld => ?_)
            · (try dsimp only)
              exact ⟨(K7.out.belowS HBW.out).cellV (i := 0) rfl, (K7.out.belowS HBW.out).cellV (i := 1) rfl, (K8.out.belowS HBW.out).cellV (i := 0) rfl, (K8.out.belowS HBW.out).cellV (i := 1) rfl, (K5.out.belowS HBW.out).cellV (i := 0) rfl, (K5.out.belowS HBW.out).cellV (i := 1) rfl, (K5.out.belowS HBW.out).cellV (i := 2) rfl⟩
            clear hK K
            refine wpAnyH_ready (rs := [8]) (by kernel_rfl) (by simp) ?_
            refine AllReadyH.cons rfl (fun K hK => ?_) AllReadyH.nil
            go_simp
            refine (lostP_any i (HA.out.below HBW.out) (HC.out.below HBW.out) HI.out).mono ?_
            rintro e wc8 ⟨u, rfl, hr, hbA⟩
            obtain ⟨A6, n6, c6, rfl⟩ := hr.form
            have HLP := Lib.hid hr
            clear hr
            replace HBW := Lib.hid (bstep HBW.out hbA)
            replace KA10 := Lib.hid (KA10.out.belowS hbA)
            replace KA9 := Lib.hid (KA9.out.belowS hbA)
            replace HKP := Lib.hid (HKP.out.below hbA)
            replace HNP := Lib.hid (HNP.out.below hbA)
            clear hbA
            go_simp
            refine hK.out _ _ ?_ (fun hHeld => ?_)
            · (try dsimp only)
              exact ⟨(K7.out.belowS HBW.out).cellV (i := 0) rfl, (K7.out.belowS HBW.out).cellV (i := 1) rfl, (K8.out.belowS HBW.out).cellV (i := 0) rfl, (K8.out.belowS HBW.out).cellV (i := 1) rfl, (K5.out.belowS HBW.out).cellV (i := 0) rfl, (K5.out.belowS HBW.out).cellV (i := 1) rfl, (K5.out.belowS HBW.out).cellV (i := 2) rfl⟩
            clear hK K
            refine wpAnyH_ready (rs := [11]) (by kernel_rfl) (by simp) ?_
            refine AllReadyH.cons rfl (fun K hK => ?_) AllReadyH.nil
            refine Tr.wanted_plain rfl ?_
            refine store_mid0 rfl 93 _ _ rfl (wc4.heap.size) 0 #[.int .u32 i, .slice A3 n3 c3, .slice A4 n4 c4] (by rfl) (by rfl) (by have h := there_blk KA9.out; exact h) Tryz.sizeCh (by simp [Value.oneCell']) ?_
            have xK := put3 (.int .u32 i) (.slice A3 n3 c3) (.slice A4 n4 c4) KA9.out
            have xB := bsets HBW.out HL9.out (#[.int .u32 i, .slice A3 n3 c3, .slice A4 n4 c4] : Array Value).toList 0
            have xA10 := KA10.out.farCells (HN10_9.out) (#[.int .u32 i, .slice A3 n3 c3, .slice A4 n4 c4] : Array Value).toList 0
            have xHKP := (show RegP (World.setCells (wc8) (wc4.heap.size) 0 (#[.int .u32 i, .slice A3 n3 c3, .slice A4 n4 c4] : Array Value).toList) _ _ from HKP.out.sets3 KA9.out)
            have xHNP := (show RegP (World.setCells (wc8) (wc4.heap.size) 0 (#[.int .u32 i, .slice A3 n3 c3, .slice A4 n4 c4] : Array Value).toList) _ _ from HNP.out.sets3 KA9.out)
            have xHLP := (show RegP (World.setCells (wc8) (wc4.heap.size) 0 (#[.int .u32 i, .slice A3 n3 c3, .slice A4 n4 c4] : Array Value).toList) _ _ from HLP.out.sets3 KA9.out)
            obtain ⟨wS11, hwS⟩ : ∃ wS, World.setCells wc8 (wc4.heap.size) 0 (#[.int .u32 i, .slice A3 n3 c3, .slice A4 n4 c4] : Array Value).toList = wS := ⟨_, rfl⟩
            rw [hwS] at xK xB xA10 xHKP xHNP xHLP ⊢
            replace HBW := Lib.hid xB
            replace KA9 := Lib.hid xK
            replace KA10 := Lib.hid xA10
            replace HKP := Lib.hid xHKP
            replace HNP := Lib.hid xHNP
            replace HLP := Lib.hid xHLP
            clear hwS xK xB xA10 xHKP xHNP xHLP
            refine hK.out _ _ ?_ (fun hHeld => ?_)
            · (try dsimp only)
              exact ⟨(K7.out.belowS HBW.out).cellV (i := 0) rfl, (K7.out.belowS HBW.out).cellV (i := 1) rfl, (K8.out.belowS HBW.out).cellV (i := 0) rfl, (K8.out.belowS HBW.out).cellV (i := 1) rfl, (K5.out.belowS HBW.out).cellV (i := 0) rfl, (K5.out.belowS HBW.out).cellV (i := 1) rfl, (K5.out.belowS HBW.out).cellV (i := 2) rfl⟩
            clear hK K
            refine wpAnyH_ready (rs := [12]) (by kernel_rfl) (by simp) ?_
            refine AllReadyH.cons rfl (fun K hK => ?_) AllReadyH.nil
            refine Tr.wanted_plain rfl ?_
            refine store_mid0 rfl 60 _ _ rfl (X4.heap.size) 0 #[.slice A6 n6 c6] (by rfl) (by rfl) (by have h := there_blk KA10.out; exact h) Tryz.sizeRg (by simp [Value.oneCell']) ?_
            have xK := blk_puts1 (.slice A6 n6 c6) KA10.out
            have xB := bsets HBW.out HL10.out (#[.slice A6 n6 c6] : Array Value).toList 0
            have xA9 := KA9.out.farCells (HN10_9.out.symm) (#[.slice A6 n6 c6] : Array Value).toList 0
            have xHKP := (show RegP (World.setCells (wS11) (X4.heap.size) 0 (#[.slice A6 n6 c6] : Array Value).toList) _ _ from HKP.out.sets1 KA10.out)
            have xHNP := (show RegP (World.setCells (wS11) (X4.heap.size) 0 (#[.slice A6 n6 c6] : Array Value).toList) _ _ from HNP.out.sets1 KA10.out)
            have xHLP := (show RegP (World.setCells (wS11) (X4.heap.size) 0 (#[.slice A6 n6 c6] : Array Value).toList) _ _ from HLP.out.sets1 KA10.out)
            obtain ⟨wS12, hwS⟩ : ∃ wS, World.setCells wS11 (X4.heap.size) 0 (#[.slice A6 n6 c6] : Array Value).toList = wS := ⟨_, rfl⟩
            rw [hwS] at xK xB xA9 xHKP xHNP xHLP ⊢
            replace HBW := Lib.hid xB
            replace KA10 := Lib.hid xK
            replace KA9 := Lib.hid xA9
            replace HKP := Lib.hid xHKP
            replace HNP := Lib.hid xHNP
            replace HLP := Lib.hid xHLP
            clear hwS xK xB xA9 xHKP xHNP xHLP
            refine hK.out _ _ ?_ (fun hHeld => ?_)
            · (try dsimp only)
              exact ⟨(K7.out.belowS HBW.out).cellV (i := 0) rfl, (K7.out.belowS HBW.out).cellV (i := 1) rfl, (K8.out.belowS HBW.out).cellV (i := 0) rfl, (K8.out.belowS HBW.out).cellV (i := 1) rfl, (K5.out.belowS HBW.out).cellV (i := 0) rfl, (K5.out.belowS HBW.out).cellV (i := 1) rfl, (K5.out.belowS HBW.out).cellV (i := 2) rfl⟩
            clear hK K
            refine wpAnyH_done (by kernel_rfl) ?_ _
            refine NoPanic.normal ?_
            go_wp2_with fail
            go_meet
            exact ⟨_, _, A3, n3, c3, A4, n4, c4, A6, n6, c6, rfl, rfl, KA9.out, KA10.out, HKP.out, HNP.out, HLP.out, HBW.out⟩
        ·
          go_simp
          have HN10_9 := Lib.hid (show X4.heap.size ≠ X4.heap.size + 1 from by have h := KA10.out.lt; rw [show ((X4.alloc (.cells #[.slice none 0 0] 60)).drew).heap.size = X4.heap.size + 1 from (show ((X4.alloc (.cells #[.slice none 0 0] 60))).heap.size = X4.heap.size + 1 by simp)] at h; exact Nat.ne_of_lt h)
          have KA9 := Lib.hid (show Blk ((X4.alloc (.cells #[.slice none 0 0] 60)).alloc (.cells #[.int .u32 0, .slice none 0 0, .slice none 0 0] 93)).drew (X4.heap.size + 1) 93 #[.int .u32 0, .slice none 0 0, .slice none 0 0] from by have h := Blk.new ((X4.alloc (.cells #[.slice none 0 0] 60)).drew) 93 #[.int .u32 0, .slice none 0 0, .slice none 0 0]; rw [show ((X4.alloc (.cells #[.slice none 0 0] 60)).drew).heap.size = X4.heap.size + 1 from (show ((X4.alloc (.cells #[.slice none 0 0] 60))).heap.size = X4.heap.size + 1 by simp)] at h; exact h)
          have HL9 := Lib.hid (show X4.heap.size ≤ X4.heap.size + 1 from by have h := HBW.out.size; rw [show ((X4.alloc (.cells #[.slice none 0 0] 60)).drew).heap.size = X4.heap.size + 1 from (show ((X4.alloc (.cells #[.slice none 0 0] 60))).heap.size = X4.heap.size + 1 by simp)] at h; exact h)
          have hbA : Below (X4.alloc (.cells #[.slice none 0 0] 60)).drew.heap.size (X4.alloc (.cells #[.slice none 0 0] 60)).drew (((X4.alloc (.cells #[.slice none 0 0] 60)).alloc (.cells #[.int .u32 0, .slice none 0 0, .slice none 0 0] 93)).drew) := bal (bre (X4.alloc (.cells #[.slice none 0 0] 60)).drew) (.cells #[.int .u32 0, .slice none 0 0, .slice none 0 0] 93)
          replace HBW := Lib.hid (bstep HBW.out hbA)
          replace KA10 := Lib.hid (KA10.out.belowS hbA)
          clear hbA
          refine hK.out _ _ ?_ (fun hHeld => ?_)
          · (try dsimp only)
            exact ⟨(K7.out.belowS HBW.out).cellV (i := 0) rfl, (K7.out.belowS HBW.out).cellV (i := 1) rfl, (K8.out.belowS HBW.out).cellV (i := 0) rfl, (K8.out.belowS HBW.out).cellV (i := 1) rfl, (K5.out.belowS HBW.out).cellV (i := 0) rfl, (K5.out.belowS HBW.out).cellV (i := 1) rfl, (K5.out.belowS HBW.out).cellV (i := 2) rfl⟩
          clear hK K
          refine wpAnyH_ready (rs := [4]) (by kernel_rfl) (by simp) ?_
          refine AllReadyH.cons rfl (fun K hK => ?_) AllReadyH.nil
          go_simp
          refine (one_any i dx dy F (HA.out.below HBW.out) (HC.out.below HBW.out) HI.out (by have := HSM.out; omega)).mono ?_
          rintro e wc4 ⟨A3, n3, c3, A4, n4, c4, rfl, hk4, hn4, hbA⟩
          have HKP := Lib.hid hk4
          have HNP := Lib.hid hn4
          clear hk4 hn4
          replace HBW := Lib.hid (bstep HBW.out hbA)
          replace KA10 := Lib.hid (KA10.out.belowS hbA)
          replace KA9 := Lib.hid (KA9.out.belowS hbA)
          clear hbA
          go_simp
          refine hK.out _ _ ?_ (fun hHeld => ?_)
          · (try dsimp only)
            exact ⟨(K7.out.belowS HBW.out).cellV (i := 0) rfl, (K7.out.belowS HBW.out).cellV (i := 1) rfl, (K8.out.belowS HBW.out).cellV (i := 0) rfl, (K8.out.belowS HBW.out).cellV (i := 1) rfl, (K5.out.belowS HBW.out).cellV (i := 0) rfl, (K5.out.belowS HBW.out).cellV (i := 1) rfl, (K5.out.belowS HBW.out).cellV (i := 2) rfl⟩
          clear hK K
          refine wpAnyH_ready (rs := [8]) (by kernel_rfl) (by simp) ?_
          refine AllReadyH.cons rfl (fun K hK => ?_) AllReadyH.nil
          go_simp
          refine (lostP_any i (HA.out.below HBW.out) (HC.out.below HBW.out) HI.out).mono ?_
          rintro e wc8 ⟨u, rfl, hr, hbA⟩
          obtain ⟨A6, n6, c6, rfl⟩ := hr.form
          have HLP := Lib.hid hr
          clear hr
          replace HBW := Lib.hid (bstep HBW.out hbA)
          replace KA10 := Lib.hid (KA10.out.belowS hbA)
          replace KA9 := Lib.hid (KA9.out.belowS hbA)
          replace HKP := Lib.hid (HKP.out.below hbA)
          replace HNP := Lib.hid (HNP.out.below hbA)
          clear hbA
          go_simp
          refine hK.out _ _ ?_ (fun hHeld => ?_)
          · (try dsimp only)
            exact ⟨(K7.out.belowS HBW.out).cellV (i := 0) rfl, (K7.out.belowS HBW.out).cellV (i := 1) rfl, (K8.out.belowS HBW.out).cellV (i := 0) rfl, (K8.out.belowS HBW.out).cellV (i := 1) rfl, (K5.out.belowS HBW.out).cellV (i := 0) rfl, (K5.out.belowS HBW.out).cellV (i := 1) rfl, (K5.out.belowS HBW.out).cellV (i := 2) rfl⟩
          clear hK K
          refine wpAnyH_ready (rs := [11]) (by kernel_rfl) (by simp) ?_
          refine AllReadyH.cons rfl (fun K hK => ?_) AllReadyH.nil
          refine Tr.wanted_plain rfl ?_
          refine store_mid0 rfl 93 _ _ rfl (X4.heap.size + 1) 0 #[.int .u32 i, .slice A3 n3 c3, .slice A4 n4 c4] (by rfl) (by rfl) (by have h := there_blk KA9.out; exact h) Tryz.sizeCh (by simp [Value.oneCell']) ?_
          have xK := put3 (.int .u32 i) (.slice A3 n3 c3) (.slice A4 n4 c4) KA9.out
          have xB := bsets HBW.out HL9.out (#[.int .u32 i, .slice A3 n3 c3, .slice A4 n4 c4] : Array Value).toList 0
          have xA10 := KA10.out.farCells (HN10_9.out) (#[.int .u32 i, .slice A3 n3 c3, .slice A4 n4 c4] : Array Value).toList 0
          have xHKP := (show RegP (World.setCells (wc8) (X4.heap.size + 1) 0 (#[.int .u32 i, .slice A3 n3 c3, .slice A4 n4 c4] : Array Value).toList) _ _ from HKP.out.sets3 KA9.out)
          have xHNP := (show RegP (World.setCells (wc8) (X4.heap.size + 1) 0 (#[.int .u32 i, .slice A3 n3 c3, .slice A4 n4 c4] : Array Value).toList) _ _ from HNP.out.sets3 KA9.out)
          have xHLP := (show RegP (World.setCells (wc8) (X4.heap.size + 1) 0 (#[.int .u32 i, .slice A3 n3 c3, .slice A4 n4 c4] : Array Value).toList) _ _ from HLP.out.sets3 KA9.out)
          obtain ⟨wS11, hwS⟩ : ∃ wS, World.setCells wc8 (X4.heap.size + 1) 0 (#[.int .u32 i, .slice A3 n3 c3, .slice A4 n4 c4] : Array Value).toList = wS := ⟨_, rfl⟩
          rw [hwS] at xK xB xA10 xHKP xHNP xHLP ⊢
          replace HBW := Lib.hid xB
          replace KA9 := Lib.hid xK
          replace KA10 := Lib.hid xA10
          replace HKP := Lib.hid xHKP
          replace HNP := Lib.hid xHNP
          replace HLP := Lib.hid xHLP
          clear hwS xK xB xA10 xHKP xHNP xHLP
          refine hK.out _ _ ?_ (fun hHeld => ?_)
          · (try dsimp only)
            exact ⟨(K7.out.belowS HBW.out).cellV (i := 0) rfl, (K7.out.belowS HBW.out).cellV (i := 1) rfl, (K8.out.belowS HBW.out).cellV (i := 0) rfl, (K8.out.belowS HBW.out).cellV (i := 1) rfl, (K5.out.belowS HBW.out).cellV (i := 0) rfl, (K5.out.belowS HBW.out).cellV (i := 1) rfl, (K5.out.belowS HBW.out).cellV (i := 2) rfl⟩
          clear hK K
          refine wpAnyH_ready (rs := [12]) (by kernel_rfl) (by simp) ?_
          refine AllReadyH.cons rfl (fun K hK => ?_) AllReadyH.nil
          refine Tr.wanted_plain rfl ?_
          refine store_mid0 rfl 60 _ _ rfl (X4.heap.size) 0 #[.slice A6 n6 c6] (by rfl) (by rfl) (by have h := there_blk KA10.out; exact h) Tryz.sizeRg (by simp [Value.oneCell']) ?_
          have xK := blk_puts1 (.slice A6 n6 c6) KA10.out
          have xB := bsets HBW.out HL10.out (#[.slice A6 n6 c6] : Array Value).toList 0
          have xA9 := KA9.out.farCells (HN10_9.out.symm) (#[.slice A6 n6 c6] : Array Value).toList 0
          have xHKP := (show RegP (World.setCells (wS11) (X4.heap.size) 0 (#[.slice A6 n6 c6] : Array Value).toList) _ _ from HKP.out.sets1 KA10.out)
          have xHNP := (show RegP (World.setCells (wS11) (X4.heap.size) 0 (#[.slice A6 n6 c6] : Array Value).toList) _ _ from HNP.out.sets1 KA10.out)
          have xHLP := (show RegP (World.setCells (wS11) (X4.heap.size) 0 (#[.slice A6 n6 c6] : Array Value).toList) _ _ from HLP.out.sets1 KA10.out)
          obtain ⟨wS12, hwS⟩ : ∃ wS, World.setCells wS11 (X4.heap.size) 0 (#[.slice A6 n6 c6] : Array Value).toList = wS := ⟨_, rfl⟩
          rw [hwS] at xK xB xA9 xHKP xHNP xHLP ⊢
          replace HBW := Lib.hid xB
          replace KA10 := Lib.hid xK
          replace KA9 := Lib.hid xA9
          replace HKP := Lib.hid xHKP
          replace HNP := Lib.hid xHNP
          replace HLP := Lib.hid xHLP
          clear hwS xK xB xA9 xHKP xHNP xHLP
          refine hK.out _ _ ?_ (fun hHeld => ?_)
          · (try dsimp only)
            exact ⟨(K7.out.belowS HBW.out).cellV (i := 0) rfl, (K7.out.belowS HBW.out).cellV (i := 1) rfl, (K8.out.belowS HBW.out).cellV (i := 0) rfl, (K8.out.belowS HBW.out).cellV (i := 1) rfl, (K5.out.belowS HBW.out).cellV (i := 0) rfl, (K5.out.belowS HBW.out).cellV (i := 1) rfl, (K5.out.belowS HBW.out).cellV (i := 2) rfl⟩
          clear hK K
          refine wpAnyH_done (by kernel_rfl) ?_ _
          refine NoPanic.normal ?_
          go_wp2_with fail
          go_meet
          exact ⟨_, _, A3, n3, c3, A4, n4, c4, A6, n6, c6, rfl, rfl, KA9.out, KA10.out, HKP.out, HNP.out, HLP.out, HBW.out⟩
  obtain ⟨g13, g14, A3, n3, c3, A4, n4, c4, A6, n6, c6, rfl, rfl, hk13, hk14, hr3, hr4, hr6, hbc⟩ := hcut
  have K13 := Lib.hid hk13
  have K14 := Lib.hid hk14
  have HKP := Lib.hid hr3
  have HNP := Lib.hid hr4
  have HLP := Lib.hid hr6
  have HVS := Lib.hid (fun (x y : Int) => HA.out.small i x y)
  have HUS := Lib.hid (fun (x y : Int) => HC.out.small i x y)
  replace HB := Lib.hid (bstep HB.out hbc)
  replace K5 := Lib.hid (K5.out.belowS hbc)
  replace K11 := Lib.hid (K11.out.belowS hbc)
  replace K12 := Lib.hid (K12.out.belowS hbc)
  replace HVR := Lib.hid (HVR.out.below hbc)
  replace HUR := Lib.hid (HUR.out.below hbc)
  clear hk13 hk14 hr3 hr4 hr6 hbc K7 K8 HA HC
  obtain ⟨X, hX⟩ : ∃ X, X = wc := ⟨_, rfl⟩
  subst hX
  obtain ⟨PK, hPK⟩ : ∃ PK, keptP (V i) (U i) dx dy F = PK := ⟨_, rfl⟩
  obtain ⟨PN, hPN⟩ : ∃ PN, newP (V i) (U i) dx dy F = PN := ⟨_, rfl⟩
  obtain ⟨PL, hPL⟩ : ∃ PL, lostP (V i) (U i) = PL := ⟨_, rfl⟩
  rw [hPK] at HKP
  rw [hPN] at HNP
  rw [hPL] at HLP
  have HK := Lib.hid hPK
  have HNW := Lib.hid hPN
  have HLO := Lib.hid hPL
  clear hPK hPN hPL
  go_wp2_with fail
  go_loopw [18, 15, 16, 17] (fun s18 s15 s16 s17 wr => ∃ (y : Nat) (ty : Int), s18 = .int .i64 ty ∧ ty = (y : Int) - 50 ∧ y ≤ 110 ∧ s15 = .int .i64 ((cntP 110 y (boxC PK) + rowC (boxC PK) y 0 : Nat) : Int) ∧ s16 = .int .i64 ((cntP 110 y (boxC PN) + rowC (boxC PN) y 0 : Nat) : Int) ∧ s17 = .int .i64 ((cntP 110 y (boxC PL) + rowC (boxC PL) y 0 : Nat) : Int) ∧ Below X.heap.size X wr) (fun s18 _ _ _ _ => (60 - intOf s18).toNat)
  case atStart => exact ⟨0, -50, rfl, by omega, by omega, rfl, rfl, rfl, bre X⟩
  case round =>
    obtain ⟨y, ty, rfl, hty, hy, rfl, rfl, rfl, hby⟩ := hrel
    have HY := Lib.hid hby
    clear hby
    by_cases hly : y < 110
    · have y1 : ty < 60 := by omega
      have vy : IntKind.i64.wrap (ty + 1) = ty + 1 := IntWalk.i64_in _ (by omega)
      have HTY := Lib.hid hty
      clear hty
      go_wp2_with fail
      go_loopw [19, 15, 16, 17] (fun s19 s15 s16 s17 wr => ∃ (x : Nat) (tx : Int), s19 = .int .i64 tx ∧ tx = (x : Int) - 50 ∧ x ≤ 110 ∧ s15 = .int .i64 ((cntP 110 y (boxC PK) + rowC (boxC PK) y x : Nat) : Int) ∧ s16 = .int .i64 ((cntP 110 y (boxC PN) + rowC (boxC PN) y x : Nat) : Int) ∧ s17 = .int .i64 ((cntP 110 y (boxC PL) + rowC (boxC PL) y x : Nat) : Int) ∧ Below X.heap.size X wr) (fun s19 _ _ _ _ => (60 - intOf s19).toNat)
      case atStart => exact ⟨0, -50, rfl, by omega, by omega, rfl, rfl, rfl, HY.out⟩
      case round =>
        obtain ⟨x, tx, rfl, htx, hx, rfl, rfl, rfl, hbx⟩ := hrel
        have HX := Lib.hid hbx
        clear hbx
        by_cases hlx : x < 110
        · have x1 : tx < 60 := by omega
          have vx : IntKind.i64.wrap (tx + 1) = tx + 1 := IntWalk.i64_in _ (by omega)
          have vdx : IntKind.i64.wrap (tx - dx) = tx - dx := IntWalk.i64_in _ (by have := HSM.out; omega)
          have vdy : IntKind.i64.wrap (ty - dy) = ty - dy := IntWalk.i64_in _ (by have := HSM.out; have := HTY.out; omega)
          have HTX := Lib.hid htx
          have hty := HTY.out
          obtain ⟨bv, hbv⟩ : ∃ q, U i tx ty = q := ⟨_, rfl⟩
          obtain ⟨av, hav⟩ : ∃ q, V i (tx - dx) (ty - dy) = q := ⟨_, rfl⟩
          obtain ⟨zv, hzv⟩ : ∃ q, V i tx ty = q := ⟨_, rfl⟩
          obtain ⟨kv, hkv⟩ : ∃ q, PK tx ty = q := ⟨_, rfl⟩
          obtain ⟨fv, hfv⟩ : ∃ q, PN tx ty = q := ⟨_, rfl⟩
          obtain ⟨gv, hgv⟩ : ∃ q, PL tx ty = q := ⟨_, rfl⟩
          have HKV := Lib.hid (show kv = (bv && (!F && av)) by rw [← hkv, ← HK.out, ← hbv, ← hav]; rfl)
          have HFV := Lib.hid (show fv = (bv && !kv) by rw [← hfv, ← HNW.out, ← hbv, ← hkv, ← HK.out]; rfl)
          have HGV := Lib.hid (show gv = (zv && !bv) by rw [← hgv, ← HLO.out, ← hzv, ← hbv]; rfl)
          obtain ⟨N15, h15⟩ : ∃ N, cntP 110 y (boxC PK) + rowC (boxC PK) y x = N := ⟨_, rfl⟩
          obtain ⟨N16, h16⟩ : ∃ N, cntP 110 y (boxC PN) + rowC (boxC PN) y x = N := ⟨_, rfl⟩
          obtain ⟨N17, h17⟩ : ∃ N, cntP 110 y (boxC PL) + rowC (boxC PL) y x = N := ⟨_, rfl⟩
          have HR15 := Lib.hid (row_next h15 htx hty hkv)
          have HR16 := Lib.hid (row_next h16 htx hty hfv)
          have HR17 := Lib.hid (row_next h17 htx hty hgv)
          have HBD := Lib.hid (show N15 ≤ 20000 ∧ N16 ≤ 20000 ∧ N17 ≤ 20000 by rw [← h15, ← h16, ← h17]; exact ⟨cnt_bd _ (by omega) (by omega), cnt_bd _ (by omega) (by omega), cnt_bd _ (by omega) (by omega)⟩)
          rw [h15, h16, h17]
          have PBV := Lib.hid hbv
          have PAV := Lib.hid hav
          have PZV := Lib.hid hzv
          have PKV := Lib.hid hkv
          have PFV := Lib.hid hfv
          have PGV := Lib.hid hgv
          clear hbv hav hzv hkv hfv hgv h15 h16 h17 htx hty
          go_upto_region 14 with fail
          obtain ⟨Y1, hY1⟩ : ∃ Y1, Y1 = wr := ⟨_, rfl⟩
          subst hY1
          go_cut [20] from 171 (fun s20 wx => s20 = .bool kv ∧ Below Y1.heap.size Y1 wx)
          case first =>
            as_aux_lemma =>
              have hkv := HKV.out
              have d0 := (K12.out.belowS HX.out).cellV (i := 0) (v := .slice A2 n2 c2) rfl
              go_wp2_with fail
              refine (hasP tx ty (HUR.out.below HX.out)).mono ?_
              rintro e w7 ⟨rfl, hb7⟩
              rw [PBV.out]
              have HB7 := Lib.hid hb7
              clear hb7 d0
              cases bv with
              | false =>
                go_wp2_with fail
                go_meet
                exact ⟨by rw [hkv]; rfl, HB7.out⟩
              | true =>
                have f2 := (K5.out.belowS (bstep HX.out HB7.out)).cellV (i := 2) (v := .bool F) rfl
                have f0 := (K5.out.belowS (bstep HX.out HB7.out)).cellV (i := 0) (v := .int .i64 dx) rfl
                have f1 := (K5.out.belowS (bstep HX.out HB7.out)).cellV (i := 1) (v := .int .i64 dy) rfl
                have d0 := (K11.out.belowS (bstep HX.out HB7.out)).cellV (i := 0) (v := .slice A1 n1 c1) rfl
                cases F with
                | true =>
                  go_wp2_with fail
                  go_meet
                  exact ⟨by rw [hkv]; rfl, HB7.out⟩
                | false =>
                  go_wp2_with fail
                  refine (hasP (tx - dx) (ty - dy) (HVR.out.below (bstep HX.out HB7.out))).mono ?_
                  rintro e w8 ⟨rfl, hb8⟩
                  rw [PAV.out]
                  have HB8 := Lib.hid (bstep HB7.out hb8)
                  clear hb8 d0 f0 f1 f2
                  go_wp2_with fail
                  go_meet
                  exact ⟨by rw [hkv]; simp, HB8.out⟩
          obtain ⟨rfl, hbc⟩ := hcut
          replace HX := Lib.hid (bstep HX.out hbc)
          clear hbc vdx vdy
          obtain ⟨Y2, hY2⟩ : ∃ Y2, Y2 = wc := ⟨_, rfl⟩
          subst hY2
          go_upto_region 15 with fail
          go_cut [21] from 171 (fun s21 wx => s21 = .bool fv ∧ Below Y2.heap.size Y2 wx)
          case first =>
            as_aux_lemma =>
              have hfv := HFV.out
              have d0 := (K12.out.belowS HX.out).cellV (i := 0) (v := .slice A2 n2 c2) rfl
              go_wp2_with fail
              refine (hasP tx ty (HUR.out.below HX.out)).mono ?_
              rintro e w7 ⟨rfl, hb7⟩
              rw [PBV.out]
              have HB7 := Lib.hid hb7
              clear hb7 d0
              cases bv with
              | false =>
                go_wp2_with fail
                go_meet
                exact ⟨by rw [hfv]; rfl, HB7.out⟩
              | true =>
                go_wp2_with fail
                go_meet
                exact ⟨by rw [hfv]; simp, HB7.out⟩
          obtain ⟨rfl, hbc⟩ := hcut
          replace HX := Lib.hid (bstep HX.out hbc)
          clear hbc
          obtain ⟨Y3, hY3⟩ : ∃ Y3, Y3 = wc := ⟨_, rfl⟩
          subst hY3
          go_upto_region 16 with fail
          go_cut [22] from 171 (fun s22 wx => s22 = .bool gv ∧ Below Y3.heap.size Y3 wx)
          case first =>
            as_aux_lemma =>
              have hgv := HGV.out
              have d0 := (K11.out.belowS HX.out).cellV (i := 0) (v := .slice A1 n1 c1) rfl
              go_wp2_with fail
              refine (hasP tx ty (HVR.out.below HX.out)).mono ?_
              rintro e w7 ⟨rfl, hb7⟩
              rw [PZV.out]
              have HB7 := Lib.hid hb7
              clear hb7 d0
              cases zv with
              | false =>
                go_wp2_with fail
                go_meet
                exact ⟨by rw [hgv]; rfl, HB7.out⟩
              | true =>
                have d0 := (K12.out.belowS (bstep HX.out HB7.out)).cellV (i := 0) (v := .slice A2 n2 c2) rfl
                go_wp2_with fail
                refine (hasP tx ty (HUR.out.below (bstep HX.out HB7.out))).mono ?_
                rintro e w8 ⟨rfl, hb8⟩
                rw [PBV.out]
                have HB8 := Lib.hid (bstep HB7.out hb8)
                clear hb8 d0
                go_wp2_with fail
                go_meet
                exact ⟨by rw [hgv]; simp, HB8.out⟩
          obtain ⟨rfl, hbc⟩ := hcut
          replace HX := Lib.hid (bstep HX.out hbc)
          clear hbc
          obtain ⟨Y4, hY4⟩ : ∃ Y4, Y4 = wc := ⟨_, rfl⟩
          subst hY4
          have d1 : (kv != kv) = false := by simp
          have d2 : (fv != fv) = false := by simp
          have d3 : (gv != gv) = false := by simp
          have e1 := (K13.out.belowS HX.out).cellV (i := 1) (v := .slice A3 n3 c3) rfl
          go_wp2_with fail
          refine (hasP tx ty (HKP.out.below HX.out)).mono ?_
          rintro e w7 ⟨rfl, hb7⟩
          rw [PKV.out]
          replace HX := Lib.hid (bstep HX.out hb7)
          clear hb7 e1
          have e2 := (K13.out.belowS HX.out).cellV (i := 2) (v := .slice A4 n4 c4) rfl
          go_wp2_with fail
          refine (hasP tx ty (HNP.out.below HX.out)).mono ?_
          rintro e w8 ⟨rfl, hb8⟩
          rw [PFV.out]
          replace HX := Lib.hid (bstep HX.out hb8)
          clear hb8 e2
          have e2 := (K14.out.belowS HX.out).cellV (i := 0) (v := .slice A6 n6 c6) rfl
          go_wp2_with fail
          refine (hasP tx ty (HLP.out.below HX.out)).mono ?_
          rintro e w9 ⟨rfl, hb9⟩
          rw [PGV.out]
          replace HX := Lib.hid (bstep HX.out hb9)
          clear hb9 e2
          go_upto_region 19 with fail
          clear d1 d2 d3
          have v15 : IntKind.i64.wrap ((N15 : Int) + 1) = (N15 : Int) + 1 := IntWalk.i64_in _ (by have := HBD.out; omega)
          have v16 : IntKind.i64.wrap ((N16 : Int) + 1) = (N16 : Int) + 1 := IntWalk.i64_in _ (by have := HBD.out; omega)
          have v17 : IntKind.i64.wrap ((N17 : Int) + 1) = (N17 : Int) + 1 := IntWalk.i64_in _ (by have := HBD.out; omega)
          clear HKV HFV HGV PBV PAV PZV PKV PFV PGV
          cases kv with
          | false =>
            cases fv with
            | false =>
              cases gv with
              | false =>
                as_aux_lemma =>
                  go_wp2_with fail
                  go_roundw
                  case rel => exact ⟨x + 1, tx + 1, rfl, by have := HTX.out; omega, by omega, by rw [HR15.out]; simp, by rw [HR16.out]; simp, by rw [HR17.out]; simp, HX.out⟩
                  case measure => simp [intOf]; omega
              | true =>
                as_aux_lemma =>
                  go_wp2_with fail
                  go_roundw
                  case rel => exact ⟨x + 1, tx + 1, rfl, by have := HTX.out; omega, by omega, by rw [HR15.out]; simp, by rw [HR16.out]; simp, by rw [HR17.out]; simp, HX.out⟩
                  case measure => simp [intOf]; omega
            | true =>
              cases gv with
              | false =>
                as_aux_lemma =>
                  go_wp2_with fail
                  go_roundw
                  case rel => exact ⟨x + 1, tx + 1, rfl, by have := HTX.out; omega, by omega, by rw [HR15.out]; simp, by rw [HR16.out]; simp, by rw [HR17.out]; simp, HX.out⟩
                  case measure => simp [intOf]; omega
              | true =>
                as_aux_lemma =>
                  go_wp2_with fail
                  go_roundw
                  case rel => exact ⟨x + 1, tx + 1, rfl, by have := HTX.out; omega, by omega, by rw [HR15.out]; simp, by rw [HR16.out]; simp, by rw [HR17.out]; simp, HX.out⟩
                  case measure => simp [intOf]; omega
          | true =>
            cases fv with
            | false =>
              cases gv with
              | false =>
                as_aux_lemma =>
                  go_wp2_with fail
                  go_roundw
                  case rel => exact ⟨x + 1, tx + 1, rfl, by have := HTX.out; omega, by omega, by rw [HR15.out]; simp, by rw [HR16.out]; simp, by rw [HR17.out]; simp, HX.out⟩
                  case measure => simp [intOf]; omega
              | true =>
                as_aux_lemma =>
                  go_wp2_with fail
                  go_roundw
                  case rel => exact ⟨x + 1, tx + 1, rfl, by have := HTX.out; omega, by omega, by rw [HR15.out]; simp, by rw [HR16.out]; simp, by rw [HR17.out]; simp, HX.out⟩
                  case measure => simp [intOf]; omega
            | true =>
              cases gv with
              | false =>
                as_aux_lemma =>
                  go_wp2_with fail
                  go_roundw
                  case rel => exact ⟨x + 1, tx + 1, rfl, by have := HTX.out; omega, by omega, by rw [HR15.out]; simp, by rw [HR16.out]; simp, by rw [HR17.out]; simp, HX.out⟩
                  case measure => simp [intOf]; omega
              | true =>
                as_aux_lemma =>
                  go_wp2_with fail
                  go_roundw
                  case rel => exact ⟨x + 1, tx + 1, rfl, by have := HTX.out; omega, by omega, by rw [HR15.out]; simp, by rw [HR16.out]; simp, by rw [HR17.out]; simp, HX.out⟩
                  case measure => simp [intOf]; omega
        · obtain rfl : x = 110 := by omega
          have x1 : ¬ tx < 60 := by omega
          clear htx
          have hc1 := cnt_row (boxC PK) y
          have hc2 := cnt_row (boxC PN) y
          have hc3 := cnt_row (boxC PL) y
          rw [hc1, hc2, hc3]
          clear hc1 hc2 hc3
          go_wp2_with fail
          go_roundw
          case rel => exact ⟨y + 1, ty + 1, rfl, by have := HTY.out; omega, by omega, rfl, rfl, rfl, HX.out⟩
          case measure => simp [intOf]; omega
    · obtain rfl : y = 110 := by omega
      have y1 : ¬ ty < 60 := by omega
      clear hty
      have hi2 : (i == i) = true := by simp
      replace K13 := Lib.hid (K13.out.belowS HY.out)
      replace K14 := Lib.hid (K14.out.belowS HY.out)
      replace HKP := Lib.hid (HKP.out.below HY.out)
      replace HNP := Lib.hid (HNP.out.below HY.out)
      replace HLP := Lib.hid (HLP.out.below HY.out)
      replace HB := Lib.hid (bstep HB.out HY.out)
      have sK := fun (x y : Int) (h : PK x y = true) => HUS.out x y (by rw [← HK.out] at h; unfold keptP at h; rw [Bool.and_eq_true] at h; exact h.1)
      have sN := fun (x y : Int) (h : PN x y = true) => HUS.out x y (by rw [← HNW.out] at h; unfold newP at h; rw [Bool.and_eq_true] at h; exact h.1)
      have sL := fun (x y : Int) (h : PL x y = true) => HVS.out x y (by rw [← HLO.out] at h; unfold lostP at h; rw [Bool.and_eq_true] at h; exact h.1)
      have HSK := Lib.hid sK
      have HSN := Lib.hid sN
      have HSL := Lib.hid sL
      clear sK sN sL K5 K11 K12
      rw [cnt_end, cnt_end, cnt_end]
      obtain ⟨N15, h15⟩ : ∃ N, cntP 110 110 (boxC PK) = N := ⟨_, rfl⟩
      obtain ⟨N16, h16⟩ : ∃ N, cntP 110 110 (boxC PN) = N := ⟨_, rfl⟩
      obtain ⟨N17, h17⟩ : ∃ N, cntP 110 110 (boxC PL) = N := ⟨_, rfl⟩
      rw [h15, h16, h17]
      have H15 := Lib.hid h15
      have H16 := Lib.hid h16
      have H17 := Lib.hid h17
      clear h15 h16 h17
      have e0 := K13.out.cellV (i := 0) (v := .int .u32 i) rfl
      have e1 := K13.out.cellV (i := 1) (v := .slice A3 n3 c3) rfl
      have n15 : ((N15 : Int) == (N15 : Int)) = true := by simp
      have n16 : ((N16 : Int) == (N16 : Int)) = true := by simp
      have n17 : ((N17 : Int) == (N17 : Int)) = true := by simp
      go_wp2_with fail
      refine (areaC HKP.out HSK.out).mono ?_
      rintro e w7 ⟨rfl, hb⟩
      rw [H15.out]
      replace K13 := Lib.hid (K13.out.belowS hb)
      replace K14 := Lib.hid (K14.out.belowS hb)
      replace HNP := Lib.hid (HNP.out.below hb)
      replace HLP := Lib.hid (HLP.out.below hb)
      replace HB := Lib.hid (bstep HB.out hb)
      clear hb e0 e1
      have e2 := K13.out.cellV (i := 2) (v := .slice A4 n4 c4) rfl
      go_wp2_with fail
      refine (areaC HNP.out HSN.out).mono ?_
      rintro e w8 ⟨rfl, hb⟩
      rw [H16.out]
      replace K14 := Lib.hid (K14.out.belowS hb)
      replace HLP := Lib.hid (HLP.out.below hb)
      replace HB := Lib.hid (bstep HB.out hb)
      clear hb e2
      have e2 := K14.out.cellV (i := 0) (v := .slice A6 n6 c6) rfl
      go_wp2_with fail
      refine (areaC HLP.out HSL.out).mono ?_
      rintro e w9 ⟨rfl, hb⟩
      rw [H17.out]
      replace HB := Lib.hid (bstep HB.out hb)
      clear hb e2
      go_wp2_with fail
      refine (awake32_any _).mono ?_
      rintro e w10 ⟨rfl, hb⟩
      have HB9 := Lib.hid (bstep HB.out hb)
      clear hb
      go_wp2_with fail
      go_ret
      exact ⟨rfl, HB9.out⟩
end Go.Proofs.YtbkkecijcijhdaaGreat
end
