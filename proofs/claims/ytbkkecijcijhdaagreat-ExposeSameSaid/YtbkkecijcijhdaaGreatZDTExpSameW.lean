/-
  The walk of the law ExposeSame.
-/
import Derived.Test.YtbkkecijcijhdaaGreatZD35
import Derived.Test.YtbkkecijcijhdaaGreatZDTExpOneK
import Derived.Test.YtbkkecijcijhdaaGreatZDTExpG
section
namespace Go.Proofs.YtbkkecijcijhdaaGreat
open Go.RowKit Go.Maps Go.Shelf

theorem zero_viewE (W : World) : ViewIs W (.agg #[.slice none 0 0, .map none]) none 0 0 none 0 (fun _ => none) [] [] (fun _ => (0, 0)) 0 0 where
  shape := rfl
  order := Rd.nil W none
  few := by decide
  cap := Nat.le_refl _
  ids := by simp
  map := .inl ⟨rfl, rfl, fun _ => rfl⟩
  non := fun _ _ => rfl
  told := fun i e he => by cases he
  near := fun _ => by decide
  small := fun i x y h => by cases h
  side := by decide
theorem zero_vis (W : World) : VisAt W (.agg #[.slice none 0 0, .map none]) (fun _ _ _ => false) :=
  ⟨⟨none, 0, 0, none, rfl⟩, fun w' _ i hi => by
    refine (vvisible_any i hi (zero_viewE w')).mono ?_
    rintro e w'' ⟨u, out, rfl, h1, h2, h3⟩
    exact ⟨u, rfl, ⟨out, h1, h2⟩, h3⟩, fun _ _ _ h => by cases h⟩
theorem SeenG.wins {w : World} {v : Value} {RW RH : Nat} {ns : Nodes} {bx : Int → Option VB} {og : Int → Int × Int} (h : SeenG w v RW RH ns bx og) :
    (∀ W : World, Below w.heap.size w W → Calls Tryz.prog 26 #[v] W fun e w' => ∃ u, e = .returned u ∧ w'.ownsRow W.heap.size 49 1 u (ordW ns bx 1).length (U32 (ordW ns bx 1)) ∧ Below W.heap.size W w') ∧ (∀ i ∈ ordW ns bx 1, 0 ≤ i ∧ i ≤ 4294967295) ∧ (ordW ns bx 1).length ≤ 1001 := by
  obtain ⟨A, n, c, mv, nm, f, h1⟩ := h.is
  have e : n = (ordW ns bx 1).length := by
    have := h1.order.1
    simpa [U32] using this.symm
  refine ⟨fun W hW => ?_, h1.ids, by rw [← e]; exact h1.few⟩
  rw [← e]
  exact vwindows_any (h1.below hW)
theorem newP_same (P : Places) (x y : Int) : newP P P 0 0 false x y = false := by
  unfold newP keptP
  simp
theorem tells_same {U : Int → Places} {xs : List CV} (h : ∀ y ∈ xs, y.tells U U (fun _ => ⟨0, 0, false⟩)) : flX xs = [] := by
  unfold flX
  rw [List.filter_eq_nil_iff]
  intro y hy
  have : y.m = 0 := (h y hy).2 (fun a b => newP_same _ a b)
  simp [this]
set_option maxRecDepth 100000 in
set_option maxHeartbeats 16000000 in
theorem exposeSame_any (A : Option Addr) (n c : Nat) (xs : List XW) (w : World) (hn : n ≤ maxLen) (hr : RdF XW.cells 11 w A n xs) (hok : ∀ x ∈ xs, x.ok) :
    Calls Tryz.prog 13 #[.slice A n c] w fun e w' => e = .returned (.bool true) ∧ Below w.heap.size w w' := by
  have HN := Lib.hid hn
  have HR := Lib.hid hr
  have HOK := Lib.hid hok
  clear hn hr hok
  have HB := Lib.hid (bre w)
  have hnm := HN.out
  simp only [maxLen] at hnm
  go_enter Tryz.func13, Tryz.ntmps13
  by_cases h6 : n ≤ 6
  case neg =>
    have k6 : (6 : Int) < (n : Int) := by omega
    go_wp2_with fail
    refine (awake32_any _).mono ?_
    rintro e w2 ⟨rfl, hb2⟩
    have HB2 := Lib.hid hb2
    clear hb2
    go_wp2_with fail
    go_ret
    exact ⟨rfl, HB2.out⟩
  have k6 : ¬ (6 : Int) < (n : Int) := by omega
  go_wp2_with fail
  refine (views_any A n c xs _ h6 HR.out HOK.out).mono ?_
  rintro e w2 ⟨va, vb, oga, ogb, rfl, sa, sb, hb⟩
  obtain ⟨Aa, na, ca, ma, rfl⟩ := sa.form
  obtain ⟨Ab, nb, cb, mb, rfl⟩ := sb.form
  have xA := vis_of sa HOK.out (fun x hx => (HOK.out x hx).2.1)
  have xC := vis_of sb HOK.out (fun x hx => (HOK.out x hx).2.2)
  obtain ⟨wn1, wn2, wn3⟩ := sb.wins
  replace HB := Lib.hid hb
  clear sa sb hb
  obtain ⟨V, hV⟩ : ∃ V, visW XW.a xs = V := ⟨_, rfl⟩
  obtain ⟨U, hU⟩ : ∃ U, visW XW.b xs = U := ⟨_, rfl⟩
  rw [hV] at xA
  rw [hU] at xC
  clear hV hU
  go_upto_region 4 with fail
  have hba := bal (bal (bre w2) (.cells #[.slice Aa na ca, .map ma] 43)) (.cells #[.slice Ab nb cb, .map mb] 43)
  have xB := bstep HB.out hba
  have xK3 := (Blk.new w2 43 #[.slice Aa na ca, .map ma]).alloc (.cells #[.slice Ab nb cb, .map mb] 43)
  have xK4 := blk_newA w2 (.cells #[.slice Aa na ca, .map ma] 43) 43 #[.slice Ab nb cb, .map mb]
  replace xA := xA.below hba
  replace xC := xC.below hba
  obtain ⟨X2, hX2⟩ : ∃ X2, (w2.alloc (.cells #[.slice Aa na ca, .map ma] 43)).alloc (.cells #[.slice Ab nb cb, .map mb] 43) = X2 := ⟨_, rfl⟩
  rw [hX2] at xB xK3 xK4 xA xC hba ⊢
  replace HB := Lib.hid xB
  have K3 := Lib.hid xK3
  have K4 := Lib.hid xK4
  have HA := Lib.hid xA
  have HC := Lib.hid xC
  have WN := Lib.hid (fun (W : World) (hW : Below X2.heap.size X2 W) => wn1 W (bstep hba hW))
  have OD := Lib.hid (And.intro wn2 wn3)
  clear hba xB xK3 xK4 xA xC hX2 wn1 wn2 wn3
  have c0 := K4.out.cellV (i := 0) (v := .slice Ab nb cb) rfl
  have c1 := K4.out.cellV (i := 1) (v := .map mb) rfl
  go_wp2_with fail
  refine (of32_any _ 0 (fun _ => none) (fun _ => ⟨0, 0, false⟩) HC.out HC.out WN.out OD.out (.inl ⟨rfl, rfl, fun _ => rfl⟩) (fun _ => rfl) (fun _ => by decide)).mono ?_
  rintro e w3 ⟨v, ys, rfl, _, hte, hown, hb3⟩
  rw [tells_same hte] at hown
  obtain ⟨Ao, co, rfl, _⟩ := own_form hown
  replace HB := Lib.hid (bstep HB.out hb3)
  replace K3 := Lib.hid (K3.out.belowS hb3)
  replace K4 := Lib.hid (K4.out.belowS hb3)
  replace HA := Lib.hid (HA.out.below hb3)
  replace HC := Lib.hid (HC.out.below hb3)
  clear hb3 hown hte c0 c1 WN OD
  have l0 : (((([] : List CV).length : Nat) : Int) == 0) = true := rfl
  have s1 : IntKind.i64.wrap ((n : Int) + 1) = (n : Int) + 1 := IntWalk.i64_in _ (by omega)
  obtain ⟨X, hX⟩ : ∃ X, X = w3 := ⟨_, rfl⟩
  subst hX
  go_wp2_with fail
  go_loopw [29] (fun s29 wr => ∃ k : Nat, s29 = .int .i64 k ∧ k ≤ n + 1 ∧ Below X.heap.size X wr) (fun s29 _ => n + 1 - (intOf s29).toNat)
  case atStart => exact ⟨0, rfl, by omega, bre X⟩
  case round =>
    obtain ⟨k, rfl, hk, hbk⟩ := hrel
    have HW := Lib.hid hbk
    clear hbk
    by_cases hlt : k < n + 1
    case neg =>
      have q1 : ¬ (k : Int) < (n : Int) + 1 := by omega
      have HBZ := Lib.hid (bstep HB.out HW.out)
      go_wp2_with fail
      refine (awake32_any _).mono ?_
      rintro e w10 ⟨rfl, hb⟩
      have HB9 := Lib.hid (bstep HBZ.out hb)
      clear hb
      go_wp2_with fail
      go_ret
      exact ⟨rfl, HB9.out⟩
    have q1 : (k : Int) < (n : Int) + 1 := by omega
    have q2 : IntKind.i64.wrap ((k : Int) + 1) = (k : Int) + 1 := IntWalk.i64_in _ (by omega)
    go_upto_region 9 with fail
    obtain ⟨Y0, hY0⟩ : ∃ Y0, Y0 = wr := ⟨_, rfl⟩
    subst hY0
    replace K3 := Lib.hid (K3.out.belowS HW.out)
    replace K4 := Lib.hid (K4.out.belowS HW.out)
    replace HA := Lib.hid (HA.out.below HW.out)
    replace HC := Lib.hid (HC.out.below HW.out)
    go_wp2_with fail
    refine (id32_any k _ (by omega)).mono ?_
    rintro e w4 ⟨rfl, hb4⟩
    obtain ⟨i, hi⟩ : ∃ i, idW ((k : Int) - 1) = i := ⟨_, rfl⟩
    have HI := Lib.hid (show 0 ≤ i ∧ i ≤ 4294967295 by rw [← hi]; exact idW_bd (by omega))
    rw [hi]
    have HY := Lib.hid hb4
    replace K3 := Lib.hid (K3.out.belowS hb4)
    replace K4 := Lib.hid (K4.out.belowS hb4)
    replace HA := Lib.hid (HA.out.below hb4)
    replace HC := Lib.hid (HC.out.below hb4)
    clear hb4 hi
    have d0 := K4.out.cellV (i := 0) (v := .slice Ab nb cb) rfl
    have d1 := K4.out.cellV (i := 1) (v := .map mb) rfl
    go_wp2_with fail
    refine (one_any i 0 0 false (zero_vis _) HC.out HI.out (by decide)).mono ?_
    rintro e w5 ⟨P1, p1, r1, Q1, q1, s1, rfl, hk1, hn1, hb⟩
    clear d0 d1
    go_upto_region 11 with fail
    have hba := bstep hb (bal (bre w5) (.cells #[.int .u32 i, .slice P1 p1 r1, .slice Q1 q1 s1] 93))
    have hbo := bal (bre w5) (.cells #[.int .u32 i, .slice P1 p1 r1, .slice Q1 q1 s1] 93)
    have xK := Blk.new w5 93 #[.int .u32 i, .slice P1 p1 r1, .slice Q1 q1 s1]
    replace hk1 := hk1.below hbo
    replace hn1 := hn1.below hbo
    obtain ⟨Y1, hY1⟩ : ∃ Y, w5.alloc (.cells #[.int .u32 i, .slice P1 p1 r1, .slice Q1 q1 s1] 93) = Y := ⟨_, rfl⟩
    rw [hY1] at hba hbo xK hk1 hn1 ⊢
    have HS1 := Lib.hid hbo.size
    replace HY := Lib.hid (bstep HY.out hba)
    replace K3 := Lib.hid (K3.out.belowS hba)
    replace K4 := Lib.hid (K4.out.belowS hba)
    replace HA := Lib.hid (HA.out.below hba)
    replace HC := Lib.hid (HC.out.below hba)
    have KB1 := Lib.hid xK
    have HKP1 := Lib.hid hk1
    have HNP1 := Lib.hid hn1
    clear hb hba hbo xK hk1 hn1 hY1
    have d0 := K4.out.cellV (i := 0) (v := .slice Ab nb cb) rfl
    have d1 := K4.out.cellV (i := 1) (v := .map mb) rfl
    have d2 := K3.out.cellV (i := 0) (v := .slice Aa na ca) rfl
    have d3 := K3.out.cellV (i := 1) (v := .map ma) rfl
    go_wp2_with fail
    refine (one_any i 0 0 true HA.out HC.out HI.out (by decide)).mono ?_
    rintro e w6 ⟨P2, p2, r2, Q2, q2, s2, rfl, hk2, hn2, hb⟩
    clear d0 d1 d2 d3
    go_upto_region 12 with fail
    have hba := bstep hb (bal (bre w6) (.cells #[.int .u32 i, .slice P2 p2 r2, .slice Q2 q2 s2] 93))
    have hbo := bal (bre w6) (.cells #[.int .u32 i, .slice P2 p2 r2, .slice Q2 q2 s2] 93)
    have xK := Blk.new w6 93 #[.int .u32 i, .slice P2 p2 r2, .slice Q2 q2 s2]
    replace hk2 := hk2.below hbo
    replace hn2 := hn2.below hbo
    obtain ⟨Y2, hY2⟩ : ∃ Y, w6.alloc (.cells #[.int .u32 i, .slice P2 p2 r2, .slice Q2 q2 s2] 93) = Y := ⟨_, rfl⟩
    rw [hY2] at hba hbo xK hk2 hn2 ⊢
    have HS2 := Lib.hid hbo.size
    replace HY := Lib.hid (bstep HY.out hba)
    replace K3 := Lib.hid (K3.out.belowS hba)
    replace K4 := Lib.hid (K4.out.belowS hba)
    replace HA := Lib.hid (HA.out.below hba)
    replace HC := Lib.hid (HC.out.below hba)
    replace KB1 := Lib.hid (KB1.out.belowS hba)
    replace HKP1 := Lib.hid (HKP1.out.below hba)
    replace HNP1 := Lib.hid (HNP1.out.below hba)
    have KB2 := Lib.hid xK
    have HKP2 := Lib.hid hk2
    have HNP2 := Lib.hid hn2
    clear hb hba hbo xK hk2 hn2 hY2
    have d0 := K4.out.cellV (i := 0) (v := .slice Ab nb cb) rfl
    have d1 := K4.out.cellV (i := 1) (v := .map mb) rfl
    have d2 := K3.out.cellV (i := 0) (v := .slice Aa na ca) rfl
    have d3 := K3.out.cellV (i := 1) (v := .map ma) rfl
    go_wp2_with fail
    refine (one_any i 0 0 false HA.out HC.out HI.out (by decide)).mono ?_
    rintro e w7 ⟨P3, p3, r3, Q3, q3, s3, rfl, hk3, hn3, hb⟩
    clear d0 d1 d2 d3
    go_upto_region 13 with fail
    have hba := bstep hb (bal (bre w7) (.cells #[.int .u32 i, .slice P3 p3 r3, .slice Q3 q3 s3] 93))
    have hbo := bal (bre w7) (.cells #[.int .u32 i, .slice P3 p3 r3, .slice Q3 q3 s3] 93)
    have xK := Blk.new w7 93 #[.int .u32 i, .slice P3 p3 r3, .slice Q3 q3 s3]
    replace hk3 := hk3.below hbo
    replace hn3 := hn3.below hbo
    obtain ⟨Y3, hY3⟩ : ∃ Y, w7.alloc (.cells #[.int .u32 i, .slice P3 p3 r3, .slice Q3 q3 s3] 93) = Y := ⟨_, rfl⟩
    rw [hY3] at hba hbo xK hk3 hn3 ⊢
    have HS3 := Lib.hid hbo.size
    replace HY := Lib.hid (bstep HY.out hba)
    replace K3 := Lib.hid (K3.out.belowS hba)
    replace K4 := Lib.hid (K4.out.belowS hba)
    replace HA := Lib.hid (HA.out.below hba)
    replace HC := Lib.hid (HC.out.below hba)
    replace KB1 := Lib.hid (KB1.out.belowS hba)
    replace HKP1 := Lib.hid (HKP1.out.below hba)
    replace HNP1 := Lib.hid (HNP1.out.below hba)
    replace KB2 := Lib.hid (KB2.out.belowS hba)
    replace HKP2 := Lib.hid (HKP2.out.below hba)
    replace HNP2 := Lib.hid (HNP2.out.below hba)
    have KB3 := Lib.hid xK
    have HKP3 := Lib.hid hk3
    have HNP3 := Lib.hid hn3
    clear hb hba hbo xK hk3 hn3 hY3
    go_upto_region 13 with fail
    go_cut [94] from 100 (fun s94 wx => s94 = .bool false ∧ Below Y3.heap.size Y3 wx)
    case first =>
      as_aux_lemma =>
        have HBW := Lib.hid (show Below Y3.heap.size Y3 Y3.drew from (bre Y3).drew)
        refine wp_region_noPanic ?_
        refine wp_region_held_drew (S := (fun w' => w'.cell? ⟨w5.heap.size, 2, none⟩ = some (.slice Q1 q1 s1) ∧ w'.cell? ⟨w2.heap.size + 1, 0, none⟩ = some (.slice Ab nb cb) ∧ w'.cell? ⟨w2.heap.size + 1, 1, none⟩ = some (.map mb) ∧ w'.cell? ⟨w5.heap.size, 1, none⟩ = some (.slice P1 p1 r1) ∧ w'.cell? ⟨w6.heap.size, 2, none⟩ = some (.slice Q2 q2 s2) ∧ w'.cell? ⟨w6.heap.size, 1, none⟩ = some (.slice P2 p2 r2) ∧ w'.cell? ⟨w7.heap.size, 2, none⟩ = some (.slice Q3 q3 s3) ∧ w'.cell? ⟨w2.heap.size, 0, none⟩ = some (.slice Aa na ca) ∧ w'.cell? ⟨w2.heap.size, 1, none⟩ = some (.map ma))) (by kernel_rfl) ?_ (fun hHeld => ?_)
        · (try dsimp only)
          exact ⟨(KB1.out.belowS HBW.out).cellV (i := 2) rfl, (K4.out.belowS HBW.out).cellV (i := 0) rfl, (K4.out.belowS HBW.out).cellV (i := 1) rfl, (KB1.out.belowS HBW.out).cellV (i := 1) rfl, (KB2.out.belowS HBW.out).cellV (i := 2) rfl, (KB2.out.belowS HBW.out).cellV (i := 1) rfl, (KB3.out.belowS HBW.out).cellV (i := 2) rfl, (K3.out.belowS HBW.out).cellV (i := 0) rfl, (K3.out.belowS HBW.out).cellV (i := 1) rfl⟩
        refine Tr.take_at 0 49 (.pointer (some ⟨w5.heap.size, 2, none⟩)) rfl rfl (by kernel_rfl) (by kernel_rfl) (by kernel_rfl) (fun _ _ _ h => h) (Or.inl ⟨by rfl, ?_⟩) (by assumption) ?_
        · intro W0 hSw
          (try dsimp only at hSw)
          go_simp
        simp only [List.set_cons_zero, List.set_cons_succ]
        refine Tr.take_at 1 50 (.agg #[.slice Q1 q1 s1]) rfl rfl (by kernel_rfl) (by kernel_rfl) (by kernel_rfl) (fun _ _ _ h => h) (Or.inl ⟨by rfl, ?_⟩) (by assumption) ?_
        · intro W0 hSw
          (try dsimp only at hSw)
          go_simp
        simp only [List.set_cons_zero, List.set_cons_succ]
        refine Tr.take_at 2 51 (.agg #[.slice Ab nb cb, .map mb]) rfl rfl (by kernel_rfl) (by kernel_rfl) (by kernel_rfl) (fun _ _ _ h => h) (Or.inl ⟨by rfl, ?_⟩) (by assumption) ?_
        · intro W0 hSw
          (try dsimp only at hSw)
          go_simp
        simp only [List.set_cons_zero, List.set_cons_succ]
        refine Tr.take_at 3 52 (.int .u32 i) rfl rfl (by kernel_rfl) (by kernel_rfl) (by kernel_rfl) (fun _ _ _ h => h) (Or.inl ⟨by rfl, ?_⟩) (by assumption) ?_
        · intro W0 hSw
          (try dsimp only at hSw)
          go_simp
        simp only [List.set_cons_zero, List.set_cons_succ]
        refine wpAnyH_ready (rs := [4]) (by kernel_rfl) (by simp) ?_
        refine AllReadyH.cons rfl (fun K hK => ?_) AllReadyH.nil
        go_simp
        refine ((HC.out.below HBW.out).call _ (bre _) i HI.out).mono ?_
        rintro e wc4 ⟨u, rfl, hr, hbA⟩
        obtain ⟨A4, n4, c4, rfl⟩ := hr.form
        have HV1 := Lib.hid hr
        clear hr
        replace HBW := Lib.hid (bstep HBW.out hbA)
        clear hbA
        go_simp
        refine hK.out _ _ ?_ (fun hHeld => ?_)
        · (try dsimp only)
          exact ⟨(KB1.out.belowS HBW.out).cellV (i := 2) rfl, (K4.out.belowS HBW.out).cellV (i := 0) rfl, (K4.out.belowS HBW.out).cellV (i := 1) rfl, (KB1.out.belowS HBW.out).cellV (i := 1) rfl, (KB2.out.belowS HBW.out).cellV (i := 2) rfl, (KB2.out.belowS HBW.out).cellV (i := 1) rfl, (KB3.out.belowS HBW.out).cellV (i := 2) rfl, (K3.out.belowS HBW.out).cellV (i := 0) rfl, (K3.out.belowS HBW.out).cellV (i := 1) rfl⟩
        clear hK K
        refine wpAnyH_ready (rs := [5]) (by kernel_rfl) (by simp) ?_
        refine AllReadyH.cons rfl (fun K hK => ?_) AllReadyH.nil
        go_simp
        refine (sameP (HNP1.out.below HBW.out) HV1.out (fun x y => by simp [newP, keptP])).mono ?_
        rintro e wc5 ⟨rfl, hbA⟩
        replace HBW := Lib.hid (bstep HBW.out hbA)
        replace HV1 := Lib.hid (HV1.out.below hbA)
        clear hbA
        go_simp
        refine hK.out _ _ ?_ (fun hHeld => ?_)
        · (try dsimp only)
          exact ⟨(KB1.out.belowS HBW.out).cellV (i := 2) rfl, (K4.out.belowS HBW.out).cellV (i := 0) rfl, (K4.out.belowS HBW.out).cellV (i := 1) rfl, (KB1.out.belowS HBW.out).cellV (i := 1) rfl, (KB2.out.belowS HBW.out).cellV (i := 2) rfl, (KB2.out.belowS HBW.out).cellV (i := 1) rfl, (KB3.out.belowS HBW.out).cellV (i := 2) rfl, (K3.out.belowS HBW.out).cellV (i := 0) rfl, (K3.out.belowS HBW.out).cellV (i := 1) rfl⟩
        clear hK K
        refine Tr.take_at 6 55 (.bool false) rfl rfl (by kernel_rfl) (by kernel_rfl) (by kernel_rfl) (fun _ _ _ h => h) (Or.inl ⟨by rfl, ?_⟩) (by assumption) ?_
        · intro W0 hSw
          (try dsimp only at hSw)
          go_simp
        simp only [List.set_cons_zero, List.set_cons_succ]
        refine Tr.take_at 7 56 (.bool false) rfl rfl (by kernel_rfl) (by kernel_rfl) (by kernel_rfl) (fun _ _ _ h => h) (Or.inl ⟨by rfl, ?_⟩) (by assumption) ?_
        · intro W0 hSw
          (try dsimp only at hSw)
          go_simp
        simp only [List.set_cons_zero, List.set_cons_succ]
        refine Tr.take_at 8 57 (.pointer (some ⟨w5.heap.size, 1, none⟩)) rfl rfl (by kernel_rfl) (by kernel_rfl) (by kernel_rfl) (fun _ _ _ h => h) (Or.inl ⟨by rfl, ?_⟩) (by assumption) ?_
        · intro W0 hSw
          (try dsimp only at hSw)
          go_simp
        simp only [List.set_cons_zero, List.set_cons_succ]
        refine Tr.take_at 9 58 (.agg #[.slice P1 p1 r1]) rfl rfl (by kernel_rfl) (by kernel_rfl) (by kernel_rfl) (fun _ _ _ h => h) (Or.inl ⟨by rfl, ?_⟩) (by assumption) ?_
        · intro W0 hSw
          (try dsimp only at hSw)
          go_simp
        simp only [List.set_cons_zero, List.set_cons_succ]
        refine wpAnyH_ready (rs := [10]) (by kernel_rfl) (by simp) ?_
        refine AllReadyH.cons rfl (fun K hK => ?_) AllReadyH.nil
        go_simp
        refine (emptyP_yes (HKP1.out.below HBW.out) (fun x y => by simp [keptP])).mono ?_
        rintro e wc10 ⟨rfl, hbA⟩
        replace HBW := Lib.hid (bstep HBW.out hbA)
        replace HV1 := Lib.hid (HV1.out.below hbA)
        clear hbA
        go_simp
        refine hK.out _ _ ?_ (fun hHeld => ?_)
        · (try dsimp only)
          exact ⟨(KB1.out.belowS HBW.out).cellV (i := 2) rfl, (K4.out.belowS HBW.out).cellV (i := 0) rfl, (K4.out.belowS HBW.out).cellV (i := 1) rfl, (KB1.out.belowS HBW.out).cellV (i := 1) rfl, (KB2.out.belowS HBW.out).cellV (i := 2) rfl, (KB2.out.belowS HBW.out).cellV (i := 1) rfl, (KB3.out.belowS HBW.out).cellV (i := 2) rfl, (K3.out.belowS HBW.out).cellV (i := 0) rfl, (K3.out.belowS HBW.out).cellV (i := 1) rfl⟩
        clear hK K
        refine Tr.take_at 11 60 (.bool false) rfl rfl (by kernel_rfl) (by kernel_rfl) (by kernel_rfl) (fun _ _ _ h => h) (Or.inl ⟨by rfl, ?_⟩) (by assumption) ?_
        · intro W0 hSw
          (try dsimp only at hSw)
          go_simp
        simp only [List.set_cons_zero, List.set_cons_succ]
        refine Tr.take_at 12 61 (.bool false) rfl rfl (by kernel_rfl) (by kernel_rfl) (by kernel_rfl) (fun _ _ _ h => h) (Or.inl ⟨by rfl, ?_⟩) (by assumption) ?_
        · intro W0 hSw
          (try dsimp only at hSw)
          go_simp
        simp only [List.set_cons_zero, List.set_cons_succ]
        refine Tr.take_at 13 62 (.bool false) rfl rfl (by kernel_rfl) (by kernel_rfl) (by kernel_rfl) (fun _ _ _ h => h) (Or.inl ⟨by rfl, ?_⟩) (by assumption) ?_
        · intro W0 hSw
          (try dsimp only at hSw)
          go_simp
        simp only [List.set_cons_zero, List.set_cons_succ]
        refine Tr.take_at 14 63 (.pointer (some ⟨w6.heap.size, 2, none⟩)) rfl rfl (by kernel_rfl) (by kernel_rfl) (by kernel_rfl) (fun _ _ _ h => h) (Or.inl ⟨by rfl, ?_⟩) (by assumption) ?_
        · intro W0 hSw
          (try dsimp only at hSw)
          go_simp
        simp only [List.set_cons_zero, List.set_cons_succ]
        refine Tr.take_at 15 64 (.agg #[.slice Q2 q2 s2]) rfl rfl (by kernel_rfl) (by kernel_rfl) (by kernel_rfl) (fun _ _ _ h => h) (Or.inl ⟨by rfl, ?_⟩) (by assumption) ?_
        · intro W0 hSw
          (try dsimp only at hSw)
          go_simp
        simp only [List.set_cons_zero, List.set_cons_succ]
        refine Tr.take_at 16 65 (.agg #[.slice Ab nb cb, .map mb]) rfl rfl (by kernel_rfl) (by kernel_rfl) (by kernel_rfl) (fun _ _ _ h => h) (Or.inl ⟨by rfl, ?_⟩) (by assumption) ?_
        · intro W0 hSw
          (try dsimp only at hSw)
          go_simp
        simp only [List.set_cons_zero, List.set_cons_succ]
        refine Tr.take_at 17 66 (.int .u32 i) rfl rfl (by kernel_rfl) (by kernel_rfl) (by kernel_rfl) (fun _ _ _ h => h) (Or.inl ⟨by rfl, ?_⟩) (by assumption) ?_
        · intro W0 hSw
          (try dsimp only at hSw)
          go_simp
        simp only [List.set_cons_zero, List.set_cons_succ]
        refine wpAnyH_ready (rs := [18]) (by kernel_rfl) (by simp) ?_
        refine AllReadyH.cons rfl (fun K hK => ?_) AllReadyH.nil
        go_simp
        refine ((HC.out.below HBW.out).call _ (bre _) i HI.out).mono ?_
        rintro e wc18 ⟨u, rfl, hr, hbA⟩
        obtain ⟨A18, n18, c18, rfl⟩ := hr.form
        have HV2 := Lib.hid hr
        clear hr
        replace HBW := Lib.hid (bstep HBW.out hbA)
        replace HV1 := Lib.hid (HV1.out.below hbA)
        clear hbA
        go_simp
        refine hK.out _ _ ?_ (fun hHeld => ?_)
        · (try dsimp only)
          exact ⟨(KB1.out.belowS HBW.out).cellV (i := 2) rfl, (K4.out.belowS HBW.out).cellV (i := 0) rfl, (K4.out.belowS HBW.out).cellV (i := 1) rfl, (KB1.out.belowS HBW.out).cellV (i := 1) rfl, (KB2.out.belowS HBW.out).cellV (i := 2) rfl, (KB2.out.belowS HBW.out).cellV (i := 1) rfl, (KB3.out.belowS HBW.out).cellV (i := 2) rfl, (K3.out.belowS HBW.out).cellV (i := 0) rfl, (K3.out.belowS HBW.out).cellV (i := 1) rfl⟩
        clear hK K
        refine wpAnyH_ready (rs := [19]) (by kernel_rfl) (by simp) ?_
        refine AllReadyH.cons rfl (fun K hK => ?_) AllReadyH.nil
        go_simp
        refine (sameP (HNP2.out.below HBW.out) HV2.out (fun x y => by simp [newP, keptP])).mono ?_
        rintro e wc19 ⟨rfl, hbA⟩
        replace HBW := Lib.hid (bstep HBW.out hbA)
        replace HV1 := Lib.hid (HV1.out.below hbA)
        replace HV2 := Lib.hid (HV2.out.below hbA)
        clear hbA
        go_simp
        refine hK.out _ _ ?_ (fun hHeld => ?_)
        · (try dsimp only)
          exact ⟨(KB1.out.belowS HBW.out).cellV (i := 2) rfl, (K4.out.belowS HBW.out).cellV (i := 0) rfl, (K4.out.belowS HBW.out).cellV (i := 1) rfl, (KB1.out.belowS HBW.out).cellV (i := 1) rfl, (KB2.out.belowS HBW.out).cellV (i := 2) rfl, (KB2.out.belowS HBW.out).cellV (i := 1) rfl, (KB3.out.belowS HBW.out).cellV (i := 2) rfl, (K3.out.belowS HBW.out).cellV (i := 0) rfl, (K3.out.belowS HBW.out).cellV (i := 1) rfl⟩
        clear hK K
        refine Tr.take_at 20 69 (.bool false) rfl rfl (by kernel_rfl) (by kernel_rfl) (by kernel_rfl) (fun _ _ _ h => h) (Or.inl ⟨by rfl, ?_⟩) (by assumption) ?_
        · intro W0 hSw
          (try dsimp only at hSw)
          go_simp
        simp only [List.set_cons_zero, List.set_cons_succ]
        refine Tr.take_at 21 70 (.bool false) rfl rfl (by kernel_rfl) (by kernel_rfl) (by kernel_rfl) (fun _ _ _ h => h) (Or.inl ⟨by rfl, ?_⟩) (by assumption) ?_
        · intro W0 hSw
          (try dsimp only at hSw)
          go_simp
        simp only [List.set_cons_zero, List.set_cons_succ]
        refine Tr.take_at 22 71 (.bool false) rfl rfl (by kernel_rfl) (by kernel_rfl) (by kernel_rfl) (fun _ _ _ h => h) (Or.inl ⟨by rfl, ?_⟩) (by assumption) ?_
        · intro W0 hSw
          (try dsimp only at hSw)
          go_simp
        simp only [List.set_cons_zero, List.set_cons_succ]
        refine Tr.take_at 23 72 (.pointer (some ⟨w6.heap.size, 1, none⟩)) rfl rfl (by kernel_rfl) (by kernel_rfl) (by kernel_rfl) (fun _ _ _ h => h) (Or.inl ⟨by rfl, ?_⟩) (by assumption) ?_
        · intro W0 hSw
          (try dsimp only at hSw)
          go_simp
        simp only [List.set_cons_zero, List.set_cons_succ]
        refine Tr.take_at 24 73 (.agg #[.slice P2 p2 r2]) rfl rfl (by kernel_rfl) (by kernel_rfl) (by kernel_rfl) (fun _ _ _ h => h) (Or.inl ⟨by rfl, ?_⟩) (by assumption) ?_
        · intro W0 hSw
          (try dsimp only at hSw)
          go_simp
        simp only [List.set_cons_zero, List.set_cons_succ]
        refine wpAnyH_ready (rs := [25]) (by kernel_rfl) (by simp) ?_
        refine AllReadyH.cons rfl (fun K hK => ?_) AllReadyH.nil
        go_simp
        refine (emptyP_yes (HKP2.out.below HBW.out) (fun x y => by simp [keptP])).mono ?_
        rintro e wc25 ⟨rfl, hbA⟩
        replace HBW := Lib.hid (bstep HBW.out hbA)
        replace HV1 := Lib.hid (HV1.out.below hbA)
        replace HV2 := Lib.hid (HV2.out.below hbA)
        clear hbA
        go_simp
        refine hK.out _ _ ?_ (fun hHeld => ?_)
        · (try dsimp only)
          exact ⟨(KB1.out.belowS HBW.out).cellV (i := 2) rfl, (K4.out.belowS HBW.out).cellV (i := 0) rfl, (K4.out.belowS HBW.out).cellV (i := 1) rfl, (KB1.out.belowS HBW.out).cellV (i := 1) rfl, (KB2.out.belowS HBW.out).cellV (i := 2) rfl, (KB2.out.belowS HBW.out).cellV (i := 1) rfl, (KB3.out.belowS HBW.out).cellV (i := 2) rfl, (K3.out.belowS HBW.out).cellV (i := 0) rfl, (K3.out.belowS HBW.out).cellV (i := 1) rfl⟩
        clear hK K
        refine Tr.take_at 26 75 (.bool false) rfl rfl (by kernel_rfl) (by kernel_rfl) (by kernel_rfl) (fun _ _ _ h => h) (Or.inl ⟨by rfl, ?_⟩) (by assumption) ?_
        · intro W0 hSw
          (try dsimp only at hSw)
          go_simp
        simp only [List.set_cons_zero, List.set_cons_succ]
        refine Tr.take_at 27 76 (.bool false) rfl rfl (by kernel_rfl) (by kernel_rfl) (by kernel_rfl) (fun _ _ _ h => h) (Or.inl ⟨by rfl, ?_⟩) (by assumption) ?_
        · intro W0 hSw
          (try dsimp only at hSw)
          go_simp
        simp only [List.set_cons_zero, List.set_cons_succ]
        refine Tr.take_at 28 77 (.bool false) rfl rfl (by kernel_rfl) (by kernel_rfl) (by kernel_rfl) (fun _ _ _ h => h) (Or.inl ⟨by rfl, ?_⟩) (by assumption) ?_
        · intro W0 hSw
          (try dsimp only at hSw)
          go_simp
        simp only [List.set_cons_zero, List.set_cons_succ]
        refine Tr.take_at 29 78 (.pointer (some ⟨w7.heap.size, 2, none⟩)) rfl rfl (by kernel_rfl) (by kernel_rfl) (by kernel_rfl) (fun _ _ _ h => h) (Or.inl ⟨by rfl, ?_⟩) (by assumption) ?_
        · intro W0 hSw
          (try dsimp only at hSw)
          go_simp
        simp only [List.set_cons_zero, List.set_cons_succ]
        refine Tr.take_at 30 79 (.agg #[.slice Q3 q3 s3]) rfl rfl (by kernel_rfl) (by kernel_rfl) (by kernel_rfl) (fun _ _ _ h => h) (Or.inl ⟨by rfl, ?_⟩) (by assumption) ?_
        · intro W0 hSw
          (try dsimp only at hSw)
          go_simp
        simp only [List.set_cons_zero, List.set_cons_succ]
        refine Tr.take_at 31 80 (.agg #[.slice Ab nb cb, .map mb]) rfl rfl (by kernel_rfl) (by kernel_rfl) (by kernel_rfl) (fun _ _ _ h => h) (Or.inl ⟨by rfl, ?_⟩) (by assumption) ?_
        · intro W0 hSw
          (try dsimp only at hSw)
          go_simp
        simp only [List.set_cons_zero, List.set_cons_succ]
        refine Tr.take_at 32 81 (.agg #[.slice Aa na ca, .map ma]) rfl rfl (by kernel_rfl) (by kernel_rfl) (by kernel_rfl) (fun _ _ _ h => h) (Or.inl ⟨by rfl, ?_⟩) (by assumption) ?_
        · intro W0 hSw
          (try dsimp only at hSw)
          go_simp
        simp only [List.set_cons_zero, List.set_cons_succ]
        refine Tr.take_at 33 82 (.int .u32 i) rfl rfl (by kernel_rfl) (by kernel_rfl) (by kernel_rfl) (fun _ _ _ h => h) (Or.inl ⟨by rfl, ?_⟩) (by assumption) ?_
        · intro W0 hSw
          (try dsimp only at hSw)
          go_simp
        simp only [List.set_cons_zero, List.set_cons_succ]
        refine wpAnyH_ready (rs := [34]) (by kernel_rfl) (by simp) ?_
        refine AllReadyH.cons rfl (fun K hK => ?_) AllReadyH.nil
        go_simp
        refine (lostP_any i (HC.out.below HBW.out) (HA.out.below HBW.out) HI.out).mono ?_
        rintro e wc34 ⟨u, rfl, hr, hbA⟩
        obtain ⟨A34, n34, c34, rfl⟩ := hr.form
        have HL1 := Lib.hid hr
        clear hr
        replace HBW := Lib.hid (bstep HBW.out hbA)
        replace HV1 := Lib.hid (HV1.out.below hbA)
        replace HV2 := Lib.hid (HV2.out.below hbA)
        clear hbA
        go_simp
        refine hK.out _ _ ?_ (fun hHeld => ?_)
        · (try dsimp only)
          exact ⟨(KB1.out.belowS HBW.out).cellV (i := 2) rfl, (K4.out.belowS HBW.out).cellV (i := 0) rfl, (K4.out.belowS HBW.out).cellV (i := 1) rfl, (KB1.out.belowS HBW.out).cellV (i := 1) rfl, (KB2.out.belowS HBW.out).cellV (i := 2) rfl, (KB2.out.belowS HBW.out).cellV (i := 1) rfl, (KB3.out.belowS HBW.out).cellV (i := 2) rfl, (K3.out.belowS HBW.out).cellV (i := 0) rfl, (K3.out.belowS HBW.out).cellV (i := 1) rfl⟩
        clear hK K
        refine wpAnyH_ready (rs := [35]) (by kernel_rfl) (by simp) ?_
        refine AllReadyH.cons rfl (fun K hK => ?_) AllReadyH.nil
        go_simp
        refine (sameP (HNP3.out.below HBW.out) HL1.out (fun x y => by simp [newP, keptP, lostP]; cases U i x y <;> simp)).mono ?_
        rintro e wc35 ⟨rfl, hbA⟩
        replace HBW := Lib.hid (bstep HBW.out hbA)
        replace HV1 := Lib.hid (HV1.out.below hbA)
        replace HV2 := Lib.hid (HV2.out.below hbA)
        replace HL1 := Lib.hid (HL1.out.below hbA)
        clear hbA
        go_simp
        refine hK.out _ _ ?_ (fun hHeld => ?_)
        · (try dsimp only)
          exact ⟨(KB1.out.belowS HBW.out).cellV (i := 2) rfl, (K4.out.belowS HBW.out).cellV (i := 0) rfl, (K4.out.belowS HBW.out).cellV (i := 1) rfl, (KB1.out.belowS HBW.out).cellV (i := 1) rfl, (KB2.out.belowS HBW.out).cellV (i := 2) rfl, (KB2.out.belowS HBW.out).cellV (i := 1) rfl, (KB3.out.belowS HBW.out).cellV (i := 2) rfl, (K3.out.belowS HBW.out).cellV (i := 0) rfl, (K3.out.belowS HBW.out).cellV (i := 1) rfl⟩
        clear hK K
        refine Tr.take_at 36 85 (.bool false) rfl rfl (by kernel_rfl) (by kernel_rfl) (by kernel_rfl) (fun _ _ _ h => h) (Or.inl ⟨by rfl, ?_⟩) (by assumption) ?_
        · intro W0 hSw
          (try dsimp only at hSw)
          go_simp
        simp only [List.set_cons_zero, List.set_cons_succ]
        refine Tr.take_at 37 86 (.bool false) rfl rfl (by kernel_rfl) (by kernel_rfl) (by kernel_rfl) (fun _ _ _ h => h) (Or.inl ⟨by rfl, ?_⟩) (by assumption) ?_
        · intro W0 hSw
          (try dsimp only at hSw)
          go_simp
        simp only [List.set_cons_zero, List.set_cons_succ]
        refine Tr.take_at 38 87 (.bool false) rfl rfl (by kernel_rfl) (by kernel_rfl) (by kernel_rfl) (fun _ _ _ h => h) (Or.inl ⟨by rfl, ?_⟩) (by assumption) ?_
        · intro W0 hSw
          (try dsimp only at hSw)
          go_simp
        simp only [List.set_cons_zero, List.set_cons_succ]
        refine Tr.take_at 39 88 (.agg #[.slice Ab nb cb, .map mb]) rfl rfl (by kernel_rfl) (by kernel_rfl) (by kernel_rfl) (fun _ _ _ h => h) (Or.inl ⟨by rfl, ?_⟩) (by assumption) ?_
        · intro W0 hSw
          (try dsimp only at hSw)
          go_simp
        simp only [List.set_cons_zero, List.set_cons_succ]
        refine Tr.take_at 40 89 (.agg #[.slice Ab nb cb, .map mb]) rfl rfl (by kernel_rfl) (by kernel_rfl) (by kernel_rfl) (fun _ _ _ h => h) (Or.inl ⟨by rfl, ?_⟩) (by assumption) ?_
        · intro W0 hSw
          (try dsimp only at hSw)
          go_simp
        simp only [List.set_cons_zero, List.set_cons_succ]
        refine Tr.take_at 41 90 (.int .u32 i) rfl rfl (by kernel_rfl) (by kernel_rfl) (by kernel_rfl) (fun _ _ _ h => h) (Or.inl ⟨by rfl, ?_⟩) (by assumption) ?_
        · intro W0 hSw
          (try dsimp only at hSw)
          go_simp
        simp only [List.set_cons_zero, List.set_cons_succ]
        refine wpAnyH_ready (rs := [42]) (by kernel_rfl) (by simp) ?_
        refine AllReadyH.cons rfl (fun K hK => ?_) AllReadyH.nil
        go_simp
        refine (lostP_any i (HC.out.below HBW.out) (HC.out.below HBW.out) HI.out).mono ?_
        rintro e wc42 ⟨u, rfl, hr, hbA⟩
        obtain ⟨A42, n42, c42, rfl⟩ := hr.form
        have HL2 := Lib.hid hr
        clear hr
        replace HBW := Lib.hid (bstep HBW.out hbA)
        replace HV1 := Lib.hid (HV1.out.below hbA)
        replace HV2 := Lib.hid (HV2.out.below hbA)
        replace HL1 := Lib.hid (HL1.out.below hbA)
        clear hbA
        go_simp
        refine hK.out _ _ ?_ (fun hHeld => ?_)
        · (try dsimp only)
          exact ⟨(KB1.out.belowS HBW.out).cellV (i := 2) rfl, (K4.out.belowS HBW.out).cellV (i := 0) rfl, (K4.out.belowS HBW.out).cellV (i := 1) rfl, (KB1.out.belowS HBW.out).cellV (i := 1) rfl, (KB2.out.belowS HBW.out).cellV (i := 2) rfl, (KB2.out.belowS HBW.out).cellV (i := 1) rfl, (KB3.out.belowS HBW.out).cellV (i := 2) rfl, (K3.out.belowS HBW.out).cellV (i := 0) rfl, (K3.out.belowS HBW.out).cellV (i := 1) rfl⟩
        clear hK K
        refine wpAnyH_ready (rs := [43]) (by kernel_rfl) (by simp) ?_
        refine AllReadyH.cons rfl (fun K hK => ?_) AllReadyH.nil
        go_simp
        refine (emptyP_yes HL2.out (fun x y => by simp [lostP])).mono ?_
        rintro e wc43 ⟨rfl, hbA⟩
        replace HBW := Lib.hid (bstep HBW.out hbA)
        replace HV1 := Lib.hid (HV1.out.below hbA)
        replace HV2 := Lib.hid (HV2.out.below hbA)
        replace HL1 := Lib.hid (HL1.out.below hbA)
        replace HL2 := Lib.hid (HL2.out.below hbA)
        clear hbA
        go_simp
        refine hK.out _ _ ?_ (fun hHeld => ?_)
        · (try dsimp only)
          exact ⟨(KB1.out.belowS HBW.out).cellV (i := 2) rfl, (K4.out.belowS HBW.out).cellV (i := 0) rfl, (K4.out.belowS HBW.out).cellV (i := 1) rfl, (KB1.out.belowS HBW.out).cellV (i := 1) rfl, (KB2.out.belowS HBW.out).cellV (i := 2) rfl, (KB2.out.belowS HBW.out).cellV (i := 1) rfl, (KB3.out.belowS HBW.out).cellV (i := 2) rfl, (K3.out.belowS HBW.out).cellV (i := 0) rfl, (K3.out.belowS HBW.out).cellV (i := 1) rfl⟩
        clear hK K
        refine Tr.take_at 44 93 (.bool false) rfl rfl (by kernel_rfl) (by kernel_rfl) (by kernel_rfl) (fun _ _ _ h => h) (Or.inl ⟨by rfl, ?_⟩) (by assumption) ?_
        · intro W0 hSw
          (try dsimp only at hSw)
          go_simp
        simp only [List.set_cons_zero, List.set_cons_succ]
        refine Tr.take_at 45 94 (.bool false) rfl rfl (by kernel_rfl) (by kernel_rfl) (by kernel_rfl) (fun _ _ _ h => h) (Or.inl ⟨by rfl, ?_⟩) (by assumption) ?_
        · intro W0 hSw
          (try dsimp only at hSw)
          go_simp
        simp only [List.set_cons_zero, List.set_cons_succ]
        refine wpAnyH_done (by kernel_rfl) ?_ _
        refine NoPanic.normal ?_
        go_wp2_with fail
        go_meet
        exact ⟨rfl, HBW.out⟩
    obtain ⟨rfl, hbc⟩ := hcut
    have HWN := Lib.hid (bstep HW.out (bstep HY.out hbc))
    clear hbc
    go_wp2_with fail
    go_roundw
    case rel => exact ⟨k + 1, rfl, by omega, HWN.out⟩
    case measure => simp [intOf]; omega
end Go.Proofs.YtbkkecijcijhdaaGreat
end
