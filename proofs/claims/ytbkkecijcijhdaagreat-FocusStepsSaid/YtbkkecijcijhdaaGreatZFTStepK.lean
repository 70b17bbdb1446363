/-
  The walk of cross.Path.
-/
import Derived.Test.YtbkkecijcijhdaaGreatZFTStepJ
section
namespace Go.Proofs.YtbkkecijcijhdaaGreat
open Go.RowKit Go.Maps Go.Shelf

/-- the steps between two windows, by their paths. -/
def stepsF (pa pb : List Int) (a b : Int) : List SP :=
  if a = b then [] else
  match meetF pa pb with
  | none =>
    let l1 := if pa.length = 0 then [] else upS false 4 (abL pa 0) (doS [] ⟨a, false, 3⟩)
    if pb.length = 0 then l1 else doS (upS true 4 (abL pb 0).reverse l1) ⟨b, true, 3⟩
  | some m =>
    if m = a then doS (upS true 1 (abL pb a).reverse (doS [] ⟨a, false, 2⟩)) ⟨b, true, 0⟩
    else if m = b then doS (upS false 1 (abL pa b) (doS [] ⟨a, false, 0⟩)) ⟨b, true, 2⟩
    else doS (upS true 4 (abL pb m).reverse (upS false 4 (abL pa m) (doS [] ⟨a, false, 3⟩))) ⟨b, true, 3⟩
theorem blkL_noI {w : World} {g : Nat} {t : TypeId} (h : Blk w g t #[.slice none 0 0]) : NoInt w g := fun o k i e => by
  rw [h.cell] at e
  match o with
  | 0 => simp at e
  | o + 1 => simp at e
section
variable {w : World} {ns : Nodes} {mk mu : Option Nat} {nk : Nat} {fk : Int → Option Value}
set_option maxRecDepth 100000 in
set_option maxHeartbeats 4000000 in
theorem path36_any (a b : Int) (ha : 0 ≤ a ∧ a ≤ 4294967295) (hb : 0 ≤ b ∧ b ≤ 4294967295) (hT : TreeIs w (.agg #[.map mk, .map mu]) ns mk mu nk fk) (hok : TreeOk ns) :
    Calls Tryz.prog 75 #[.agg #[.map mk, .map mu], .int .u32 a, .int .u32 b] w fun e w' => ∃ u, e = .returned u ∧ w'.ownsRow w.heap.size 148 3 u (stepsF (pathN ns a) (pathN ns b) a b).length (SPs (stepsF (pathN ns a) (pathN ns b) a b)) ∧ Below w.heap.size w w' := by
  have hla : (pathN ns a).length ≤ 1001 := by have := path_len hok a; have := hT.few; omega
  have hlb : (pathN ns b).length ≤ 1001 := by have := path_len hok b; have := hT.few; omega
  have xB := bal (bal (bre w) (.cells #[.map mk, .map mu] 34)) (.cells #[.slice none 0 0] 145)
  have xK3 := (Blk.new w 34 #[.map mk, .map mu]).alloc (.cells #[.slice none 0 0] 145)
  have xKL := blk_new2 w (.cells #[.map mk, .map mu] 34) 145 #[.slice none 0 0]
  have xT := hT.below xB
  go_enter Tryz.func75, Tryz.ntmps75
  go_upto_region 3 with fail
  obtain ⟨X0, hX0⟩ : ∃ X0, (w.alloc (.cells #[.map mk, .map mu] 34)).alloc (.cells #[.slice none 0 0] 145) = X0 := ⟨_, rfl⟩
  rw [hX0] at xB xK3 xKL xT ⊢
  have HB := Lib.hid xB
  have K3 := Lib.hid xK3
  have KL := Lib.hid xKL
  have HT := Lib.hid xT
  clear xB xK3 xKL xT hX0 hT
  by_cases hab : a = b
  · have HE := Lib.hid (show stepsF (pathN ns a) (pathN ns b) a b = [] by unfold stepsF; rw [if_pos hab])
    have hab' : (a == b) = true := by simpa using hab
    clear hab
    go_wp2_with fail
    go_ret
    rw [HE.out]
    exact ⟨_, rfl, World.ownsRow_nil _ _ _ _, HB.out⟩
  have HAB := Lib.hid hab
  have hab' : (a == b) = false := by simpa using hab
  clear hab
  go_upto_region 5 with fail
  go_cut [9, 10] from 108 (fun s9 s10 wx => ∃ (A1 : Option Addr) (c1 : Nat) (A2 : Option Addr) (c2 : Nat), s9 = .slice A1 (pathN ns a).length c1 ∧ s10 = .slice A2 (pathN ns b).length c2 ∧ (pathN ns a).length ≤ c1 ∧ (pathN ns b).length ≤ c2 ∧ Rd wx A1 (pathN ns a).length (U32 (pathN ns a)) ∧ Rd wx A2 (pathN ns b).length (U32 (pathN ns b)) ∧ Below X0.heap.size X0 wx)
  case first =>
    as_aux_lemma =>
      have HBW := Lib.hid (show Below X0.heap.size X0 X0.drew from (bre X0).drew)
      refine wp_region_noPanic ?_
      refine wp_region_held_drew (S := (fun w' => w'.cell? ⟨w.heap.size, 0, none⟩ = some (.map mk) ∧ w'.cell? ⟨w.heap.size, 1, none⟩ = some (.map mu))) (by kernel_rfl) ?_ (fun hHeld => ?_)
      · (try dsimp only)
        exact ⟨(K3.out.belowS HBW.out).cellV (i := 0) rfl, (K3.out.belowS HBW.out).cellV (i := 1) rfl⟩
      refine Tr.take_at 0 17 (.agg #[.map mk, .map mu]) rfl rfl (by kernel_rfl) (by kernel_rfl) (by kernel_rfl) (fun _ _ _ h => h) (Or.inl ⟨by rfl, ?_⟩) (by assumption) ?_
      · intro W0 hSw
        (try dsimp only at hSw)
        go_simp
      simp only [List.set_cons_zero, List.set_cons_succ]
      refine Tr.take_at 1 18 (.int .u32 a) rfl rfl (by kernel_rfl) (by kernel_rfl) (by kernel_rfl) (fun _ _ _ h => h) (Or.inl ⟨by rfl, ?_⟩) (by assumption) ?_
      · intro W0 hSw
        (try dsimp only at hSw)
        go_simp
      simp only [List.set_cons_zero, List.set_cons_succ]
      refine Tr.take_at 3 20 (.agg #[.map mk, .map mu]) rfl rfl (by kernel_rfl) (by kernel_rfl) (by kernel_rfl) (fun _ _ _ h => h) (Or.inl ⟨by rfl, ?_⟩) (by assumption) ?_
      · intro W0 hSw
        (try dsimp only at hSw)
        go_simp
      simp only [List.set_cons_zero, List.set_cons_succ]
      refine Tr.take_at 4 21 (.int .u32 b) rfl rfl (by kernel_rfl) (by kernel_rfl) (by kernel_rfl) (fun _ _ _ h => h) (Or.inl ⟨by rfl, ?_⟩) (by assumption) ?_
      · intro W0 hSw
        (try dsimp only at hSw)
        go_simp
      simp only [List.set_cons_zero, List.set_cons_succ]
      refine wpAnyH_ready (rs := [2]) (by kernel_rfl) (by simp) ?_
      refine AllReadyH.cons rfl (fun K hK => ?_) AllReadyH.nil
      go_simp
      refine (path_any (.agg #[.map mk, .map mu]) ns mk mu nk fk a _ ha (HT.out.below HBW.out) hok).mono ?_
      rintro e wc2 ⟨u, rfl, ho, hbA⟩
      obtain ⟨A1, c1, rfl, hc1⟩ := own_form ho
      have HR1 := Lib.hid (Rd.of_own ho)
      clear ho
      replace HBW := Lib.hid (bstep HBW.out hbA)
      clear hbA
      go_simp
      refine hK.out _ _ ?_ (fun hHeld => ?_)
      · (try dsimp only)
        exact ⟨(K3.out.belowS HBW.out).cellV (i := 0) rfl, (K3.out.belowS HBW.out).cellV (i := 1) rfl⟩
      clear hK K
      refine wpAnyH_ready (rs := [5]) (by kernel_rfl) (by simp) ?_
      refine AllReadyH.cons rfl (fun K hK => ?_) AllReadyH.nil
      go_simp
      refine (path_any (.agg #[.map mk, .map mu]) ns mk mu nk fk b _ hb (HT.out.below HBW.out) hok).mono ?_
      rintro e wc5 ⟨u, rfl, ho, hbA⟩
      obtain ⟨A2, c2, rfl, hc2⟩ := own_form ho
      have HR2 := Lib.hid (Rd.of_own ho)
      clear ho
      replace HBW := Lib.hid (bstep HBW.out hbA)
      replace HR1 := Lib.hid (HR1.out.below hbA)
      clear hbA
      go_simp
      refine hK.out _ _ ?_ (fun hHeld => ?_)
      · (try dsimp only)
        exact ⟨(K3.out.belowS HBW.out).cellV (i := 0) rfl, (K3.out.belowS HBW.out).cellV (i := 1) rfl⟩
      clear hK K
      refine Tr.take_at 6 9 (.slice A1 (pathN ns a).length c1) rfl rfl (by kernel_rfl) (by kernel_rfl) (by kernel_rfl) (fun _ _ _ h => h) (Or.inl ⟨by rfl, ?_⟩) (by assumption) ?_
      · intro W0 hSw
        (try dsimp only at hSw)
        go_simp
      simp only [List.set_cons_zero, List.set_cons_succ]
      refine Tr.take_at 7 10 (.slice A2 (pathN ns b).length c2) rfl rfl (by kernel_rfl) (by kernel_rfl) (by kernel_rfl) (fun _ _ _ h => h) (Or.inl ⟨by rfl, ?_⟩) (by assumption) ?_
      · intro W0 hSw
        (try dsimp only at hSw)
        go_simp
      simp only [List.set_cons_zero, List.set_cons_succ]
      refine wpAnyH_done (by kernel_rfl) ?_ _
      refine NoPanic.normal ?_
      go_wp2_with fail
      go_meet
      exact ⟨A1, c1, A2, c2, rfl, rfl, hc1, hc2, HR1.out, HR2.out, HBW.out⟩
  obtain ⟨A1, c1, A2, c2, rfl, rfl, hc1, hc2, hr1, hr2, hbc⟩ := hcut
  replace HB := Lib.hid (bstep HB.out hbc)
  replace K3 := Lib.hid (K3.out.belowS hbc)
  replace KL := Lib.hid (KL.out.belowS hbc)
  replace HT := Lib.hid (HT.out.below hbc)
  have HR1 := Lib.hid hr1
  have HR2 := Lib.hid hr2
  clear hbc hr1 hr2
  obtain ⟨X1, hX1⟩ : ∃ X1, X1 = wc := ⟨_, rfl⟩
  subst hX1
  have d0 := K3.out.cellV (i := 0) (v := .map mk) rfl
  have d1 := K3.out.cellV (i := 1) (v := .map mu) rfl
  obtain ⟨bl, hbl⟩ : ∃ g, w.heap.size + 1 = g := ⟨_, rfl⟩
  have HBL := Lib.hid (show w.heap.size ≤ bl by omega)
  rw [hbl] at KL ⊢
  clear hbl
  go_wp2_with fail
  have hmeet := tmeet_any a b ha hb HT.out hok
  cases hm : meetF (pathN ns a) (pathN ns b) with
  | none =>
    rw [hm] at hmeet
    (first | simp only [Option.getD_none, Option.isSome_none] at hmeet | simp only [Option.getD_some, Option.isSome_some] at hmeet)
    refine hmeet.mono ?_
    clear hmeet
    rintro e w6 ⟨rfl, hb6⟩
    replace HB := Lib.hid (bstep HB.out hb6)
    replace KL := Lib.hid (KL.out.belowS hb6)
    replace HR1 := Lib.hid (HR1.out.below hb6)
    replace HR2 := Lib.hid (HR2.out.below hb6)
    clear hb6 d0 d1 K3 HT
    have HNO := Lib.hid (blkL_noI KL.out)
    have HLT := Lib.hid KL.out.lt
    have HA := Lib.hid (show AtS w6 bl [] w6 from ⟨⟨_, KL.out, World.ownsRow_nil _ _ _ _⟩, ⟨rfl, rfl, rfl, Nat.le_refl _, fun _ _ _ => rfl⟩⟩)
    clear KL
    by_cases h1 : (pathN ns a).length = 0
    · skip
      have g1 : ¬ ((pathN ns a).length : Int) > 0 := by omega
      by_cases h2 : (pathN ns b).length = 0
      · skip
        have g2 : ¬ ((pathN ns b).length : Int) > 0 := by omega
        have HE := Lib.hid (show stepsF (pathN ns a) (pathN ns b) a b = ([] : List SP) by unfold stepsF; rw [if_neg HAB.out, hm]; dsimp only; rw [if_pos h1, if_pos h2])
        obtain ⟨⟨u, hbu, hou⟩, hgu⟩ := HA.out
        obtain ⟨Au, cu, rfl, hcu⟩ := own_form hou
        have q5 := hbu.cellV (i := 0) (v := .slice Au ([] : List SP).length cu) rfl
        have HOU := Lib.hid hou
        have HBZ := Lib.hid (HB.out.grown hgu HB.out.size (fun q e => by cases e; exact HBL.out))
        clear hou hgu hbu hcu
        go_wp2_with fail
        go_ret
        rw [HE.out]
        exact ⟨_, rfl, own_lower HOU.out HB.out.size, HBZ.out⟩
      · skip
        have g2 :  ((pathN ns b).length : Int) > 0 := by omega
        go_wp2_with fail
        refine (above_any A2 (pathN ns b).length c2 (pathN ns b) 0 _ (by omega) hc2 (HR2.out.keepG HA.out.grown HNO.out)).mono ?_
        rintro e x1 ⟨Ax, cx, rfl, hab1, rfl⟩
        have HRX := Lib.hid (hab1 _ HR2.out)
        clear hab1
        go_wp2_with fail
        have hh := down_any w6 bl Ax (abL (pathN ns b) 0).length cx (abL (pathN ns b) 0) true 4 ([] : List SP) _ (by have := (show ([] : List SP).length = 0 from rfl); have := abL_len (pathN ns b) 0; omega) HRX.out HNO.out HLT.out HA.out
        unfold doF at hh
        refine hh.mono ?_
        clear hh HRX
        rintro e y1 ⟨rfl, hat⟩
        replace HA := Lib.hid hat
        clear hat
        go_wp2_with fail
        refine (pathDo_any w6 bl ⟨b, true, 3⟩ (upS true 4 (abL (pathN ns b) 0).reverse ([] : List SP)) _ (by have := (show ([] : List SP).length = 0 from rfl); have := upS_len true 4 (abL (pathN ns b) 0).reverse ([] : List SP); have := abL_len (pathN ns b) 0; have := (List.length_reverse : (abL (pathN ns b) 0).reverse.length = (abL (pathN ns b) 0).length); omega) HLT.out HA.out).mono ?_
        rintro e x2 ⟨rfl, hat⟩
        replace HA := Lib.hid hat
        clear hat
        have HE := Lib.hid (show stepsF (pathN ns a) (pathN ns b) a b = (doS (upS true 4 (abL (pathN ns b) 0).reverse ([] : List SP)) ⟨b, true, 3⟩) by unfold stepsF; rw [if_neg HAB.out, hm]; dsimp only; rw [if_pos h1, if_neg h2])
        obtain ⟨⟨u, hbu, hou⟩, hgu⟩ := HA.out
        obtain ⟨Au, cu, rfl, hcu⟩ := own_form hou
        have q5 := hbu.cellV (i := 0) (v := .slice Au (doS (upS true 4 (abL (pathN ns b) 0).reverse ([] : List SP)) ⟨b, true, 3⟩).length cu) rfl
        have HOU := Lib.hid hou
        have HBZ := Lib.hid (HB.out.grown hgu HB.out.size (fun q e => by cases e; exact HBL.out))
        clear hou hgu hbu hcu
        go_wp2_with fail
        go_ret
        rw [HE.out]
        exact ⟨_, rfl, own_lower HOU.out HB.out.size, HBZ.out⟩
    
    · skip
      have g1 :  ((pathN ns a).length : Int) > 0 := by omega
      by_cases h2 : (pathN ns b).length = 0
      · skip
        have g2 : ¬ ((pathN ns b).length : Int) > 0 := by omega
        go_wp2_with fail
        refine (pathDo_any w6 bl ⟨a, false, 3⟩ ([] : List SP) _ (by have := (show ([] : List SP).length = 0 from rfl); omega) HLT.out HA.out).mono ?_
        rintro e x3 ⟨rfl, hat⟩
        replace HA := Lib.hid hat
        clear hat
        go_wp2_with fail
        refine (above_any A1 (pathN ns a).length c1 (pathN ns a) 0 _ (by omega) hc1 (HR1.out.keepG HA.out.grown HNO.out)).mono ?_
        rintro e x4 ⟨Ax, cx, rfl, hab1, rfl⟩
        have HRX := Lib.hid (hab1 _ HR1.out)
        clear hab1
        go_wp2_with fail
        have hh := up_any w6 bl Ax (abL (pathN ns a) 0).length cx (abL (pathN ns a) 0) false 4 (doS ([] : List SP) ⟨a, false, 3⟩) _ (by have := (show ([] : List SP).length = 0 from rfl); have := doS_len ([] : List SP) ⟨a, false, 3⟩; have := abL_len (pathN ns a) 0; omega) HRX.out HNO.out HLT.out HA.out
        unfold doF at hh
        refine hh.mono ?_
        clear hh HRX
        rintro e y4 ⟨rfl, hat⟩
        replace HA := Lib.hid hat
        clear hat
        have HE := Lib.hid (show stepsF (pathN ns a) (pathN ns b) a b = (upS false 4 (abL (pathN ns a) 0) (doS ([] : List SP) ⟨a, false, 3⟩)) by unfold stepsF; rw [if_neg HAB.out, hm]; dsimp only; rw [if_neg h1, if_pos h2])
        obtain ⟨⟨u, hbu, hou⟩, hgu⟩ := HA.out
        obtain ⟨Au, cu, rfl, hcu⟩ := own_form hou
        have q5 := hbu.cellV (i := 0) (v := .slice Au (upS false 4 (abL (pathN ns a) 0) (doS ([] : List SP) ⟨a, false, 3⟩)).length cu) rfl
        have HOU := Lib.hid hou
        have HBZ := Lib.hid (HB.out.grown hgu HB.out.size (fun q e => by cases e; exact HBL.out))
        clear hou hgu hbu hcu
        go_wp2_with fail
        go_ret
        rw [HE.out]
        exact ⟨_, rfl, own_lower HOU.out HB.out.size, HBZ.out⟩
      · skip
        have g2 :  ((pathN ns b).length : Int) > 0 := by omega
        go_wp2_with fail
        refine (pathDo_any w6 bl ⟨a, false, 3⟩ ([] : List SP) _ (by have := (show ([] : List SP).length = 0 from rfl); omega) HLT.out HA.out).mono ?_
        rintro e x5 ⟨rfl, hat⟩
        replace HA := Lib.hid hat
        clear hat
        go_wp2_with fail
        refine (above_any A1 (pathN ns a).length c1 (pathN ns a) 0 _ (by omega) hc1 (HR1.out.keepG HA.out.grown HNO.out)).mono ?_
        rintro e x6 ⟨Ax, cx, rfl, hab1, rfl⟩
        have HRX := Lib.hid (hab1 _ HR1.out)
        clear hab1
        go_wp2_with fail
        have hh := up_any w6 bl Ax (abL (pathN ns a) 0).length cx (abL (pathN ns a) 0) false 4 (doS ([] : List SP) ⟨a, false, 3⟩) _ (by have := (show ([] : List SP).length = 0 from rfl); have := doS_len ([] : List SP) ⟨a, false, 3⟩; have := abL_len (pathN ns a) 0; omega) HRX.out HNO.out HLT.out HA.out
        unfold doF at hh
        refine hh.mono ?_
        clear hh HRX
        rintro e y6 ⟨rfl, hat⟩
        replace HA := Lib.hid hat
        clear hat
        go_wp2_with fail
        refine (above_any A2 (pathN ns b).length c2 (pathN ns b) 0 _ (by omega) hc2 (HR2.out.keepG HA.out.grown HNO.out)).mono ?_
        rintro e x7 ⟨Ax, cx, rfl, hab1, rfl⟩
        have HRX := Lib.hid (hab1 _ HR2.out)
        clear hab1
        go_wp2_with fail
        have hh := down_any w6 bl Ax (abL (pathN ns b) 0).length cx (abL (pathN ns b) 0) true 4 (upS false 4 (abL (pathN ns a) 0) (doS ([] : List SP) ⟨a, false, 3⟩)) _ (by have := (show ([] : List SP).length = 0 from rfl); have := doS_len ([] : List SP) ⟨a, false, 3⟩; have := upS_len false 4 (abL (pathN ns a) 0) (doS ([] : List SP) ⟨a, false, 3⟩); have := abL_len (pathN ns a) 0; have := abL_len (pathN ns b) 0; omega) HRX.out HNO.out HLT.out HA.out
        unfold doF at hh
        refine hh.mono ?_
        clear hh HRX
        rintro e y7 ⟨rfl, hat⟩
        replace HA := Lib.hid hat
        clear hat
        go_wp2_with fail
        refine (pathDo_any w6 bl ⟨b, true, 3⟩ (upS true 4 (abL (pathN ns b) 0).reverse (upS false 4 (abL (pathN ns a) 0) (doS ([] : List SP) ⟨a, false, 3⟩))) _ (by have := (show ([] : List SP).length = 0 from rfl); have := doS_len ([] : List SP) ⟨a, false, 3⟩; have := upS_len false 4 (abL (pathN ns a) 0) (doS ([] : List SP) ⟨a, false, 3⟩); have := abL_len (pathN ns a) 0; have := upS_len true 4 (abL (pathN ns b) 0).reverse (upS false 4 (abL (pathN ns a) 0) (doS ([] : List SP) ⟨a, false, 3⟩)); have := abL_len (pathN ns b) 0; have := (List.length_reverse : (abL (pathN ns b) 0).reverse.length = (abL (pathN ns b) 0).length); omega) HLT.out HA.out).mono ?_
        rintro e x8 ⟨rfl, hat⟩
        replace HA := Lib.hid hat
        clear hat
        have HE := Lib.hid (show stepsF (pathN ns a) (pathN ns b) a b = (doS (upS true 4 (abL (pathN ns b) 0).reverse (upS false 4 (abL (pathN ns a) 0) (doS ([] : List SP) ⟨a, false, 3⟩))) ⟨b, true, 3⟩) by unfold stepsF; rw [if_neg HAB.out, hm]; dsimp only; rw [if_neg h1, if_neg h2])
        obtain ⟨⟨u, hbu, hou⟩, hgu⟩ := HA.out
        obtain ⟨Au, cu, rfl, hcu⟩ := own_form hou
        have q5 := hbu.cellV (i := 0) (v := .slice Au (doS (upS true 4 (abL (pathN ns b) 0).reverse (upS false 4 (abL (pathN ns a) 0) (doS ([] : List SP) ⟨a, false, 3⟩))) ⟨b, true, 3⟩).length cu) rfl
        have HOU := Lib.hid hou
        have HBZ := Lib.hid (HB.out.grown hgu HB.out.size (fun q e => by cases e; exact HBL.out))
        clear hou hgu hbu hcu
        go_wp2_with fail
        go_ret
        rw [HE.out]
        exact ⟨_, rfl, own_lower HOU.out HB.out.size, HBZ.out⟩
  | some m =>
    rw [hm] at hmeet
    (first | simp only [Option.getD_none, Option.isSome_none] at hmeet | simp only [Option.getD_some, Option.isSome_some] at hmeet)
    refine hmeet.mono ?_
    clear hmeet
    rintro e w6 ⟨rfl, hb6⟩
    replace HB := Lib.hid (bstep HB.out hb6)
    replace KL := Lib.hid (KL.out.belowS hb6)
    replace HR1 := Lib.hid (HR1.out.below hb6)
    replace HR2 := Lib.hid (HR2.out.below hb6)
    clear hb6 d0 d1 K3 HT
    have HNO := Lib.hid (blkL_noI KL.out)
    have HLT := Lib.hid KL.out.lt
    have HA := Lib.hid (show AtS w6 bl [] w6 from ⟨⟨_, KL.out, World.ownsRow_nil _ _ _ _⟩, ⟨rfl, rfl, rfl, Nat.le_refl _, fun _ _ _ => rfl⟩⟩)
    clear KL
    by_cases h1 : m = a
    · have g1 : (m == a) = true := by simpa using h1
      go_wp2_with fail
      refine (pathDo_any w6 bl ⟨a, false, 2⟩ ([] : List SP) _ (by have := (show ([] : List SP).length = 0 from rfl); omega) HLT.out HA.out).mono ?_
      rintro e x9 ⟨rfl, hat⟩
      replace HA := Lib.hid hat
      clear hat
      go_wp2_with fail
      refine (above_any A2 (pathN ns b).length c2 (pathN ns b) a _ (by omega) hc2 (HR2.out.keepG HA.out.grown HNO.out)).mono ?_
      rintro e x10 ⟨Ax, cx, rfl, hab1, rfl⟩
      have HRX := Lib.hid (hab1 _ HR2.out)
      clear hab1
      go_wp2_with fail
      have hh := down_any w6 bl Ax (abL (pathN ns b) a).length cx (abL (pathN ns b) a) true 1 (doS ([] : List SP) ⟨a, false, 2⟩) _ (by have := (show ([] : List SP).length = 0 from rfl); have := doS_len ([] : List SP) ⟨a, false, 2⟩; have := abL_len (pathN ns b) a; omega) HRX.out HNO.out HLT.out HA.out
      unfold doF at hh
      refine hh.mono ?_
      clear hh HRX
      rintro e y10 ⟨rfl, hat⟩
      replace HA := Lib.hid hat
      clear hat
      go_wp2_with fail
      refine (pathDo_any w6 bl ⟨b, true, 0⟩ (upS true 1 (abL (pathN ns b) a).reverse (doS ([] : List SP) ⟨a, false, 2⟩)) _ (by have := (show ([] : List SP).length = 0 from rfl); have := doS_len ([] : List SP) ⟨a, false, 2⟩; have := upS_len true 1 (abL (pathN ns b) a).reverse (doS ([] : List SP) ⟨a, false, 2⟩); have := abL_len (pathN ns b) a; have := (List.length_reverse : (abL (pathN ns b) a).reverse.length = (abL (pathN ns b) a).length); omega) HLT.out HA.out).mono ?_
      rintro e x11 ⟨rfl, hat⟩
      replace HA := Lib.hid hat
      clear hat
      have HE := Lib.hid (show stepsF (pathN ns a) (pathN ns b) a b = (doS (upS true 1 (abL (pathN ns b) a).reverse (doS ([] : List SP) ⟨a, false, 2⟩)) ⟨b, true, 0⟩) by unfold stepsF; rw [if_neg HAB.out, hm]; dsimp only; rw [if_pos h1])
      obtain ⟨⟨u, hbu, hou⟩, hgu⟩ := HA.out
      obtain ⟨Au, cu, rfl, hcu⟩ := own_form hou
      have q5 := hbu.cellV (i := 0) (v := .slice Au (doS (upS true 1 (abL (pathN ns b) a).reverse (doS ([] : List SP) ⟨a, false, 2⟩)) ⟨b, true, 0⟩).length cu) rfl
      have HOU := Lib.hid hou
      have HBZ := Lib.hid (HB.out.grown hgu HB.out.size (fun q e => by cases e; exact HBL.out))
      clear hou hgu hbu hcu
      go_wp2_with fail
      go_ret
      rw [HE.out]
      exact ⟨_, rfl, own_lower HOU.out HB.out.size, HBZ.out⟩
    have g1 : (m == a) = false := by simpa using h1
    by_cases h2 : m = b
    · have g2 : (m == b) = true := by simpa using h2
      go_wp2_with fail
      refine (pathDo_any w6 bl ⟨a, false, 0⟩ ([] : List SP) _ (by have := (show ([] : List SP).length = 0 from rfl); omega) HLT.out HA.out).mono ?_
      rintro e x12 ⟨rfl, hat⟩
      replace HA := Lib.hid hat
      clear hat
      go_wp2_with fail
      refine (above_any A1 (pathN ns a).length c1 (pathN ns a) b _ (by omega) hc1 (HR1.out.keepG HA.out.grown HNO.out)).mono ?_
      rintro e x13 ⟨Ax, cx, rfl, hab1, rfl⟩
      have HRX := Lib.hid (hab1 _ HR1.out)
      clear hab1
      go_wp2_with fail
      have hh := up_any w6 bl Ax (abL (pathN ns a) b).length cx (abL (pathN ns a) b) false 1 (doS ([] : List SP) ⟨a, false, 0⟩) _ (by have := (show ([] : List SP).length = 0 from rfl); have := doS_len ([] : List SP) ⟨a, false, 0⟩; have := abL_len (pathN ns a) b; omega) HRX.out HNO.out HLT.out HA.out
      unfold doF at hh
      refine hh.mono ?_
      clear hh HRX
      rintro e y13 ⟨rfl, hat⟩
      replace HA := Lib.hid hat
      clear hat
      go_wp2_with fail
      refine (pathDo_any w6 bl ⟨b, true, 2⟩ (upS false 1 (abL (pathN ns a) b) (doS ([] : List SP) ⟨a, false, 0⟩)) _ (by have := (show ([] : List SP).length = 0 from rfl); have := doS_len ([] : List SP) ⟨a, false, 0⟩; have := upS_len false 1 (abL (pathN ns a) b) (doS ([] : List SP) ⟨a, false, 0⟩); have := abL_len (pathN ns a) b; omega) HLT.out HA.out).mono ?_
      rintro e x14 ⟨rfl, hat⟩
      replace HA := Lib.hid hat
      clear hat
      have HE := Lib.hid (show stepsF (pathN ns a) (pathN ns b) a b = (doS (upS false 1 (abL (pathN ns a) b) (doS ([] : List SP) ⟨a, false, 0⟩)) ⟨b, true, 2⟩) by unfold stepsF; rw [if_neg HAB.out, hm]; dsimp only; rw [if_neg h1, if_pos h2])
      obtain ⟨⟨u, hbu, hou⟩, hgu⟩ := HA.out
      obtain ⟨Au, cu, rfl, hcu⟩ := own_form hou
      have q5 := hbu.cellV (i := 0) (v := .slice Au (doS (upS false 1 (abL (pathN ns a) b) (doS ([] : List SP) ⟨a, false, 0⟩)) ⟨b, true, 2⟩).length cu) rfl
      have HOU := Lib.hid hou
      have HBZ := Lib.hid (HB.out.grown hgu HB.out.size (fun q e => by cases e; exact HBL.out))
      clear hou hgu hbu hcu
      go_wp2_with fail
      go_ret
      rw [HE.out]
      exact ⟨_, rfl, own_lower HOU.out HB.out.size, HBZ.out⟩
    have g2 : (m == b) = false := by simpa using h2
    go_wp2_with fail
    refine (pathDo_any w6 bl ⟨a, false, 3⟩ ([] : List SP) _ (by have := (show ([] : List SP).length = 0 from rfl); omega) HLT.out HA.out).mono ?_
    rintro e x15 ⟨rfl, hat⟩
    replace HA := Lib.hid hat
    clear hat
    go_wp2_with fail
    refine (above_any A1 (pathN ns a).length c1 (pathN ns a) m _ (by omega) hc1 (HR1.out.keepG HA.out.grown HNO.out)).mono ?_
    rintro e x16 ⟨Ax, cx, rfl, hab1, rfl⟩
    have HRX := Lib.hid (hab1 _ HR1.out)
    clear hab1
    go_wp2_with fail
    have hh := up_any w6 bl Ax (abL (pathN ns a) m).length cx (abL (pathN ns a) m) false 4 (doS ([] : List SP) ⟨a, false, 3⟩) _ (by have := (show ([] : List SP).length = 0 from rfl); have := doS_len ([] : List SP) ⟨a, false, 3⟩; have := abL_len (pathN ns a) m; omega) HRX.out HNO.out HLT.out HA.out
    unfold doF at hh
    refine hh.mono ?_
    clear hh HRX
    rintro e y16 ⟨rfl, hat⟩
    replace HA := Lib.hid hat
    clear hat
    go_wp2_with fail
    refine (above_any A2 (pathN ns b).length c2 (pathN ns b) m _ (by omega) hc2 (HR2.out.keepG HA.out.grown HNO.out)).mono ?_
    rintro e x17 ⟨Ax, cx, rfl, hab1, rfl⟩
    have HRX := Lib.hid (hab1 _ HR2.out)
    clear hab1
    go_wp2_with fail
    have hh := down_any w6 bl Ax (abL (pathN ns b) m).length cx (abL (pathN ns b) m) true 4 (upS false 4 (abL (pathN ns a) m) (doS ([] : List SP) ⟨a, false, 3⟩)) _ (by have := (show ([] : List SP).length = 0 from rfl); have := doS_len ([] : List SP) ⟨a, false, 3⟩; have := upS_len false 4 (abL (pathN ns a) m) (doS ([] : List SP) ⟨a, false, 3⟩); have := abL_len (pathN ns a) m; have := abL_len (pathN ns b) m; omega) HRX.out HNO.out HLT.out HA.out
    unfold doF at hh
    refine hh.mono ?_
    clear hh HRX
    rintro e y17 ⟨rfl, hat⟩
    replace HA := Lib.hid hat
    clear hat
    go_wp2_with fail
    refine (pathDo_any w6 bl ⟨b, true, 3⟩ (upS true 4 (abL (pathN ns b) m).reverse (upS false 4 (abL (pathN ns a) m) (doS ([] : List SP) ⟨a, false, 3⟩))) _ (by have := (show ([] : List SP).length = 0 from rfl); have := doS_len ([] : List SP) ⟨a, false, 3⟩; have := upS_len false 4 (abL (pathN ns a) m) (doS ([] : List SP) ⟨a, false, 3⟩); have := abL_len (pathN ns a) m; have := upS_len true 4 (abL (pathN ns b) m).reverse (upS false 4 (abL (pathN ns a) m) (doS ([] : List SP) ⟨a, false, 3⟩)); have := abL_len (pathN ns b) m; have := (List.length_reverse : (abL (pathN ns b) m).reverse.length = (abL (pathN ns b) m).length); omega) HLT.out HA.out).mono ?_
    rintro e x18 ⟨rfl, hat⟩
    replace HA := Lib.hid hat
    clear hat
    have HE := Lib.hid (show stepsF (pathN ns a) (pathN ns b) a b = (doS (upS true 4 (abL (pathN ns b) m).reverse (upS false 4 (abL (pathN ns a) m) (doS ([] : List SP) ⟨a, false, 3⟩))) ⟨b, true, 3⟩) by unfold stepsF; rw [if_neg HAB.out, hm]; dsimp only; rw [if_neg h1, if_neg h2])
    obtain ⟨⟨u, hbu, hou⟩, hgu⟩ := HA.out
    obtain ⟨Au, cu, rfl, hcu⟩ := own_form hou
    have q5 := hbu.cellV (i := 0) (v := .slice Au (doS (upS true 4 (abL (pathN ns b) m).reverse (upS false 4 (abL (pathN ns a) m) (doS ([] : List SP) ⟨a, false, 3⟩))) ⟨b, true, 3⟩).length cu) rfl
    have HOU := Lib.hid hou
    have HBZ := Lib.hid (HB.out.grown hgu HB.out.size (fun q e => by cases e; exact HBL.out))
    clear hou hgu hbu hcu
    go_wp2_with fail
    go_ret
    rw [HE.out]
    exact ⟨_, rfl, own_lower HOU.out HB.out.size, HBZ.out⟩
end
end Go.Proofs.YtbkkecijcijhdaaGreat
end
