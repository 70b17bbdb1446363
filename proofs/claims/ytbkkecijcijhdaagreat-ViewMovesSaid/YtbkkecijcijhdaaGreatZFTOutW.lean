/-
  The walk of the law ViewOutside.
-/
import Derived.Test.YtbkkecijcijhdaaGreatZF33
import Derived.Test.YtbkkecijcijhdaaGreatZF26
section
namespace Go.Proofs.YtbkkecijcijhdaaGreat
open Go.RowKit Go.Maps Go.Shelf

/-- the zero view. -/
theorem zero_view (W : World) : ViewIs W (.agg #[.slice none 0 0, .map none]) none 0 0 none 0 (fun _ => none) [] [] (fun _ => (0, 0)) 0 0 where
  shape := rfl
  order := Rd.nil W none
  few := by decide
  cap := Nat.le_refl _
  ids := by simp
  map := .inl ⟨rfl, rfl, fun _ => rfl⟩
  non := fun _ _ => rfl
  told := fun i e he => by cases he
  near := fun _ => by decide
  small := fun i x y h => by cases h
  side := by decide
theorem rect_iff (RW RH : Nat) (x y : Int) : rectP RW RH x y = (decide (0 ≤ x) && decide (0 ≤ y) && decide (x < RW) && decide (y < RH)) := by
  unfold rectP
  rw [Bool.eq_iff_iff, inB_rect]
  simp only [Bool.and_eq_true, decide_eq_true_eq]
  omega
theorem none_empty {w : World} {u : Value} {out : List RC} (hr : RegAt w u out) (h : ∀ x y, inB out x y = false) : out = [] := by
  obtain ⟨_, _, _, _, hc, _⟩ := hr
  exact no_places hc (fun x y hxy => by
    have h1 := (inB_iff out x y).2 hxy
    rw [h] at h1
    cases h1)
set_option maxRecDepth 100000 in
set_option maxHeartbeats 8000000 in
theorem outside_any (a b : Int) (A : Option Addr) (n c : Nat) (ps : List PN) (x y other : Int) (w : World) (ha : 0 ≤ a ∧ a ≤ 255) (hb : 0 ≤ b ∧ b ≤ 255) (hn : n ≤ maxLen) (hr : RdF PN.cells 14 w A n ps) (hok : ∀ p ∈ ps, p.ok) (hoth : 0 ≤ other ∧ other ≤ 4294967295) :
    Calls Tryz.prog 6 #[.agg #[.int .u8 a, .int .u8 b, .slice A n c], .int .i64 x, .int .i64 y, .int .u32 other] w fun e w' => e = .returned (.bool true) ∧ Below w.heap.size w w' := by
  obtain ⟨RW, hRW⟩ : ∃ RW : Nat, (RW : Int) = 1 + a % 16 := ⟨(1 + a % 16).toNat, by omega⟩
  obtain ⟨RH, hRH⟩ : ∃ RH : Nat, (RH : Int) = 1 + b % 12 := ⟨(1 + b % 12).toNat, by omega⟩
  have HRR := Lib.hid (show (1 ≤ RW ∧ RW ≤ 128) ∧ 1 ≤ RH ∧ RH ≤ 128 by omega)
  have HSZ := Lib.hid (fun W => by have h := size_any31 a b A n c W ha hb; rw [← hRW, ← hRH] at h; exact h)
  have HR := Lib.hid hr
  have HOK := Lib.hid hok
  have HOTH := Lib.hid hoth
  have HN := Lib.hid hn
  clear hr hok ha hb hRW hRH hoth
  go_enter Tryz.func6, Tryz.ntmps6
  go_upto_region 1 with fail
  have xK := Blk.new w 24 #[.int .u8 a, .int .u8 b, .slice A n c]
  have xB := bal (bre w) (.cells #[.int .u8 a, .int .u8 b, .slice A n c] 24)
  obtain ⟨X0, hX0⟩ : ∃ X0, w.alloc (.cells #[.int .u8 a, .int .u8 b, .slice A n c] 24) = X0 := ⟨_, rfl⟩
  rw [hX0] at xK xB ⊢
  have K4 := Lib.hid xK
  have HB := Lib.hid xB
  have q0 := xK.cellV (i := 0) (v := .int .u8 a) rfl
  have q1 := xK.cellV (i := 1) (v := .int .u8 b) rfl
  have q2 := xK.cellV (i := 2) (v := .slice A n c) rfl
  clear xK xB hX0
  go_wp2_with fail
  refine (great_any a b A n c _ HN.out).mono ?_
  rintro e w1 ⟨rfl, hb1⟩
  replace HB := Lib.hid (bstep HB.out hb1)
  replace K4 := Lib.hid (K4.out.belowS hb1)
  clear hb1 q0 q1 q2
  by_cases h7 : 7 < n
  · rw [decide_eq_true h7]
    as_aux_lemma =>
      go_wp2_with fail
      refine (awake31_any _).mono ?_
      rintro e w2 ⟨rfl, hb2⟩
      have HB2 := Lib.hid (bstep HB.out hb2)
      clear hb2
      go_wp2_with fail
      go_ret
      exact ⟨rfl, HB2.out⟩
  rw [decide_eq_false h7]
  have h60 : n ≤ 60 := by omega
  have q0 := K4.out.cellV (i := 0) (v := .int .u8 a) rfl
  have q1 := K4.out.cellV (i := 1) (v := .int .u8 b) rfl
  have q2 := K4.out.cellV (i := 2) (v := .slice A n c) rfl
  go_wp2_with fail
  refine (HSZ.out _).mono ?_
  rintro e w2 ⟨rfl, hb2⟩
  replace HB := Lib.hid (bstep HB.out hb2)
  replace K4 := Lib.hid (K4.out.belowS hb2)
  clear hb2 q0 q1 q2
  have q0 := K4.out.cellV (i := 0) (v := .int .u8 a) rfl
  have q1 := K4.out.cellV (i := 1) (v := .int .u8 b) rfl
  have q2 := K4.out.cellV (i := 2) (v := .slice A n c) rfl
  go_wp2_with fail
  refine (windows31_any a b A n c ps _ h60 (HR.out.below HB.out) HOK.out).mono ?_
  rintro e w3 ⟨v, l, rfl, hl, hat, hb3⟩
  obtain ⟨Al, cl, rfl, _⟩ := own_form hat.own
  have HAT := Lib.hid hat
  have HLN := Lib.hid hl
  have HL7 := Lib.hid (show l.length ≤ 7 by omega)
  replace HB := Lib.hid (bstep HB.out hb3)
  replace K4 := Lib.hid (K4.out.belowS hb3)
  clear hb3 hat hl q0 q1 q2
  go_wp2_with fail
  refine (built31_any Al l.length cl l RW RH _ HAT.out.reads (by have := HL7.out; omega) HAT.out.up HAT.out.ok (by have := HRR.out; omega)).mono ?_
  rintro e w4 ⟨mk, mu, mp, nk, fk, bs, rfl, hm, hb4⟩
  have HM := Lib.hid hm
  have HUP := Lib.hid HAT.out.up
  have HDW := Lib.hid HAT.out.ok
  replace HB := Lib.hid (bstep HB.out hb4)
  clear hm hb4 HAT K4
  go_upto_region 7 with fail
  have xM := HM.out.below (bal (bal (bre w4) (.cells #[.map mk, .map mu] 34)) (.cells #[.map mp] 37))
  have xK2 := (Blk.new w4 34 #[.map mk, .map mu]).alloc (.cells #[.map mp] 37)
  have xK3 := blk_new2 w4 (.cells #[.map mk, .map mu] 34) 37 #[.map mp]
  have xB := bal (bal HB.out (.cells #[.map mk, .map mu] 34)) (.cells #[.map mp] 37)
  obtain ⟨X1, hX1⟩ : ∃ X1, (w4.alloc (.cells #[.map mk, .map mu] 34)).alloc (.cells #[.map mp] 37) = X1 := ⟨_, rfl⟩
  rw [hX1] at xM xK2 xK3 xB ⊢
  have d20 := xK2.cellV (i := 0) (v := .map mk) rfl
  have d21 := xK2.cellV (i := 1) (v := .map mu) rfl
  have d30 := xK3.cellV (i := 0) (v := .map mp) rfl
  replace HM := Lib.hid xM
  have K11 := Lib.hid xK2
  replace HB := Lib.hid xB
  clear xM xK2 xK3 xB hX1
  go_wp2_with fail
  refine (seen_of (RW := RW) (RH := RH) (l := l) (bs := bs) (fk := fk) (nk := nk) X1 HM.out HUP.out HDW.out HL7.out HRR.out).mono ?_
  rintro e w5 ⟨v, og, rfl, hs, hb5⟩
  have HS := Lib.hid hs
  obtain ⟨Av, nv, cv, mv, nm, f, hv⟩ := hs.is
  have hsh := hv.shape
  subst hsh
  have HV := Lib.hid hv
  replace HB := Lib.hid (bstep HB.out hb5)
  replace K11 := Lib.hid (K11.out.belowS hb5)
  have HT := Lib.hid (HM.out.tree.below hb5)
  clear hs hb5 hv d20 d21 d30 HM
  go_upto_region 8 with fail
  have hba := bal (bre w5) (.cells #[.slice Av nv cv, .map mv] 43)
  have xS := HS.out.below hba
  have xV := HV.out.below hba
  have xT := HT.out.below hba
  have xK11 := K11.out.belowS hba
  have xK14 := Blk.new w5 43 #[.slice Av nv cv, .map mv]
  have xB := bal HB.out (.cells #[.slice Av nv cv, .map mv] 43)
  obtain ⟨X2, hX2⟩ : ∃ X2, w5.alloc (.cells #[.slice Av nv cv, .map mv] 43) = X2 := ⟨_, rfl⟩
  rw [hX2] at xS xV xT xK11 xK14 xB ⊢
  replace HS := Lib.hid xS
  replace HV := Lib.hid xV
  replace HT := Lib.hid xT
  replace K11 := Lib.hid xK11
  have K14 := Lib.hid xK14
  replace HB := Lib.hid xB
  have d0 := xK14.cellV (i := 0) (v := .slice Av nv cv) rfl
  have d1 := xK14.cellV (i := 1) (v := .map mv) rfl
  clear xS xV xT xK11 xK14 xB hX2 hba
  go_wp2_with fail
  have hat := vat_any x y HV.out
  obtain ⟨g9, hg9⟩ : ∃ g9, ((ordS RW RH l).find? (showB (esS RW RH l) x y)).getD 0 = g9 := ⟨_, rfl⟩
  obtain ⟨is9, his9⟩ : ∃ is9, ((ordS RW RH l).find? (showB (esS RW RH l) x y)).isSome = is9 := ⟨_, rfl⟩
  rw [hg9, his9] at hat
  have HI := Lib.hid (show is9 = rectP RW RH x y ∧ (is9 = false → g9 = 0) by
    cases hP : rectP RW RH x y with
    | true =>
      have h := at_top (bx := bxS RW RH l) (nodesW_ok HUP.out) hP
      rw [h] at his9
      exact ⟨his9.symm, fun e => by rw [← his9] at e; cases e⟩
    | false =>
      have h := at_none (bx := bxS RW RH l) (nodesW_ok HUP.out) hP
      rw [h] at his9 hg9
      exact ⟨his9.symm, fun _ => hg9.symm⟩)
  clear hg9 his9
  refine hat.mono ?_
  rintro e w6 ⟨rfl, hb6⟩
  replace HS := Lib.hid (HS.out.below hb6)
  replace HV := Lib.hid (HV.out.below hb6)
  replace HT := Lib.hid (HT.out.below hb6)
  replace K11 := Lib.hid (K11.out.belowS hb6)
  replace K14 := Lib.hid (K14.out.belowS hb6)
  replace HB := Lib.hid (bstep HB.out hb6)
  clear hb6 hat d0 d1
  go_upto_region 9 with fail
  go_cut [76] from 128 (fun s76 wx => s76 = .bool false ∧ w6 = wx)
  case first =>
    as_aux_lemma =>
      have t : decide (0 ≤ x) = false ∨ (decide (0 ≤ x) = true ∧ (decide (0 ≤ y) = false ∨ (decide (0 ≤ y) = true ∧ (decide (x < RW) = false ∨ (decide (x < RW) = true ∧ (decide (y < RH) = false ∨ decide (y < RH) = true)))))) := by
        simp only [decide_eq_true_eq, decide_eq_false_iff_not]; omega
      have hi := HI.out
      rw [rect_iff] at hi
      rcases t with h1 | ⟨h1, h2 | ⟨h2, h3 | ⟨h3, h4 | h4⟩⟩⟩
      case inr.inr.inr.inr =>
        obtain rfl : is9 = true := by rw [hi.1, h1, h2, h3, h4]; rfl
        clear hi
        go_wp2_with fail
        go_meet
        exact ⟨rfl, rfl⟩
      all_goals
        have e9 : is9 = false := by rw [hi.1]; simp [*]
        obtain rfl : g9 = 0 := hi.2 e9
        subst e9
        clear hi
        go_wp2_with fail
        go_meet
        exact ⟨rfl, rfl⟩
  obtain ⟨rfl, rfl⟩ := hcut
  go_upto_region 12 with fail
  have hba := bal (bre w6) (.cells #[.slice none 0 0, .map none] 43)
  have xHS := HS.out.below hba
  have xHV := HV.out.below hba
  have xHT := HT.out.below hba
  have xK11 := K11.out.belowS hba
  have xK14 := K14.out.belowS hba
  have xHB := bal HB.out (.cells #[.slice none 0 0, .map none] 43)
  have xK17 := Blk.new w6 43 #[.slice none 0 0, .map none]
  obtain ⟨X3, hX3⟩ : ∃ X3, w6.alloc (.cells #[.slice none 0 0, .map none] 43) = X3 := ⟨_, rfl⟩
  rw [hX3] at xHS xHV xHT xK11 xK14 xHB xK17 ⊢
  replace HS := Lib.hid xHS
  replace HV := Lib.hid xHV
  replace HT := Lib.hid xHT
  replace K11 := Lib.hid xK11
  replace K14 := Lib.hid xK14
  replace HB := Lib.hid xHB
  have K17 := Lib.hid xK17
  clear hba hX3 xHS xHV xHT xK11 xK14 xHB xK17
  have z0 := K17.out.cellV (i := 0) (v := .slice none 0 0) rfl
  have z1 := K17.out.cellV (i := 1) (v := .map none) rfl
  go_wp2_with fail
  have hz := vat_any x y (zero_view X3)
  simp only [List.find?_nil, Option.getD_none, Option.isSome_none] at hz
  refine hz.mono ?_
  clear hz
  rintro e w7 ⟨rfl, hb7⟩
  clear z0 z1
  replace HS := Lib.hid (HS.out.below hb7)
  replace HV := Lib.hid (HV.out.below hb7)
  replace HT := Lib.hid (HT.out.below hb7)
  replace K11 := Lib.hid (K11.out.belowS hb7)
  replace K14 := Lib.hid (K14.out.belowS hb7)
  replace HB := Lib.hid (bstep HB.out hb7)
  replace K17 := Lib.hid (K17.out.belowS hb7)
  clear hb7
  have z0 := K17.out.cellV (i := 0) (v := .slice none 0 0) rfl
  have z1 := K17.out.cellV (i := 1) (v := .map none) rfl
  go_wp2_with fail
  refine (vwindows_any (zero_view w7)).mono ?_
  rintro e w8 ⟨u8, rfl, ho8, hb8⟩
  obtain ⟨A8, c8, rfl, _⟩ := own_form ho8
  clear ho8
  clear z0 z1
  replace HS := Lib.hid (HS.out.below hb8)
  replace HV := Lib.hid (HV.out.below hb8)
  replace HT := Lib.hid (HT.out.below hb8)
  replace K11 := Lib.hid (K11.out.belowS hb8)
  replace K14 := Lib.hid (K14.out.belowS hb8)
  replace HB := Lib.hid (bstep HB.out hb8)
  replace K17 := Lib.hid (K17.out.belowS hb8)
  clear hb8
  have z0 := K17.out.cellV (i := 0) (v := .slice none 0 0) rfl
  have z1 := K17.out.cellV (i := 1) (v := .map none) rfl
  go_wp2_with fail
  refine (vviewable_any 1 (by decide) (zero_view w8)).mono ?_
  rintro e w9 ⟨rfl, hb9⟩
  rw [show (lastE [] 1).isSome = false from rfl]
  clear z0 z1
  replace HS := Lib.hid (HS.out.below hb9)
  replace HV := Lib.hid (HV.out.below hb9)
  replace HT := Lib.hid (HT.out.below hb9)
  replace K11 := Lib.hid (K11.out.belowS hb9)
  replace K14 := Lib.hid (K14.out.belowS hb9)
  replace HB := Lib.hid (bstep HB.out hb9)
  replace K17 := Lib.hid (K17.out.belowS hb9)
  clear hb9
  have d20 := K11.out.cellV (i := 0) (v := .map mk) rfl
  have d21 := K11.out.cellV (i := 1) (v := .map mu) rfl
  clear K17
  go_wp2_with fail
  refine (has_any _ (nodesW l) mk mu nk fk other _ HOTH.out HT.out).mono ?_
  rintro e w10 ⟨rfl, hb10⟩
  clear d20 d21
  replace HS := Lib.hid (HS.out.below hb10)
  replace HV := Lib.hid (HV.out.below hb10)
  replace HT := Lib.hid (HT.out.below hb10)
  replace K11 := Lib.hid (K11.out.belowS hb10)
  replace K14 := Lib.hid (K14.out.belowS hb10)
  replace HB := Lib.hid (bstep HB.out hb10)
  clear hb10
  cases hh : hasN (nodesW l) other with
  | true =>
    as_aux_lemma =>
      go_wp2_with fail
      refine (awake31_any _).mono ?_
      rintro e w11 ⟨rfl, hb11⟩
      have HB2 := Lib.hid (bstep HB.out hb11)
      clear hb11
      go_wp2_with fail
      go_ret
      exact ⟨rfl, HB2.out⟩
  | false =>
    have HLE := Lib.hid (show lastE (esS RW RH l) other = none by
      have h1 := look_some (bx := bxS RW RH l) (nodesW_ok HUP.out) (rectP RW RH) other
      rw [hh, Bool.false_and] at h1
      cases he : lastE (esS RW RH l) other with
      | none => rfl
      | some q => rw [show lastE (esN (nodesW l) (bxS RW RH l) (rectP RW RH)) other = some q from he] at h1; cases h1)
    have HSH := Lib.hid (fun x y => show showB (esS RW RH l) x y other = false by unfold showB; rw [HLE.out])
    clear hh
    have d0 := K14.out.cellV (i := 0) (v := .slice Av nv cv) rfl
    have d1 := K14.out.cellV (i := 1) (v := .map mv) rfl
    go_wp2_with fail
    have ho := vorigin_any other HOTH.out HV.out
    unfold ogV at ho
    rw [HLE.out] at ho
    refine (show Calls Tryz.prog 30 _ _ (fun e w' => e = .returned (.tuple #[.agg #[.int .i64 0, .int .i64 0], .bool false]) ∧ Below w10.heap.size w10 w') from ho).mono ?_
    clear ho
    rintro e w11 ⟨rfl, hb11⟩
    clear d0 d1
    replace HS := Lib.hid (HS.out.below hb11)
    replace HV := Lib.hid (HV.out.below hb11)
    replace HT := Lib.hid (HT.out.below hb11)
    replace K11 := Lib.hid (K11.out.belowS hb11)
    replace K14 := Lib.hid (K14.out.belowS hb11)
    replace HB := Lib.hid (bstep HB.out hb11)
    clear hb11
    go_upto_region 18 with fail
    have hba := bal (bre w11) (.cells #[.int .i64 0, .int .i64 0] 53)
    have xHS := HS.out.below hba
    have xHV := HV.out.below hba
    have xHT := HT.out.below hba
    have xK11 := K11.out.belowS hba
    have xK14 := K14.out.belowS hba
    have xHB := bal HB.out (.cells #[.int .i64 0, .int .i64 0] 53)
    have xK20 := Blk.new w11 53 #[.int .i64 0, .int .i64 0]
    obtain ⟨X4, hX4⟩ : ∃ X4, w11.alloc (.cells #[.int .i64 0, .int .i64 0] 53) = X4 := ⟨_, rfl⟩
    rw [hX4] at xHS xHV xHT xK11 xK14 xHB xK20 ⊢
    replace HS := Lib.hid xHS
    replace HV := Lib.hid xHV
    replace HT := Lib.hid xHT
    replace K11 := Lib.hid xK11
    replace K14 := Lib.hid xK14
    replace HB := Lib.hid xHB
    have K20 := Lib.hid xK20
    clear hba hX4 xHS xHV xHT xK11 xK14 xHB xK20
    have d0 := K14.out.cellV (i := 0) (v := .slice Av nv cv) rfl
    have d1 := K14.out.cellV (i := 1) (v := .map mv) rfl
    clear K20
    go_wp2_with fail
    have hv9 := vviewable_any other HOTH.out HV.out
    rw [HLE.out] at hv9
    refine (show Calls Tryz.prog 31 _ _ (fun e w' => e = .returned (.bool false) ∧ Below X4.heap.size X4 w') from hv9).mono ?_
    clear hv9
    rintro e w12 ⟨rfl, hb12⟩
    clear d0 d1
    replace HS := Lib.hid (HS.out.below hb12)
    replace HV := Lib.hid (HV.out.below hb12)
    replace HT := Lib.hid (HT.out.below hb12)
    replace K11 := Lib.hid (K11.out.belowS hb12)
    replace K14 := Lib.hid (K14.out.belowS hb12)
    replace HB := Lib.hid (bstep HB.out hb12)
    clear hb12
    have d0 := K14.out.cellV (i := 0) (v := .slice Av nv cv) rfl
    have d1 := K14.out.cellV (i := 1) (v := .map mv) rfl
    go_wp2_with fail
    refine (HS.out.visible other HOTH.out).mono ?_
    rintro e w13 ⟨u13, out, rfl, hro, hpo, _, _, hb13⟩
    have hout := none_empty hro (fun x y => by rw [hpo]; exact HSH.out _ _)
    obtain ⟨Ao, co, rfl, _⟩ := hro
    subst hout
    clear hpo
    clear d0 d1
    replace HS := Lib.hid (HS.out.below hb13)
    replace HV := Lib.hid (HV.out.below hb13)
    replace HT := Lib.hid (HT.out.below hb13)
    replace K11 := Lib.hid (K11.out.belowS hb13)
    replace K14 := Lib.hid (K14.out.belowS hb13)
    replace HB := Lib.hid (bstep HB.out hb13)
    clear hb13
    go_wp2_with fail
    refine (empty_any Ao _ co _).mono ?_
    rintro e w14 ⟨rfl, hb14⟩
    replace HS := Lib.hid (HS.out.below hb14)
    replace HV := Lib.hid (HV.out.below hb14)
    replace HT := Lib.hid (HT.out.below hb14)
    replace K11 := Lib.hid (K11.out.belowS hb14)
    replace K14 := Lib.hid (K14.out.belowS hb14)
    replace HB := Lib.hid (bstep HB.out hb14)
    clear hb14
    have d0 := K14.out.cellV (i := 0) (v := .slice Av nv cv) rfl
    have d1 := K14.out.cellV (i := 1) (v := .map mv) rfl
    go_wp2_with fail
    refine (HS.out.clip other HOTH.out).mono ?_
    rintro e w15 ⟨u15, out, rfl, hro, hpo, _, _, hb15⟩
    have hout := none_empty hro (fun x y => by rw [hpo]; exact HSH.out _ _)
    obtain ⟨Ao, co, rfl, _⟩ := hro
    subst hout
    clear hpo
    clear d0 d1
    replace HS := Lib.hid (HS.out.below hb15)
    replace HV := Lib.hid (HV.out.below hb15)
    replace HT := Lib.hid (HT.out.below hb15)
    replace K11 := Lib.hid (K11.out.belowS hb15)
    replace K14 := Lib.hid (K14.out.belowS hb15)
    replace HB := Lib.hid (bstep HB.out hb15)
    clear hb15
    go_wp2_with fail
    refine (empty_any Ao _ co _).mono ?_
    rintro e w16 ⟨rfl, hb16⟩
    replace HS := Lib.hid (HS.out.below hb16)
    replace HV := Lib.hid (HV.out.below hb16)
    replace HT := Lib.hid (HT.out.below hb16)
    replace K11 := Lib.hid (K11.out.belowS hb16)
    replace K14 := Lib.hid (K14.out.belowS hb16)
    replace HB := Lib.hid (bstep HB.out hb16)
    clear hb16
    have d0 := K14.out.cellV (i := 0) (v := .slice Av nv cv) rfl
    have d1 := K14.out.cellV (i := 1) (v := .map mv) rfl
    go_wp2_with fail
    refine (awake31_any _).mono ?_
    rintro e w17 ⟨rfl, hb17⟩
    have HB2 := Lib.hid (bstep HB.out hb17)
    clear hb17
    go_wp2_with fail
    go_ret
    exact ⟨rfl, HB2.out⟩
end Go.Proofs.YtbkkecijcijhdaaGreat
end
