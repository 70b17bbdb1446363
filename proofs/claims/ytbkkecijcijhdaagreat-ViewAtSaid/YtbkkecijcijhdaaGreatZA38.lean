/-
  The walk of the law ViewAt.
-/
import Derived.Test.YtbkkecijcijhdaaGreatZA35
import Derived.Test.YtbkkecijcijhdaaGreatZA36
import Derived.Test.YtbkkecijcijhdaaGreatZA37
import Derived.Test.YtbkkecijcijhdaaGreatZA09
section
namespace Go.Proofs.YtbkkecijcijhdaaGreat
open Go.RowKit Go.Maps Go.Shelf

theorem made_i64 (n : Nat) : (madeCells (Value.int .i64 0).cells (n * 1)).toList = I64 (List.replicate n 0) := by
  have e1 : (madeCells (Value.int .i64 0).cells (n * 1)).toList = List.replicate n (.int .i64 0) := by
    rw [List.eq_replicate_iff]
    refine ⟨by simp [madeCells], fun b hb => ?_⟩
    simp only [madeCells, Array.toList_map, List.mem_map, Array.toList_range, List.mem_range] at hb
    obtain ⟨i, _, rfl⟩ := hb
    rw [show (Value.int IntKind.i64 0).cells = #[Value.int .i64 0] from rfl]
    show (#[Value.int .i64 0] : Array Value)[i % 1]! = _
    rw [Nat.mod_one]
    rfl
  rw [e1]
  simp [I64]
theorem I64_set (l : List Int) (q : Nat) (v : Int) : (I64 l).toArray.setIfInBounds q (.int .i64 v) = (I64 (l.set q v)).toArray := by
  simp [I64, List.map_set]
theorem I64_atA {l : List Int} {q : Nat} {v : Int} (h : l[q]? = some v) : (I64 l).toArray[q]? = some (.int .i64 v) := by simp [I64, h]

set_option maxRecDepth 100000 in
set_option maxHeartbeats 8000000 in
theorem viewAt_any (a b : Int) (A : Option Addr) (n c : Nat) (ps : List PN) (w : World) (ha : 0 ≤ a ∧ a ≤ 255) (hb : 0 ≤ b ∧ b ≤ 255) (hn : n ≤ maxLen) (hr : RdF PN.cells 14 w A n ps) (hok : ∀ p ∈ ps, p.ok) :
    Calls Tryz.prog 5 #[.agg #[.int .u8 a, .int .u8 b, .slice A n c]] w fun e w' => e = .returned (.bool true) ∧ Below w.heap.size w w' := by
  obtain ⟨RW, hRW⟩ : ∃ RW : Nat, (RW : Int) = 1 + a % 16 := ⟨(1 + a % 16).toNat, by omega⟩
  obtain ⟨RH, hRH⟩ : ∃ RH : Nat, (RH : Int) = 1 + b % 12 := ⟨(1 + b % 12).toNat, by omega⟩
  have HRR := Lib.hid (show (1 ≤ RW ∧ RW ≤ 128) ∧ 1 ≤ RH ∧ RH ≤ 128 by omega)
  have HSZ := Lib.hid (fun W => by have h := size_any31 a b A n c W ha hb; rw [← hRW, ← hRH] at h; exact h)
  have HR := Lib.hid hr
  have HOK := Lib.hid hok
  have HN := Lib.hid hn
  clear hr hok ha hb hRW hRH
  go_enter Tryz.func5, Tryz.ntmps5
  go_upto_region 1 with fail
  have xK := Blk.new w 24 #[.int .u8 a, .int .u8 b, .slice A n c]
  have xB := bal (bre w) (.cells #[.int .u8 a, .int .u8 b, .slice A n c] 24)
  obtain ⟨X0, hX0⟩ : ∃ X0, w.alloc (.cells #[.int .u8 a, .int .u8 b, .slice A n c] 24) = X0 := ⟨_, rfl⟩
  rw [hX0] at xK xB ⊢
  have K4 := Lib.hid xK
  have HB := Lib.hid xB
  have q0 := xK.cellV (i := 0) (v := .int .u8 a) rfl
  have q1 := xK.cellV (i := 1) (v := .int .u8 b) rfl
  have q2 := xK.cellV (i := 2) (v := .slice A n c) rfl
  clear xK xB hX0
  go_wp2_with fail
  refine (great_any a b A n c _ HN.out).mono ?_
  rintro e w1 ⟨rfl, hb1⟩
  replace HB := Lib.hid (bstep HB.out hb1)
  replace K4 := Lib.hid (K4.out.belowS hb1)
  clear hb1 q0 q1 q2
  by_cases h7 : 7 < n
  · rw [decide_eq_true h7]
    as_aux_lemma =>
      go_wp2_with fail
      refine (awake31_any _).mono ?_
      rintro e w2 ⟨rfl, hb2⟩
      have HB2 := Lib.hid (bstep HB.out hb2)
      clear hb2
      go_wp2_with fail
      go_ret
      exact ⟨rfl, HB2.out⟩
  rw [decide_eq_false h7]
  have h60 : n ≤ 60 := by omega
  have q0 := K4.out.cellV (i := 0) (v := .int .u8 a) rfl
  have q1 := K4.out.cellV (i := 1) (v := .int .u8 b) rfl
  have q2 := K4.out.cellV (i := 2) (v := .slice A n c) rfl
  go_wp2_with fail
  refine (HSZ.out _).mono ?_
  rintro e w2 ⟨rfl, hb2⟩
  replace HB := Lib.hid (bstep HB.out hb2)
  replace K4 := Lib.hid (K4.out.belowS hb2)
  clear hb2 q0 q1 q2
  have q0 := K4.out.cellV (i := 0) (v := .int .u8 a) rfl
  have q1 := K4.out.cellV (i := 1) (v := .int .u8 b) rfl
  have q2 := K4.out.cellV (i := 2) (v := .slice A n c) rfl
  go_wp2_with fail
  refine (windows31_any a b A n c ps _ h60 (HR.out.below HB.out) HOK.out).mono ?_
  rintro e w3 ⟨v, l, rfl, hl, hat, hb3⟩
  obtain ⟨Al, cl, rfl, _⟩ := own_form hat.own
  have HL := Lib.hid hat.reads
  have HUP := Lib.hid hat.up
  have HDW := Lib.hid hat.ok
  have HL7 := Lib.hid (show l.length ≤ 7 by omega)
  replace HB := Lib.hid (bstep HB.out hb3)
  clear hb3 hat hl q0 q1 q2 K4
  go_wp2_with fail
  refine (built31_any Al l.length cl l RW RH _ HL.out (by have := HL7.out; omega) HUP.out HDW.out (by have := HRR.out; omega)).mono ?_
  rintro e w4 ⟨mk, mu, mp, nk, fk, bs, rfl, hm, hb4⟩
  have HM := Lib.hid hm
  replace HL := Lib.hid (HL.out.below hb4)
  replace HB := Lib.hid (bstep HB.out hb4)
  clear hm hb4
  go_upto_region 8 with fail
  have hba := bal (bal (bre w4) (.cells #[.map mk, .map mu] 34)) (.cells #[.map mp] 37)
  have xM := HM.out.below hba
  have xL := HL.out.below hba
  have xK2 := (Blk.new w4 34 #[.map mk, .map mu]).alloc (.cells #[.map mp] 37)
  have xK3 := blk_new2 w4 (.cells #[.map mk, .map mu] 34) 37 #[.map mp]
  have xB := bal (bal HB.out (.cells #[.map mk, .map mu] 34)) (.cells #[.map mp] 37)
  obtain ⟨X1, hX1⟩ : ∃ X1, (w4.alloc (.cells #[.map mk, .map mu] 34)).alloc (.cells #[.map mp] 37) = X1 := ⟨_, rfl⟩
  rw [hX1] at xM xL xK2 xK3 xB hba ⊢
  have d20 := xK2.cellV (i := 0) (v := .map mk) rfl
  have d21 := xK2.cellV (i := 1) (v := .map mu) rfl
  have d30 := xK3.cellV (i := 0) (v := .map mp) rfl
  replace HM := Lib.hid xM
  replace HL := Lib.hid xL
  have K11 := Lib.hid xK2
  replace HB := Lib.hid xB
  clear xM xL xK2 xK3 xB hX1 hba
  go_wp2_with fail
  refine (seen_of (RW := RW) (RH := RH) (l := l) (bs := bs) (fk := fk) (nk := nk) X1 HM.out HUP.out HDW.out HL7.out HRR.out).mono ?_
  rintro e w5 ⟨v, og, rfl, hs, hb5⟩
  have HS := Lib.hid hs
  obtain ⟨Av, nv, cv, mv, nm, f, hv⟩ := hs.is
  have hsh := hv.shape
  subst hsh
  have HV := Lib.hid hv
  replace HB := Lib.hid (bstep HB.out hb5)
  replace K11 := Lib.hid (K11.out.belowS hb5)
  replace HL := Lib.hid (HL.out.below hb5)
  have HT := Lib.hid (HM.out.tree.below hb5)
  clear hs hb5 hv d20 d21 d30 HM
  go_upto_region 9 with fail
  have hba := bal (bre w5) (.cells #[.slice Av nv cv, .map mv] 43)
  have xHS := HS.out.below hba
  have xHV := HV.out.below hba
  have xHT := HT.out.below hba
  have xHL := HL.out.below hba
  have xK11 := K11.out.belowS hba
  have xHB := bal HB.out (.cells #[.slice Av nv cv, .map mv] 43)
  have xK14 := Blk.new w5 43 #[.slice Av nv cv, .map mv]
  obtain ⟨X2, hX2⟩ : ∃ X2, w5.alloc (.cells #[.slice Av nv cv, .map mv] 43) = X2 := ⟨_, rfl⟩
  rw [hX2] at xHS xHV xHT xHL xK11 xHB xK14 ⊢
  replace HS := Lib.hid xHS
  replace HV := Lib.hid xHV
  replace HT := Lib.hid xHT
  replace HL := Lib.hid xHL
  replace K11 := Lib.hid xK11
  replace HB := Lib.hid xHB
  have K14 := Lib.hid xK14
  clear hba hX2 xHS xHV xHT xHL xK11 xHB xK14
  obtain ⟨j0, hj0, hy0, hy1, hy2⟩ := info_parts Tryz.infoI
  obtain ⟨N, hN⟩ : ∃ N, l.length + 1 = N := ⟨_, rfl⟩
  have HNN := Lib.hid hN
  have wN : IntKind.i64.wrap ((l.length : Int) + 1) = (l.length : Int) + 1 := IntWalk.i64_in _ (by have := HL7.out; omega)
  go_upto_region 10 with (at_make; refine wpList_make_full _ rfl _ _ 46 rfl X2.heap.size 3 j0 _ 1 Tryz.underlying46 hj0 hy0 hy1 _ _ _ _ N rfl rfl (by have := HNN.out; omega) (by have := HNN.out; omega) (by rw [hy2]; have := HNN.out; have := HL7.out; omega) (by have := HNN.out; have := HL7.out; simp only [maxLen]; omega) (Nat.le_refl _) ?_; intro w6 hown hg6; have HO6 := Lib.hid hown; have HG6 := Lib.hid hg6; clear hown hg6)
  obtain ⟨G, hG⟩ : ∃ G, X2.heap.size = G := ⟨_, rfl⟩
  obtain ⟨F, hF⟩ : ∃ F, (belowAt (nodesW l) 1).length = F := ⟨_, rfl⟩
  have HFB := Lib.hid (show l.length + 1 ≤ F ∧ F ≤ 2000 by
    have h1 := below_lenW HUP.out
    have h2 := below_len (nodesW_ok HUP.out) (hasN_root (nodesW l))
    rw [nodesW_len] at h2
    have := HL7.out
    omega)
  have xKA := (own_blk HO6.out).2
  have xB6 := below_of_grown HG6.out
  rw [made_i64, ← hN, ← arL_zero (F := F) (W := RW), hG] at xKA
  (try rw [hN])
  rw [hG]
  have HFF := Lib.hid hF
  have HGG := Lib.hid hG
  have KA := Lib.hid xKA
  have HB6 := Lib.hid xB6
  have HSH := Lib.hid (fun (x y i : Int) => by have h := show_S (RW := RW) (RH := RH) HUP.out x y i; rw [hF] at h; exact h)
  clear xKA xB6 HO6 HG6 hG hF wN
  go_wp2_with fail
  go_loopw [11] (fun i wr => ∃ y : Nat, i = .int .i64 y ∧ y ≤ RH ∧ Blk wr G 3 (I64 (arL l F RW y 0)).toArray ∧ Below X2.heap.size X2 wr) (fun i _ => RH - (intOf i).toNat)
  case atStart => exact ⟨0, rfl, by omega, KA.out, HB6.out⟩
  case round =>
    obtain ⟨y, rfl, hy, hka, hbb⟩ := hrel
    have KA := Lib.hid hka
    have HB6 := Lib.hid hbb
    have HY := Lib.hid hy
    clear hka hbb
    by_cases hlt : y < RH
    · have y1 : (y : Int) < (RH : Int) := by omega
      have hyb : y ≤ 128 := by have := HRR.out; omega
      go_upto_region 13 with fail
      go_wp2_with fail
      go_loopw [12] (fun i wr => ∃ x : Nat, i = .int .i64 x ∧ x ≤ RW ∧ Blk wr G 3 (I64 (arL l F RW y x)).toArray ∧ Below X2.heap.size X2 wr) (fun i _ => RW - (intOf i).toNat)
      case atStart => exact ⟨0, rfl, by omega, KA.out, HB6.out⟩
      case round =>
        obtain ⟨x, rfl, hx, hka, hbb⟩ := hrel
        have KA := Lib.hid hka
        have HB6 := Lib.hid hbb
        have HX := Lib.hid hx
        clear hka hbb
        by_cases hltx : x < RW
        · have x1 : (x : Int) < (RW : Int) := by omega
          have hxb : x ≤ 128 := by have := HRR.out; omega
          have HP := Lib.hid (show rectP RW RH x y = true by rw [rect_iff]; simp; omega)
          obtain ⟨m, hm⟩ : ∃ m, atD l F (-1) x y = m := ⟨_, rfl⟩
          have hmb := atD_bd HUP.out F (-1) x y (by omega) (by omega)
          have htop := atD_root (RW := (RW : Int)) (RH := (RH : Int)) HUP.out (x : Int) (y : Int)
          have hat := at_top (bx := bxS RW RH l) (nodesW_ok HUP.out) HP.out
          rw [← htop, HFF.out, hm] at hat
          rw [hm] at hmb
          have hd := dat_any Al l.length cl l (by have := HL7.out; omega) HUP.out HDW.out F (-1) x y wr (HL.out.below HB6.out) ⟨by omega, by omega⟩ ⟨by have := HFB.out; omega, HFB.out.2⟩ ⟨by have := HFB.out; omega, by have := HFB.out; omega⟩
          rw [hm] at hd
          have HMB := Lib.hid hmb
          have HMM := Lib.hid hm
          have HAT := Lib.hid hat
          obtain ⟨q, hq⟩ : ∃ q : Nat, m + 1 = (q : Int) := ⟨(m + 1).toNat, by omega⟩
          have HQ := Lib.hid hq
          clear htop hat hm
          go_wp2_with fail
          refine hd.mono ?_
          clear hd
          rintro e w7 ⟨rfl, hb7⟩
          replace HB6 := Lib.hid (bstep HB6.out hb7)
          replace KA := Lib.hid (KA.out.belowS hb7)
          clear hb7
          have d0 := (K14.out.belowS HB6.out).cellV (i := 0) (v := .slice Av nv cv) rfl
          have d1 := (K14.out.belowS HB6.out).cellV (i := 1) (v := .map mv) rfl
          go_wp2_with fail
          have hv8 := vat_any (x : Int) (y : Int) (HV.out.below HB6.out)
          rw [HAT.out] at hv8
          refine (show Calls Tryz.prog 39 _ _ (fun e w' => e = .returned (.tuple #[.int .u32 (idW m), .bool true]) ∧ Below w7.heap.size w7 w') from hv8).mono ?_
          clear hv8
          rintro e w8 ⟨rfl, hb8⟩
          replace HB6 := Lib.hid (bstep HB6.out hb8)
          replace KA := Lib.hid (KA.out.belowS hb8)
          clear hb8 d0 d1
          go_wp2_with fail
          refine (id_b m _ (by have := HMB.out; have := HL7.out; omega)).mono ?_
          rintro e w9 ⟨rfl, hb9⟩
          replace HB6 := Lib.hid (bstep HB6.out hb9)
          replace KA := Lib.hid (KA.out.belowS hb9)
          clear hb9
          have hqN : q < N := by have h1 := HMB.out; have h2 := HNN.out; have h3 := HQ.out; omega
          obtain ⟨v, hv⟩ : ∃ v, (arL l F RW y x)[q]? = some v := ⟨_, List.getElem?_eq_getElem (by rw [arL_len, HNN.out]; exact hqN)⟩
          have hvb := arL_bd (by have := HRR.out; omega) hyb hx hv
          have HPUT := Lib.hid (arL_put (by rw [HMM.out]; omega) hv)
          have e1 := KA.out.cellV (i := q) (v := .int .i64 v) (I64_atA hv)
          have f1 := KA.out.frozen q
          have lA := KA.out.lt
          have qN : (q : Int) < (N : Int) := by omega
          have q0 : (0 : Int) ≤ (q : Int) := by omega
          have wQ : IntKind.i64.wrap (m + 1) = (q : Int) := by rw [hq]; exact IntWalk.i64_in _ (by have := HL7.out; have := HNN.out; omega)
          have wV : IntKind.i64.wrap (v + 1) = v + 1 := IntWalk.i64_in _ (by omega)
          have hN8 : N ≤ 8 := by have := HNN.out; have := HL7.out; omega
          clear hv hmb
          go_upto_region 21 with fail
          have xKA := KA.out.set_ q (.int .i64 (v + 1))
          rw [I64_set, HPUT.out] at xKA
          have xB6 := bset (p := ⟨G, q, none⟩) HB6.out (by show X2.heap.size ≤ G; have := HGG.out; omega) (.int .i64 (v + 1))
          obtain ⟨W10, hW10⟩ : ∃ W10, w9.setCell ⟨G, q, none⟩ (.int .i64 (v + 1)) = W10 := ⟨_, rfl⟩
          rw [hW10] at xKA xB6 ⊢
          replace KA := Lib.hid xKA
          replace HB6 := Lib.hid xB6
          clear e1 f1 lA wQ wV xKA xB6 hW10
          go_wp2_with fail
          go_loopw [16] (fun i wr => ∃ p : Int, i = .int .i64 p ∧ (-1 ≤ p ∧ p ≤ (l.length : Int)) ∧ Below W10.heap.size W10 wr) (fun i _ => ((l.length : Int) - intOf i).toNat)
          case atStart => exact ⟨-1, rfl, by omega, bre W10⟩
          case round =>
            obtain ⟨p, rfl, hp, hbp⟩ := hrel
            have HBP := Lib.hid (bstep HB6.out hbp)
            have HBW10 := Lib.hid hbp
            clear hbp
            by_cases hltp : p < (l.length : Int)
            · have hids : -1 ≤ p ∧ p ≤ 1000000 := by have := HL7.out; omega
              have HPB := Lib.hid (And.intro hp hltp)
              have hob := orgW_bd (RW := (RW : Int)) (RH := (RH : Int)) HUP.out (fun d hd => ⟨(HDW.out d hd).x, (HDW.out d hd).y⟩) (l.length + 1) p (by omega) hp.1 hltp
              obtain ⟨ox, hox⟩ : ∃ ox, (orgN (nodesW l) (bxS RW RH l) (idW p)).1 = ox := ⟨_, rfl⟩
              obtain ⟨oy, hoy⟩ : ∃ oy, (orgN (nodesW l) (bxS RW RH l) (idW p)).2 = oy := ⟨_, rfl⟩
              rw [hox, hoy] at hob
              have HOX := Lib.hid (And.intro hox hoy)
              have HOB := Lib.hid hob
              clear hox hoy hob
              go_upto_region 25 with fail
              have xK := Blk.new wr 53 #[.int .i64 0, .int .i64 0]
              have xB := bal (bre wr) (.cells #[.int .i64 0, .int .i64 0] 53)
              obtain ⟨g17, hg17⟩ : ∃ g17, wr.heap.size = g17 := ⟨_, rfl⟩
              obtain ⟨W11, hW11⟩ : ∃ W11, wr.alloc (.cells #[.int .i64 0, .int .i64 0] 53) = W11 := ⟨_, rfl⟩
              rw [hW11] at xK xB ⊢
              rw [hg17] at xK ⊢
              have K17 := Lib.hid xK
              have HB11 := Lib.hid xB
              have HG17 := Lib.hid hg17
              clear xK xB hW11 hg17
              go_upto_if 90 with fail
              go_cut [90, 91, 92, 93] from 155 (fun _ _ _ _ wx => Blk wx g17 53 #[.int .i64 ox, .int .i64 oy] ∧ Below wr.heap.size wr wx)
              case first =>
                as_aux_lemma =>
                  by_cases hp0 : 0 ≤ p
                  · have hor := dorigin_any Al l.length cl l p RW RH W11 (by have := HL7.out; omega) (HL.out.below (bstep HBP.out HB11.out)) HUP.out HDW.out ⟨HPB.out.1.1, HPB.out.2⟩
                    rw [HOX.out.1, HOX.out.2] at hor
                    go_wp2_with fail
                    refine hor.mono ?_
                    clear hor
                    rintro e w12 ⟨rfl, hb12⟩
                    have k17 := K17.out.belowS hb12
                    have HB12 := Lib.hid (bstep HB11.out hb12)
                    have r0 := k17.cellV (i := 0) (v := .int .i64 0) rfl
                    have r1 := k17.cellV (i := 1) (v := .int .i64 0) rfl
                    have f0 := k17.frozen 0
                    have f1 := k17.frozen 1
                    have l17 := k17.lt
                    have KK := Lib.hid k17
                    clear k17 hb12
                    go_wp2_with fail
                    go_meet
                    exact ⟨(KK.out.set_ 0 _).set_ 1 _, bset (p := ⟨g17, 1, none⟩) (bset (p := ⟨g17, 0, none⟩) HB12.out (by show wr.heap.size ≤ g17; have := HG17.out; omega) _) (by show wr.heap.size ≤ g17; have := HG17.out; omega) _⟩
                  · obtain rfl : p = -1 := by have := HPB.out; omega
                    have h0 := orgN_root (bx := bxS RW RH l) (nodesW_ok HUP.out)
                    have h1 := HOX.out
                    rw [idW_root, h0] at h1
                    obtain ⟨rfl, rfl⟩ := h1
                    go_wp2_with fail
                    go_meet
                    exact ⟨K17.out, HB11.out⟩
              obtain ⟨hk17, hbc⟩ := hcut
              replace K17 := Lib.hid hk17
              have HBC := Lib.hid (bstep HBP.out hbc)
              have HBW := Lib.hid (bstep HBW10.out hbc)
              have HID := Lib.hid (idW_bd hids)
              clear hk17 hbc HB11 HG17
              obtain ⟨Z, hZ⟩ : ∃ Z, Z = wc := ⟨_, rfl⟩
              subst hZ
              have HCS := Lib.hid (show showB (esS RW RH l) (x : Int) (y : Int) (idW p) = decide (p = m) by
                rw [HSH.out, HP.out, HMM.out, Bool.true_and, Bool.eq_iff_iff, decide_eq_true_eq, decide_eq_true_eq]
                exact ⟨fun h => idW_inj hids.1 HMB.out.1 h, fun h => by rw [h]⟩)
              have HVS := Lib.hid (show showB (esS RW RH l) ((x : Int) - ox + (ogV (esS RW RH l) og (idW p)).1) ((y : Int) - oy + (ogV (esS RW RH l) og (idW p)).2) (idW p) = decide (p = m) by
                rw [← HCS.out]
                cases he : lastE (esS RW RH l) (idW p) with
                | none =>
                  unfold showB
                  rw [he]
                | some e =>
                  have h1 : ogV (esS RW RH l) og (idW p) = (ox, oy) := by
                    unfold ogV
                    rw [he, if_pos (show (some e).isSome = true from rfl), HS.out.org p HPB.out.1.1 HPB.out.2]
                    exact Prod.ext HOX.out.1 HOX.out.2
                  rw [h1]
                  congr 1 <;> simp)
              have wx0 : IntKind.i64.wrap ((x : Int) - ox) = (x : Int) - ox := IntWalk.i64_in _ (by have := HOB.out; have := HL7.out; omega)
              have wy0 : IntKind.i64.wrap ((y : Int) - oy) = (y : Int) - oy := IntWalk.i64_in _ (by have := HOB.out; have := HL7.out; omega)
              by_cases hpm : p = m
              · as_aux_lemma =>
                  subst hpm
                  rw [decide_eq_true rfl] at HCS HVS
                  have HBX := Lib.hid HBW.out
                  clear HBW
                  have hpz := HPB.out
                  have hl7 := HL7.out
                  go_upto_region 27 with fail
                  have HBW := Lib.hid (show Below Z.heap.size Z Z.drew from (bre Z).drew)
                  refine wp_region_noPanic ?_
                  refine wp_region_held_drew (S := (fun w' => w'.cell? ⟨w5.heap.size, 0, none⟩ = some (.slice Av nv cv) ∧ w'.cell? ⟨w5.heap.size, 1, none⟩ = some (.map mv) ∧ w'.cell? ⟨g17, 0, none⟩ = some (.int .i64 ox) ∧ w'.cell? ⟨g17, 1, none⟩ = some (.int .i64 oy))) (by kernel_rfl) ?_ (fun hHeld => ?_)
                  · (try dsimp only)
                    exact ⟨(K14.out.belowS (bstep HBC.out HBW.out)).cellV (i := 0) rfl, (K14.out.belowS (bstep HBC.out HBW.out)).cellV (i := 1) rfl, (K17.out.belowS HBW.out).cellV (i := 0) rfl, (K17.out.belowS HBW.out).cellV (i := 1) rfl⟩
                  refine Tr.take_at 0 94 (.agg #[.slice Av nv cv, .map mv]) rfl rfl (by kernel_rfl) (by kernel_rfl) (by kernel_rfl) (fun _ _ _ h => h) (Or.inl ⟨by rfl, ?_⟩) (by assumption) ?_
                  · intro W0 hSw
                    (try dsimp only at hSw)
                    go_simp
                  simp only [List.set_cons_zero, List.set_cons_succ]
                  refine Tr.take_at 1 95 (.int .i64 p) rfl rfl (by kernel_rfl) (by kernel_rfl) (by kernel_rfl) (fun _ _ _ h => h) (Or.inl ⟨by rfl, ?_⟩) (by assumption) ?_
                  · intro W0 hSw
                    (try dsimp only at hSw)
                    go_simp
                  simp only [List.set_cons_zero, List.set_cons_succ]
                  refine Tr.take_at 4 98 (.int .i64 x) rfl rfl (by kernel_rfl) (by kernel_rfl) (by kernel_rfl) (fun _ _ _ h => h) (Or.inl ⟨by rfl, ?_⟩) (by assumption) ?_
                  · intro W0 hSw
                    (try dsimp only at hSw)
                    go_simp
                  simp only [List.set_cons_zero, List.set_cons_succ]
                  refine Tr.take_at 5 99 (.int .i64 y) rfl rfl (by kernel_rfl) (by kernel_rfl) (by kernel_rfl) (fun _ _ _ h => h) (Or.inl ⟨by rfl, ?_⟩) (by assumption) ?_
                  · intro W0 hSw
                    (try dsimp only at hSw)
                    go_simp
                  simp only [List.set_cons_zero, List.set_cons_succ]
                  refine Tr.take_at 7 101 (.int .i64 p) rfl rfl (by kernel_rfl) (by kernel_rfl) (by kernel_rfl) (fun _ _ _ h => h) (Or.inl ⟨by rfl, ?_⟩) (by assumption) ?_
                  · intro W0 hSw
                    (try dsimp only at hSw)
                    go_simp
                  simp only [List.set_cons_zero, List.set_cons_succ]
                  refine Tr.take_at 8 102 (.int .i64 p) rfl rfl (by kernel_rfl) (by kernel_rfl) (by kernel_rfl) (fun _ _ _ h => h) (Or.inl ⟨by rfl, ?_⟩) (by assumption) ?_
                  · intro W0 hSw
                    (try dsimp only at hSw)
                    go_simp
                  simp only [List.set_cons_zero, List.set_cons_succ]
                  refine Tr.take_at 9 103 (.bool true) rfl rfl (by kernel_rfl) (by kernel_rfl) (by kernel_rfl) (fun _ _ _ h => h) (Or.inl ⟨by rfl, ?_⟩) (by assumption) ?_
                  · intro W0 hSw
                    (try dsimp only at hSw)
                    go_simp
                  simp only [List.set_cons_zero, List.set_cons_succ]
                  refine wpAnyH_ready (rs := [2]) (by kernel_rfl) (by simp) ?_
                  refine AllReadyH.cons rfl (fun K hK => ?_) AllReadyH.nil
                  go_simp
                  refine (id_b p _ hids).mono ?_
                  rintro e wd2 ⟨rfl, hbA⟩
                  replace HBW := Lib.hid (bstep HBW.out hbA)
                  clear hbA
                  go_simp
                  refine hK.out _ _ ?_ (fun hHeld => ?_)
                  · (try dsimp only)
                    exact ⟨(K14.out.belowS (bstep HBC.out HBW.out)).cellV (i := 0) rfl, (K14.out.belowS (bstep HBC.out HBW.out)).cellV (i := 1) rfl, (K17.out.belowS HBW.out).cellV (i := 0) rfl, (K17.out.belowS HBW.out).cellV (i := 1) rfl⟩
                  clear hK K
                  refine wpAnyH_ready (rs := [3]) (by kernel_rfl) (by simp) ?_
                  refine AllReadyH.cons rfl (fun K hK => ?_) AllReadyH.nil
                  go_simp
                  refine ((HS.out.below (bstep HBC.out HBW.out)).clip (idW p) HID.out).mono ?_
                  rintro e wd3 ⟨u3, out3, rfl, hro, hpo, hao, hln, hbA⟩
                  obtain ⟨Ao3, co3, rfl, hrd, hcan, _, hcnt⟩ := hro
                  have HRD3 := Lib.hid hrd
                  have HPO3 := Lib.hid hpo
                  have HAO3 := Lib.hid hao
                  have HLN3 := Lib.hid hln
                  have HCN3 := Lib.hid (And.intro hcan hcnt)
                  clear hrd hcan hcnt hpo hao hln
                  replace HBW := Lib.hid (bstep HBW.out hbA)
                  clear hbA
                  go_simp
                  refine hK.out _ _ ?_ (fun hHeld => ?_)
                  · (try dsimp only)
                    exact ⟨(K14.out.belowS (bstep HBC.out HBW.out)).cellV (i := 0) rfl, (K14.out.belowS (bstep HBC.out HBW.out)).cellV (i := 1) rfl, (K17.out.belowS HBW.out).cellV (i := 0) rfl, (K17.out.belowS HBW.out).cellV (i := 1) rfl⟩
                  clear hK K
                  refine wpAnyH_ready (rs := [6]) (by kernel_rfl) (by simp) ?_
                  refine AllReadyH.cons rfl (fun K hK => ?_) AllReadyH.nil
                  go_simp
                  have hh := hasR_any Ao3 out3.length co3 out3 (x : Int) (y : Int) _ (by have := HLN3.out; omega) HRD3.out HCN3.out.2
                  rw [hasL_inB (canon_down HCN3.out.1), HPO3.out, HCS.out] at hh
                  refine hh.mono ?_
                  clear hh
                  rintro e wd6 ⟨rfl, hbA⟩
                  replace HBW := Lib.hid (bstep HBW.out hbA)
                  replace HRD3 := Lib.hid (HRD3.out.below hbA)
                  clear hbA
                  go_simp
                  refine hK.out _ _ ?_ (fun hHeld => ?_)
                  · (try dsimp only)
                    exact ⟨(K14.out.belowS (bstep HBC.out HBW.out)).cellV (i := 0) rfl, (K14.out.belowS (bstep HBC.out HBW.out)).cellV (i := 1) rfl, (K17.out.belowS HBW.out).cellV (i := 0) rfl, (K17.out.belowS HBW.out).cellV (i := 1) rfl⟩
                  clear hK K
                  refine Tr.take_at 10 104 (.bool false) rfl rfl (by kernel_rfl) (by kernel_rfl) (by kernel_rfl) (fun _ _ _ h => h) (Or.inl ⟨by rfl, ?_⟩) (by assumption) ?_
                  · intro W0 hSw
                    (try dsimp only at hSw)
                    go_simp
                  simp only [List.set_cons_zero, List.set_cons_succ]
                  refine Tr.take_at 11 105 (.bool false) rfl rfl (by kernel_rfl) (by kernel_rfl) (by kernel_rfl) (fun _ _ _ h => h) (Or.inl ⟨by rfl, ?_⟩) (by assumption) ?_
                  · intro W0 hSw
                    (try dsimp only at hSw)
                    go_simp
                  simp only [List.set_cons_zero, List.set_cons_succ]
                  refine Tr.take_at 12 106 (.agg #[.slice Av nv cv, .map mv]) rfl rfl (by kernel_rfl) (by kernel_rfl) (by kernel_rfl) (fun _ _ _ h => h) (Or.inl ⟨by rfl, ?_⟩) (by assumption) ?_
                  · intro W0 hSw
                    (try dsimp only at hSw)
                    go_simp
                  simp only [List.set_cons_zero, List.set_cons_succ]
                  refine Tr.take_at 13 107 (.int .i64 p) rfl rfl (by kernel_rfl) (by kernel_rfl) (by kernel_rfl) (fun _ _ _ h => h) (Or.inl ⟨by rfl, ?_⟩) (by assumption) ?_
                  · intro W0 hSw
                    (try dsimp only at hSw)
                    go_simp
                  simp only [List.set_cons_zero, List.set_cons_succ]
                  refine Tr.take_at 16 110 (.int .i64 x) rfl rfl (by kernel_rfl) (by kernel_rfl) (by kernel_rfl) (fun _ _ _ h => h) (Or.inl ⟨by rfl, ?_⟩) (by assumption) ?_
                  · intro W0 hSw
                    (try dsimp only at hSw)
                    go_simp
                  simp only [List.set_cons_zero, List.set_cons_succ]
                  refine Tr.take_at 17 111 (.pointer (some ⟨g17, 0, none⟩)) rfl rfl (by kernel_rfl) (by kernel_rfl) (by kernel_rfl) (fun _ _ _ h => h) (Or.inl ⟨by rfl, ?_⟩) (by assumption) ?_
                  · intro W0 hSw
                    (try dsimp only at hSw)
                    go_simp
                  simp only [List.set_cons_zero, List.set_cons_succ]
                  refine Tr.take_at 18 112 (.int .i64 ox) rfl rfl (by kernel_rfl) (by kernel_rfl) (by kernel_rfl) (fun _ _ _ h => h) (Or.inl ⟨by rfl, ?_⟩) (by assumption) ?_
                  · intro W0 hSw
                    (try dsimp only at hSw)
                    go_simp
                  simp only [List.set_cons_zero, List.set_cons_succ]
                  refine Tr.take_at 19 113 (.int .i64 (x - ox)) rfl rfl (by kernel_rfl) (by kernel_rfl) (by kernel_rfl) (fun _ _ _ h => h) (Or.inl ⟨by rfl, ?_⟩) (by assumption) ?_
                  · intro W0 hSw
                    (try dsimp only at hSw)
                    go_simp
                  simp only [List.set_cons_zero, List.set_cons_succ]
                  refine Tr.take_at 20 114 (.int .i64 y) rfl rfl (by kernel_rfl) (by kernel_rfl) (by kernel_rfl) (fun _ _ _ h => h) (Or.inl ⟨by rfl, ?_⟩) (by assumption) ?_
                  · intro W0 hSw
                    (try dsimp only at hSw)
                    go_simp
                  simp only [List.set_cons_zero, List.set_cons_succ]
                  refine Tr.take_at 21 115 (.pointer (some ⟨g17, 1, none⟩)) rfl rfl (by kernel_rfl) (by kernel_rfl) (by kernel_rfl) (fun _ _ _ h => h) (Or.inl ⟨by rfl, ?_⟩) (by assumption) ?_
                  · intro W0 hSw
                    (try dsimp only at hSw)
                    go_simp
                  simp only [List.set_cons_zero, List.set_cons_succ]
                  refine Tr.take_at 22 116 (.int .i64 oy) rfl rfl (by kernel_rfl) (by kernel_rfl) (by kernel_rfl) (fun _ _ _ h => h) (Or.inl ⟨by rfl, ?_⟩) (by assumption) ?_
                  · intro W0 hSw
                    (try dsimp only at hSw)
                    go_simp
                  simp only [List.set_cons_zero, List.set_cons_succ]
                  refine Tr.take_at 23 117 (.int .i64 (y - oy)) rfl rfl (by kernel_rfl) (by kernel_rfl) (by kernel_rfl) (fun _ _ _ h => h) (Or.inl ⟨by rfl, ?_⟩) (by assumption) ?_
                  · intro W0 hSw
                    (try dsimp only at hSw)
                    go_simp
                  simp only [List.set_cons_zero, List.set_cons_succ]
                  refine Tr.take_at 25 119 (.int .i64 p) rfl rfl (by kernel_rfl) (by kernel_rfl) (by kernel_rfl) (fun _ _ _ h => h) (Or.inl ⟨by rfl, ?_⟩) (by assumption) ?_
                  · intro W0 hSw
                    (try dsimp only at hSw)
                    go_simp
                  simp only [List.set_cons_zero, List.set_cons_succ]
                  refine Tr.take_at 26 120 (.int .i64 p) rfl rfl (by kernel_rfl) (by kernel_rfl) (by kernel_rfl) (fun _ _ _ h => h) (Or.inl ⟨by rfl, ?_⟩) (by assumption) ?_
                  · intro W0 hSw
                    (try dsimp only at hSw)
                    go_simp
                  simp only [List.set_cons_zero, List.set_cons_succ]
                  refine Tr.take_at 27 121 (.bool true) rfl rfl (by kernel_rfl) (by kernel_rfl) (by kernel_rfl) (fun _ _ _ h => h) (Or.inl ⟨by rfl, ?_⟩) (by assumption) ?_
                  · intro W0 hSw
                    (try dsimp only at hSw)
                    go_simp
                  simp only [List.set_cons_zero, List.set_cons_succ]
                  refine wpAnyH_ready (rs := [14]) (by kernel_rfl) (by simp) ?_
                  refine AllReadyH.cons rfl (fun K hK => ?_) AllReadyH.nil
                  go_simp
                  refine (id_b p _ hids).mono ?_
                  rintro e wd14 ⟨rfl, hbA⟩
                  replace HBW := Lib.hid (bstep HBW.out hbA)
                  replace HRD3 := Lib.hid (HRD3.out.below hbA)
                  clear hbA
                  go_simp
                  refine hK.out _ _ ?_ (fun hHeld => ?_)
                  · (try dsimp only)
                    exact ⟨(K14.out.belowS (bstep HBC.out HBW.out)).cellV (i := 0) rfl, (K14.out.belowS (bstep HBC.out HBW.out)).cellV (i := 1) rfl, (K17.out.belowS HBW.out).cellV (i := 0) rfl, (K17.out.belowS HBW.out).cellV (i := 1) rfl⟩
                  clear hK K
                  refine wpAnyH_ready (rs := [15]) (by kernel_rfl) (by simp) ?_
                  refine AllReadyH.cons rfl (fun K hK => ?_) AllReadyH.nil
                  go_simp
                  refine ((HS.out.below (bstep HBC.out HBW.out)).visible (idW p) HID.out).mono ?_
                  rintro e wd15 ⟨u15, out15, rfl, hro, hpo, hao, hln, hbA⟩
                  obtain ⟨Ao15, co15, rfl, hrd, hcan, _, hcnt⟩ := hro
                  have HRD15 := Lib.hid hrd
                  have HPO15 := Lib.hid hpo
                  have HAO15 := Lib.hid hao
                  have HLN15 := Lib.hid hln
                  have HCN15 := Lib.hid (And.intro hcan hcnt)
                  clear hrd hcan hcnt hpo hao hln
                  replace HBW := Lib.hid (bstep HBW.out hbA)
                  replace HRD3 := Lib.hid (HRD3.out.below hbA)
                  clear hbA
                  go_simp
                  refine hK.out _ _ ?_ (fun hHeld => ?_)
                  · (try dsimp only)
                    exact ⟨(K14.out.belowS (bstep HBC.out HBW.out)).cellV (i := 0) rfl, (K14.out.belowS (bstep HBC.out HBW.out)).cellV (i := 1) rfl, (K17.out.belowS HBW.out).cellV (i := 0) rfl, (K17.out.belowS HBW.out).cellV (i := 1) rfl⟩
                  clear hK K
                  refine wpAnyH_ready (rs := [24]) (by kernel_rfl) (by simp) ?_
                  refine AllReadyH.cons rfl (fun K hK => ?_) AllReadyH.nil
                  go_simp
                  have hh := hasR_any Ao15 out15.length co15 out15 ((x : Int) - ox) ((y : Int) - oy) _ (by have := HLN15.out; omega) HRD15.out HCN15.out.2
                  rw [hasL_inB (canon_down HCN15.out.1), HPO15.out, HVS.out] at hh
                  refine hh.mono ?_
                  clear hh
                  rintro e wd24 ⟨rfl, hbA⟩
                  replace HBW := Lib.hid (bstep HBW.out hbA)
                  replace HRD3 := Lib.hid (HRD3.out.below hbA)
                  replace HRD15 := Lib.hid (HRD15.out.below hbA)
                  clear hbA
                  go_simp
                  refine hK.out _ _ ?_ (fun hHeld => ?_)
                  · (try dsimp only)
                    exact ⟨(K14.out.belowS (bstep HBC.out HBW.out)).cellV (i := 0) rfl, (K14.out.belowS (bstep HBC.out HBW.out)).cellV (i := 1) rfl, (K17.out.belowS HBW.out).cellV (i := 0) rfl, (K17.out.belowS HBW.out).cellV (i := 1) rfl⟩
                  clear hK K
                  refine Tr.take_at 28 122 (.bool false) rfl rfl (by kernel_rfl) (by kernel_rfl) (by kernel_rfl) (fun _ _ _ h => h) (Or.inl ⟨by rfl, ?_⟩) (by assumption) ?_
                  · intro W0 hSw
                    (try dsimp only at hSw)
                    go_simp
                  simp only [List.set_cons_zero, List.set_cons_succ]
                  refine Tr.take_at 29 123 (.bool false) rfl rfl (by kernel_rfl) (by kernel_rfl) (by kernel_rfl) (fun _ _ _ h => h) (Or.inl ⟨by rfl, ?_⟩) (by assumption) ?_
                  · intro W0 hSw
                    (try dsimp only at hSw)
                    go_simp
                  simp only [List.set_cons_zero, List.set_cons_succ]
                  refine wpAnyH_done (by kernel_rfl) ?_ _
                  refine NoPanic.normal ?_
                  go_wp2_with fail
                  go_roundw
                  case rel => exact ⟨p + 1, by go_num, by have := HPB.out; omega, bstep HBX.out HBW.out⟩
                  case measure => have := HPB.out; simp [intOf]; omega
              · as_aux_lemma =>
                  rw [decide_eq_false hpm] at HCS HVS
                  have hpm' : (p == m) = false := by simpa using hpm
                  have HBX := Lib.hid HBW.out
                  clear HBW
                  have hpz := HPB.out
                  have hl7 := HL7.out
                  go_upto_region 27 with fail
                  have HBW := Lib.hid (show Below Z.heap.size Z Z.drew from (bre Z).drew)
                  refine wp_region_noPanic ?_
                  refine wp_region_held_drew (S := (fun w' => w'.cell? ⟨w5.heap.size, 0, none⟩ = some (.slice Av nv cv) ∧ w'.cell? ⟨w5.heap.size, 1, none⟩ = some (.map mv) ∧ w'.cell? ⟨g17, 0, none⟩ = some (.int .i64 ox) ∧ w'.cell? ⟨g17, 1, none⟩ = some (.int .i64 oy))) (by kernel_rfl) ?_ (fun hHeld => ?_)
                  · (try dsimp only)
                    exact ⟨(K14.out.belowS (bstep HBC.out HBW.out)).cellV (i := 0) rfl, (K14.out.belowS (bstep HBC.out HBW.out)).cellV (i := 1) rfl, (K17.out.belowS HBW.out).cellV (i := 0) rfl, (K17.out.belowS HBW.out).cellV (i := 1) rfl⟩
                  refine Tr.take_at 0 94 (.agg #[.slice Av nv cv, .map mv]) rfl rfl (by kernel_rfl) (by kernel_rfl) (by kernel_rfl) (fun _ _ _ h => h) (Or.inl ⟨by rfl, ?_⟩) (by assumption) ?_
                  · intro W0 hSw
                    (try dsimp only at hSw)
                    go_simp
                  simp only [List.set_cons_zero, List.set_cons_succ]
                  refine Tr.take_at 1 95 (.int .i64 p) rfl rfl (by kernel_rfl) (by kernel_rfl) (by kernel_rfl) (fun _ _ _ h => h) (Or.inl ⟨by rfl, ?_⟩) (by assumption) ?_
                  · intro W0 hSw
                    (try dsimp only at hSw)
                    go_simp
                  simp only [List.set_cons_zero, List.set_cons_succ]
                  refine Tr.take_at 4 98 (.int .i64 x) rfl rfl (by kernel_rfl) (by kernel_rfl) (by kernel_rfl) (fun _ _ _ h => h) (Or.inl ⟨by rfl, ?_⟩) (by assumption) ?_
                  · intro W0 hSw
                    (try dsimp only at hSw)
                    go_simp
                  simp only [List.set_cons_zero, List.set_cons_succ]
                  refine Tr.take_at 5 99 (.int .i64 y) rfl rfl (by kernel_rfl) (by kernel_rfl) (by kernel_rfl) (fun _ _ _ h => h) (Or.inl ⟨by rfl, ?_⟩) (by assumption) ?_
                  · intro W0 hSw
                    (try dsimp only at hSw)
                    go_simp
                  simp only [List.set_cons_zero, List.set_cons_succ]
                  refine Tr.take_at 7 101 (.int .i64 p) rfl rfl (by kernel_rfl) (by kernel_rfl) (by kernel_rfl) (fun _ _ _ h => h) (Or.inl ⟨by rfl, ?_⟩) (by assumption) ?_
                  · intro W0 hSw
                    (try dsimp only at hSw)
                    go_simp
                  simp only [List.set_cons_zero, List.set_cons_succ]
                  refine Tr.take_at 8 102 (.int .i64 m) rfl rfl (by kernel_rfl) (by kernel_rfl) (by kernel_rfl) (fun _ _ _ h => h) (Or.inl ⟨by rfl, ?_⟩) (by assumption) ?_
                  · intro W0 hSw
                    (try dsimp only at hSw)
                    go_simp
                  simp only [List.set_cons_zero, List.set_cons_succ]
                  refine Tr.take_at 9 103 (.bool false) rfl rfl (by kernel_rfl) (by kernel_rfl) (by kernel_rfl) (fun _ _ _ h => h) (Or.inl ⟨by rfl, ?_⟩) (by assumption) ?_
                  · intro W0 hSw
                    (try dsimp only at hSw)
                    go_simp
                  simp only [List.set_cons_zero, List.set_cons_succ]
                  refine wpAnyH_ready (rs := [2]) (by kernel_rfl) (by simp) ?_
                  refine AllReadyH.cons rfl (fun K hK => ?_) AllReadyH.nil
                  go_simp
                  refine (id_b p _ hids).mono ?_
                  rintro e wd2 ⟨rfl, hbA⟩
                  replace HBW := Lib.hid (bstep HBW.out hbA)
                  clear hbA
                  go_simp
                  refine hK.out _ _ ?_ (fun hHeld => ?_)
                  · (try dsimp only)
                    exact ⟨(K14.out.belowS (bstep HBC.out HBW.out)).cellV (i := 0) rfl, (K14.out.belowS (bstep HBC.out HBW.out)).cellV (i := 1) rfl, (K17.out.belowS HBW.out).cellV (i := 0) rfl, (K17.out.belowS HBW.out).cellV (i := 1) rfl⟩
                  clear hK K
                  refine wpAnyH_ready (rs := [3]) (by kernel_rfl) (by simp) ?_
                  refine AllReadyH.cons rfl (fun K hK => ?_) AllReadyH.nil
                  go_simp
                  refine ((HS.out.below (bstep HBC.out HBW.out)).clip (idW p) HID.out).mono ?_
                  rintro e wd3 ⟨u3, out3, rfl, hro, hpo, hao, hln, hbA⟩
                  obtain ⟨Ao3, co3, rfl, hrd, hcan, _, hcnt⟩ := hro
                  have HRD3 := Lib.hid hrd
                  have HPO3 := Lib.hid hpo
                  have HAO3 := Lib.hid hao
                  have HLN3 := Lib.hid hln
                  have HCN3 := Lib.hid (And.intro hcan hcnt)
                  clear hrd hcan hcnt hpo hao hln
                  replace HBW := Lib.hid (bstep HBW.out hbA)
                  clear hbA
                  go_simp
                  refine hK.out _ _ ?_ (fun hHeld => ?_)
                  · (try dsimp only)
                    exact ⟨(K14.out.belowS (bstep HBC.out HBW.out)).cellV (i := 0) rfl, (K14.out.belowS (bstep HBC.out HBW.out)).cellV (i := 1) rfl, (K17.out.belowS HBW.out).cellV (i := 0) rfl, (K17.out.belowS HBW.out).cellV (i := 1) rfl⟩
                  clear hK K
                  refine wpAnyH_ready (rs := [6]) (by kernel_rfl) (by simp) ?_
                  refine AllReadyH.cons rfl (fun K hK => ?_) AllReadyH.nil
                  go_simp
                  have hh := hasR_any Ao3 out3.length co3 out3 (x : Int) (y : Int) _ (by have := HLN3.out; omega) HRD3.out HCN3.out.2
                  rw [hasL_inB (canon_down HCN3.out.1), HPO3.out, HCS.out] at hh
                  refine hh.mono ?_
                  clear hh
                  rintro e wd6 ⟨rfl, hbA⟩
                  replace HBW := Lib.hid (bstep HBW.out hbA)
                  replace HRD3 := Lib.hid (HRD3.out.below hbA)
                  clear hbA
                  go_simp
                  refine hK.out _ _ ?_ (fun hHeld => ?_)
                  · (try dsimp only)
                    exact ⟨(K14.out.belowS (bstep HBC.out HBW.out)).cellV (i := 0) rfl, (K14.out.belowS (bstep HBC.out HBW.out)).cellV (i := 1) rfl, (K17.out.belowS HBW.out).cellV (i := 0) rfl, (K17.out.belowS HBW.out).cellV (i := 1) rfl⟩
                  clear hK K
                  refine Tr.take_at 10 104 (.bool false) rfl rfl (by kernel_rfl) (by kernel_rfl) (by kernel_rfl) (fun _ _ _ h => h) (Or.inl ⟨by rfl, ?_⟩) (by assumption) ?_
                  · intro W0 hSw
                    (try dsimp only at hSw)
                    go_simp
                  simp only [List.set_cons_zero, List.set_cons_succ]
                  refine Tr.take_at 11 105 (.bool false) rfl rfl (by kernel_rfl) (by kernel_rfl) (by kernel_rfl) (fun _ _ _ h => h) (Or.inl ⟨by rfl, ?_⟩) (by assumption) ?_
                  · intro W0 hSw
                    (try dsimp only at hSw)
                    go_simp
                  simp only [List.set_cons_zero, List.set_cons_succ]
                  refine Tr.take_at 12 106 (.agg #[.slice Av nv cv, .map mv]) rfl rfl (by kernel_rfl) (by kernel_rfl) (by kernel_rfl) (fun _ _ _ h => h) (Or.inl ⟨by rfl, ?_⟩) (by assumption) ?_
                  · intro W0 hSw
                    (try dsimp only at hSw)
                    go_simp
                  simp only [List.set_cons_zero, List.set_cons_succ]
                  refine Tr.take_at 13 107 (.int .i64 p) rfl rfl (by kernel_rfl) (by kernel_rfl) (by kernel_rfl) (fun _ _ _ h => h) (Or.inl ⟨by rfl, ?_⟩) (by assumption) ?_
                  · intro W0 hSw
                    (try dsimp only at hSw)
                    go_simp
                  simp only [List.set_cons_zero, List.set_cons_succ]
                  refine Tr.take_at 16 110 (.int .i64 x) rfl rfl (by kernel_rfl) (by kernel_rfl) (by kernel_rfl) (fun _ _ _ h => h) (Or.inl ⟨by rfl, ?_⟩) (by assumption) ?_
                  · intro W0 hSw
                    (try dsimp only at hSw)
                    go_simp
                  simp only [List.set_cons_zero, List.set_cons_succ]
                  refine Tr.take_at 17 111 (.pointer (some ⟨g17, 0, none⟩)) rfl rfl (by kernel_rfl) (by kernel_rfl) (by kernel_rfl) (fun _ _ _ h => h) (Or.inl ⟨by rfl, ?_⟩) (by assumption) ?_
                  · intro W0 hSw
                    (try dsimp only at hSw)
                    go_simp
                  simp only [List.set_cons_zero, List.set_cons_succ]
                  refine Tr.take_at 18 112 (.int .i64 ox) rfl rfl (by kernel_rfl) (by kernel_rfl) (by kernel_rfl) (fun _ _ _ h => h) (Or.inl ⟨by rfl, ?_⟩) (by assumption) ?_
                  · intro W0 hSw
                    (try dsimp only at hSw)
                    go_simp
                  simp only [List.set_cons_zero, List.set_cons_succ]
                  refine Tr.take_at 19 113 (.int .i64 (x - ox)) rfl rfl (by kernel_rfl) (by kernel_rfl) (by kernel_rfl) (fun _ _ _ h => h) (Or.inl ⟨by rfl, ?_⟩) (by assumption) ?_
                  · intro W0 hSw
                    (try dsimp only at hSw)
                    go_simp
                  simp only [List.set_cons_zero, List.set_cons_succ]
                  refine Tr.take_at 20 114 (.int .i64 y) rfl rfl (by kernel_rfl) (by kernel_rfl) (by kernel_rfl) (fun _ _ _ h => h) (Or.inl ⟨by rfl, ?_⟩) (by assumption) ?_
                  · intro W0 hSw
                    (try dsimp only at hSw)
                    go_simp
                  simp only [List.set_cons_zero, List.set_cons_succ]
                  refine Tr.take_at 21 115 (.pointer (some ⟨g17, 1, none⟩)) rfl rfl (by kernel_rfl) (by kernel_rfl) (by kernel_rfl) (fun _ _ _ h => h) (Or.inl ⟨by rfl, ?_⟩) (by assumption) ?_
                  · intro W0 hSw
                    (try dsimp only at hSw)
                    go_simp
                  simp only [List.set_cons_zero, List.set_cons_succ]
                  refine Tr.take_at 22 116 (.int .i64 oy) rfl rfl (by kernel_rfl) (by kernel_rfl) (by kernel_rfl) (fun _ _ _ h => h) (Or.inl ⟨by rfl, ?_⟩) (by assumption) ?_
                  · intro W0 hSw
                    (try dsimp only at hSw)
                    go_simp
                  simp only [List.set_cons_zero, List.set_cons_succ]
                  refine Tr.take_at 23 117 (.int .i64 (y - oy)) rfl rfl (by kernel_rfl) (by kernel_rfl) (by kernel_rfl) (fun _ _ _ h => h) (Or.inl ⟨by rfl, ?_⟩) (by assumption) ?_
                  · intro W0 hSw
                    (try dsimp only at hSw)
                    go_simp
                  simp only [List.set_cons_zero, List.set_cons_succ]
                  refine Tr.take_at 25 119 (.int .i64 p) rfl rfl (by kernel_rfl) (by kernel_rfl) (by kernel_rfl) (fun _ _ _ h => h) (Or.inl ⟨by rfl, ?_⟩) (by assumption) ?_
                  · intro W0 hSw
                    (try dsimp only at hSw)
                    go_simp
                  simp only [List.set_cons_zero, List.set_cons_succ]
                  refine Tr.take_at 26 120 (.int .i64 m) rfl rfl (by kernel_rfl) (by kernel_rfl) (by kernel_rfl) (fun _ _ _ h => h) (Or.inl ⟨by rfl, ?_⟩) (by assumption) ?_
                  · intro W0 hSw
                    (try dsimp only at hSw)
                    go_simp
                  simp only [List.set_cons_zero, List.set_cons_succ]
                  refine Tr.take_at 27 121 (.bool false) rfl rfl (by kernel_rfl) (by kernel_rfl) (by kernel_rfl) (fun _ _ _ h => h) (Or.inl ⟨by rfl, ?_⟩) (by assumption) ?_
                  · intro W0 hSw
                    (try dsimp only at hSw)
                    go_simp
                  simp only [List.set_cons_zero, List.set_cons_succ]
                  refine wpAnyH_ready (rs := [14]) (by kernel_rfl) (by simp) ?_
                  refine AllReadyH.cons rfl (fun K hK => ?_) AllReadyH.nil
                  go_simp
                  refine (id_b p _ hids).mono ?_
                  rintro e wd14 ⟨rfl, hbA⟩
                  replace HBW := Lib.hid (bstep HBW.out hbA)
                  replace HRD3 := Lib.hid (HRD3.out.below hbA)
                  clear hbA
                  go_simp
                  refine hK.out _ _ ?_ (fun hHeld => ?_)
                  · (try dsimp only)
                    exact ⟨(K14.out.belowS (bstep HBC.out HBW.out)).cellV (i := 0) rfl, (K14.out.belowS (bstep HBC.out HBW.out)).cellV (i := 1) rfl, (K17.out.belowS HBW.out).cellV (i := 0) rfl, (K17.out.belowS HBW.out).cellV (i := 1) rfl⟩
                  clear hK K
                  refine wpAnyH_ready (rs := [15]) (by kernel_rfl) (by simp) ?_
                  refine AllReadyH.cons rfl (fun K hK => ?_) AllReadyH.nil
                  go_simp
                  refine ((HS.out.below (bstep HBC.out HBW.out)).visible (idW p) HID.out).mono ?_
                  rintro e wd15 ⟨u15, out15, rfl, hro, hpo, hao, hln, hbA⟩
                  obtain ⟨Ao15, co15, rfl, hrd, hcan, _, hcnt⟩ := hro
                  have HRD15 := Lib.hid hrd
                  have HPO15 := Lib.hid hpo
                  have HAO15 := Lib.hid hao
                  have HLN15 := Lib.hid hln
                  have HCN15 := Lib.hid (And.intro hcan hcnt)
                  clear hrd hcan hcnt hpo hao hln
                  replace HBW := Lib.hid (bstep HBW.out hbA)
                  replace HRD3 := Lib.hid (HRD3.out.below hbA)
                  clear hbA
                  go_simp
                  refine hK.out _ _ ?_ (fun hHeld => ?_)
                  · (try dsimp only)
                    exact ⟨(K14.out.belowS (bstep HBC.out HBW.out)).cellV (i := 0) rfl, (K14.out.belowS (bstep HBC.out HBW.out)).cellV (i := 1) rfl, (K17.out.belowS HBW.out).cellV (i := 0) rfl, (K17.out.belowS HBW.out).cellV (i := 1) rfl⟩
                  clear hK K
                  refine wpAnyH_ready (rs := [24]) (by kernel_rfl) (by simp) ?_
                  refine AllReadyH.cons rfl (fun K hK => ?_) AllReadyH.nil
                  go_simp
                  have hh := hasR_any Ao15 out15.length co15 out15 ((x : Int) - ox) ((y : Int) - oy) _ (by have := HLN15.out; omega) HRD15.out HCN15.out.2
                  rw [hasL_inB (canon_down HCN15.out.1), HPO15.out, HVS.out] at hh
                  refine hh.mono ?_
                  clear hh
                  rintro e wd24 ⟨rfl, hbA⟩
                  replace HBW := Lib.hid (bstep HBW.out hbA)
                  replace HRD3 := Lib.hid (HRD3.out.below hbA)
                  replace HRD15 := Lib.hid (HRD15.out.below hbA)
                  clear hbA
                  go_simp
                  refine hK.out _ _ ?_ (fun hHeld => ?_)
                  · (try dsimp only)
                    exact ⟨(K14.out.belowS (bstep HBC.out HBW.out)).cellV (i := 0) rfl, (K14.out.belowS (bstep HBC.out HBW.out)).cellV (i := 1) rfl, (K17.out.belowS HBW.out).cellV (i := 0) rfl, (K17.out.belowS HBW.out).cellV (i := 1) rfl⟩
                  clear hK K
                  refine Tr.take_at 28 122 (.bool false) rfl rfl (by kernel_rfl) (by kernel_rfl) (by kernel_rfl) (fun _ _ _ h => h) (Or.inl ⟨by rfl, ?_⟩) (by assumption) ?_
                  · intro W0 hSw
                    (try dsimp only at hSw)
                    go_simp
                  simp only [List.set_cons_zero, List.set_cons_succ]
                  refine Tr.take_at 29 123 (.bool false) rfl rfl (by kernel_rfl) (by kernel_rfl) (by kernel_rfl) (fun _ _ _ h => h) (Or.inl ⟨by rfl, ?_⟩) (by assumption) ?_
                  · intro W0 hSw
                    (try dsimp only at hSw)
                    go_simp
                  simp only [List.set_cons_zero, List.set_cons_succ]
                  refine wpAnyH_done (by kernel_rfl) ?_ _
                  refine NoPanic.normal ?_
                  go_wp2_with fail
                  go_roundw
                  case rel => exact ⟨p + 1, by go_num, by have := HPB.out; omega, bstep HBX.out HBW.out⟩
                  case measure => have := HPB.out; simp [intOf]; omega
            · obtain rfl : p = (l.length : Int) := by omega
              go_wp2_with fail
              go_roundw
              case rel => exact ⟨x + 1, by go_num, by omega, KA.out.belowS HBW10.out, HBP.out⟩
              case measure => simp [intOf]; omega
        · obtain rfl : x = RW := by omega
          have x1 : ¬ (x : Int) < (x : Int) := by omega
          go_wp2_with fail
          go_roundw
          case rel => exact ⟨y + 1, by go_num, by omega, by rw [← arL_row]; exact KA.out, HB6.out⟩
          case measure => simp [intOf]; omega
    · obtain rfl : y = RH := by omega
      have y1 : ¬ (y : Int) < (y : Int) := by omega
      have HAR := Lib.hid (fun (q : Nat) (p : Int) (hq : (q : Int) = p + 1) (hp : -1 ≤ p ∧ p < (l.length : Int)) => show (arL l F RW y 0)[q]? = some ((cntP RW y (fun x z => showB (esS RW y l) x z (idW p)) : Nat) : Int) by
        rw [arL_get (by omega)]
        rw [show rowC (PI l F q) y 0 = 0 from rfl, Nat.add_zero]
        congr 2
        refine cntP_congr (fun x z hx hz => ?_)
        rw [HSH.out, show rectP RW y x z = true by rw [rect_iff]; simp; omega, Bool.true_and]
        unfold PI
        have hmb := atD_bd HUP.out F (-1) x z (by omega) (by omega)
        rw [Bool.eq_iff_iff, decide_eq_true_eq, decide_eq_true_eq]
        constructor
        · intro h
          rw [← h]
          congr 1
          omega
        · intro h
          have := idW_inj hp.1 hmb.1 h
          omega)
      obtain ⟨Y, hY⟩ : ∃ Y, Y = wr := ⟨_, rfl⟩
      subst hY
      go_upto_region 29 with fail
      go_wp2_with fail
      go_loopw [18] (fun i wr => ∃ p : Int, i = .int .i64 p ∧ (-1 ≤ p ∧ p ≤ (l.length : Int)) ∧ Below Y.heap.size Y wr) (fun i _ => ((l.length : Int) - intOf i).toNat)
      case atStart => exact ⟨-1, rfl, by omega, bre Y⟩
      case round =>
        obtain ⟨p, rfl, hp, hbp⟩ := hrel
        have HBP := Lib.hid (bstep HB6.out hbp)
        have HBY := Lib.hid hbp
        clear hbp
        by_cases hltp : p < (l.length : Int)
        · have hids : -1 ≤ p ∧ p ≤ 1000000 := by have := HL7.out; omega
          have HPB := Lib.hid (And.intro hp hltp)
          have HID := Lib.hid (idW_bd hids)
          obtain ⟨q, hq⟩ : ∃ q : Nat, (q : Int) = p + 1 := ⟨(p + 1).toNat, by omega⟩
          have HQ := Lib.hid hq
          have hqN : q < N := by have h2 := HNN.out; omega
          obtain ⟨ar, har⟩ : ∃ ar : Int, ((cntP RW y (fun x z => showB (esS RW y l) x z (idW p)) : Nat) : Int) = ar := ⟨_, rfl⟩
          have hcell := HAR.out q p hq ⟨hp.1, hltp⟩
          rw [har] at hcell
          have KC := Lib.hid (KA.out.cellV (i := q) (v := .int .i64 ar) (I64_atA hcell))
          have HARR := Lib.hid har
          have qN : (q : Int) < (N : Int) := by omega
          have q0 : (0 : Int) ≤ (q : Int) := by omega
          have wQ : IntKind.i64.wrap (p + 1) = (q : Int) := by rw [hq]; exact IntWalk.i64_in _ (by have := HL7.out; omega)
          have hN8 : N ≤ 8 := by have := HNN.out; have := HL7.out; omega
          clear hcell har hq
          go_upto_region 32 with fail
          have HBW := Lib.hid (show Below wr.heap.size wr wr.drew from (bre wr).drew)
          refine wp_region_noPanic ?_
          refine wp_region_held_drew (S := (fun w' => w'.cell? ⟨w5.heap.size, 0, none⟩ = some (.slice Av nv cv) ∧ w'.cell? ⟨w5.heap.size, 1, none⟩ = some (.map mv) ∧ w'.cell? ⟨G, q, none⟩ = some (.int .i64 ar))) (by kernel_rfl) ?_ (fun hHeld => ?_)
          · (try dsimp only)
            exact ⟨(K14.out.belowS (bstep HBP.out HBW.out)).cellV (i := 0) rfl, (K14.out.belowS (bstep HBP.out HBW.out)).cellV (i := 1) rfl, (((bstep HBY.out HBW.out).cell (p := ⟨G, q, none⟩) KA.out.lt).trans KC.out)⟩
          refine Tr.take_at 0 130 (.agg #[.slice Av nv cv, .map mv]) rfl rfl (by kernel_rfl) (by kernel_rfl) (by kernel_rfl) (fun _ _ _ h => h) (Or.inl ⟨by rfl, ?_⟩) (by assumption) ?_
          · intro W0 hSw
            (try dsimp only at hSw)
            go_simp
          simp only [List.set_cons_zero, List.set_cons_succ]
          refine Tr.take_at 1 131 (.int .i64 p) rfl rfl (by kernel_rfl) (by kernel_rfl) (by kernel_rfl) (fun _ _ _ h => h) (Or.inl ⟨by rfl, ?_⟩) (by assumption) ?_
          · intro W0 hSw
            (try dsimp only at hSw)
            go_simp
          simp only [List.set_cons_zero, List.set_cons_succ]
          refine Tr.take_at 5 135 (.slice (some ⟨G, 0, none⟩) N N) rfl rfl (by kernel_rfl) (by kernel_rfl) (by kernel_rfl) (fun _ _ _ h => h) (Or.inl ⟨by rfl, ?_⟩) (by assumption) ?_
          · intro W0 hSw
            (try dsimp only at hSw)
            go_simp
          simp only [List.set_cons_zero, List.set_cons_succ]
          refine Tr.take_at 6 136 (.int .i64 p) rfl rfl (by kernel_rfl) (by kernel_rfl) (by kernel_rfl) (fun _ _ _ h => h) (Or.inl ⟨by rfl, ?_⟩) (by assumption) ?_
          · intro W0 hSw
            (try dsimp only at hSw)
            go_simp
          simp only [List.set_cons_zero, List.set_cons_succ]
          refine Tr.take_at 7 137 (.int .i64 q) rfl rfl (by kernel_rfl) (by kernel_rfl) (by kernel_rfl) (fun _ _ _ h => h) (Or.inl ⟨by rfl, ?_⟩) (by assumption) ?_
          · intro W0 hSw
            (try dsimp only at hSw)
            go_simp
          simp only [List.set_cons_zero, List.set_cons_succ]
          refine Tr.take_at 8 138 (.pointer (some ⟨G, q, none⟩)) rfl rfl (by kernel_rfl) (by kernel_rfl) (by kernel_rfl) (fun _ _ _ h => h) (Or.inl ⟨by rfl, ?_⟩) (by assumption) ?_
          · intro W0 hSw
            (try dsimp only at hSw)
            go_simp
          simp only [List.set_cons_zero, List.set_cons_succ]
          refine Tr.take_at 9 139 (.int .i64 ar) rfl rfl (by kernel_rfl) (by kernel_rfl) (by kernel_rfl) (fun _ _ _ h => h) (Or.inl ⟨by rfl, ?_⟩) (by assumption) ?_
          · intro W0 hSw
            (try dsimp only at hSw)
            go_simp
          simp only [List.set_cons_zero, List.set_cons_succ]
          refine wpAnyH_ready (rs := [2]) (by kernel_rfl) (by simp) ?_
          refine AllReadyH.cons rfl (fun K hK => ?_) AllReadyH.nil
          go_simp
          refine (id_b p _ hids).mono ?_
          rintro e wd2 ⟨rfl, hbA⟩
          replace HBW := Lib.hid (bstep HBW.out hbA)
          clear hbA
          go_simp
          refine hK.out _ _ ?_ (fun hHeld => ?_)
          · (try dsimp only)
            exact ⟨(K14.out.belowS (bstep HBP.out HBW.out)).cellV (i := 0) rfl, (K14.out.belowS (bstep HBP.out HBW.out)).cellV (i := 1) rfl, (((bstep HBY.out HBW.out).cell (p := ⟨G, q, none⟩) KA.out.lt).trans KC.out)⟩
          clear hK K
          refine wpAnyH_ready (rs := [3]) (by kernel_rfl) (by simp) ?_
          refine AllReadyH.cons rfl (fun K hK => ?_) AllReadyH.nil
          go_simp
          refine ((HS.out.below (bstep HBP.out HBW.out)).visible (idW p) HID.out).mono ?_
          rintro e wd3 ⟨u3, out3, rfl, hro, hpo, hao, hln, hbA⟩
          obtain ⟨Ao3, co3, rfl, hrd, hcan, _, hcnt⟩ := hro
          have HRD3 := Lib.hid hrd
          have HPO3 := Lib.hid hpo
          have HAO3 := Lib.hid hao
          have HLN3 := Lib.hid hln
          have HCN3 := Lib.hid (And.intro hcan hcnt)
          clear hrd hcan hcnt hpo hao hln
          replace HBW := Lib.hid (bstep HBW.out hbA)
          clear hbA
          go_simp
          refine hK.out _ _ ?_ (fun hHeld => ?_)
          · (try dsimp only)
            exact ⟨(K14.out.belowS (bstep HBP.out HBW.out)).cellV (i := 0) rfl, (K14.out.belowS (bstep HBP.out HBW.out)).cellV (i := 1) rfl, (((bstep HBY.out HBW.out).cell (p := ⟨G, q, none⟩) KA.out.lt).trans KC.out)⟩
          clear hK K
          refine wpAnyH_ready (rs := [4]) (by kernel_rfl) (by simp) ?_
          refine AllReadyH.cons rfl (fun K hK => ?_) AllReadyH.nil
          go_simp
          have hh := area_any Ao3 out3.length co3 out3 _ (by have := HLN3.out; omega) HRD3.out HCN3.out.2
          rw [HAO3.out, HARR.out] at hh
          refine hh.mono ?_
          clear hh
          rintro e wd4 ⟨rfl, hbA⟩
          replace HBW := Lib.hid (bstep HBW.out hbA)
          replace HRD3 := Lib.hid (HRD3.out.below hbA)
          clear hbA
          go_simp
          refine hK.out _ _ ?_ (fun hHeld => ?_)
          · (try dsimp only)
            exact ⟨(K14.out.belowS (bstep HBP.out HBW.out)).cellV (i := 0) rfl, (K14.out.belowS (bstep HBP.out HBW.out)).cellV (i := 1) rfl, (((bstep HBY.out HBW.out).cell (p := ⟨G, q, none⟩) KA.out.lt).trans KC.out)⟩
          clear hK K
          refine Tr.take_at 10 140 (.bool false) rfl rfl (by kernel_rfl) (by kernel_rfl) (by kernel_rfl) (fun _ _ _ h => h) (Or.inl ⟨by rfl, ?_⟩) (by assumption) ?_
          · intro W0 hSw
            (try dsimp only at hSw)
            go_simp
          simp only [List.set_cons_zero, List.set_cons_succ]
          refine Tr.take_at 11 141 (.bool false) rfl rfl (by kernel_rfl) (by kernel_rfl) (by kernel_rfl) (fun _ _ _ h => h) (Or.inl ⟨by rfl, ?_⟩) (by assumption) ?_
          · intro W0 hSw
            (try dsimp only at hSw)
            go_simp
          simp only [List.set_cons_zero, List.set_cons_succ]
          refine Tr.take_at 12 142 (.agg #[.slice Av nv cv, .map mv]) rfl rfl (by kernel_rfl) (by kernel_rfl) (by kernel_rfl) (fun _ _ _ h => h) (Or.inl ⟨by rfl, ?_⟩) (by assumption) ?_
          · intro W0 hSw
            (try dsimp only at hSw)
            go_simp
          simp only [List.set_cons_zero, List.set_cons_succ]
          refine Tr.take_at 13 143 (.int .i64 p) rfl rfl (by kernel_rfl) (by kernel_rfl) (by kernel_rfl) (fun _ _ _ h => h) (Or.inl ⟨by rfl, ?_⟩) (by assumption) ?_
          · intro W0 hSw
            (try dsimp only at hSw)
            go_simp
          simp only [List.set_cons_zero, List.set_cons_succ]
          refine Tr.take_at 17 147 (.slice (some ⟨G, 0, none⟩) N N) rfl rfl (by kernel_rfl) (by kernel_rfl) (by kernel_rfl) (fun _ _ _ h => h) (Or.inl ⟨by rfl, ?_⟩) (by assumption) ?_
          · intro W0 hSw
            (try dsimp only at hSw)
            go_simp
          simp only [List.set_cons_zero, List.set_cons_succ]
          refine Tr.take_at 18 148 (.int .i64 p) rfl rfl (by kernel_rfl) (by kernel_rfl) (by kernel_rfl) (fun _ _ _ h => h) (Or.inl ⟨by rfl, ?_⟩) (by assumption) ?_
          · intro W0 hSw
            (try dsimp only at hSw)
            go_simp
          simp only [List.set_cons_zero, List.set_cons_succ]
          refine Tr.take_at 19 149 (.int .i64 q) rfl rfl (by kernel_rfl) (by kernel_rfl) (by kernel_rfl) (fun _ _ _ h => h) (Or.inl ⟨by rfl, ?_⟩) (by assumption) ?_
          · intro W0 hSw
            (try dsimp only at hSw)
            go_simp
          simp only [List.set_cons_zero, List.set_cons_succ]
          refine Tr.take_at 20 150 (.pointer (some ⟨G, q, none⟩)) rfl rfl (by kernel_rfl) (by kernel_rfl) (by kernel_rfl) (fun _ _ _ h => h) (Or.inl ⟨by rfl, ?_⟩) (by assumption) ?_
          · intro W0 hSw
            (try dsimp only at hSw)
            go_simp
          simp only [List.set_cons_zero, List.set_cons_succ]
          refine Tr.take_at 21 151 (.int .i64 ar) rfl rfl (by kernel_rfl) (by kernel_rfl) (by kernel_rfl) (fun _ _ _ h => h) (Or.inl ⟨by rfl, ?_⟩) (by assumption) ?_
          · intro W0 hSw
            (try dsimp only at hSw)
            go_simp
          simp only [List.set_cons_zero, List.set_cons_succ]
          refine wpAnyH_ready (rs := [14]) (by kernel_rfl) (by simp) ?_
          refine AllReadyH.cons rfl (fun K hK => ?_) AllReadyH.nil
          go_simp
          refine (id_b p _ hids).mono ?_
          rintro e wd14 ⟨rfl, hbA⟩
          replace HBW := Lib.hid (bstep HBW.out hbA)
          replace HRD3 := Lib.hid (HRD3.out.below hbA)
          clear hbA
          go_simp
          refine hK.out _ _ ?_ (fun hHeld => ?_)
          · (try dsimp only)
            exact ⟨(K14.out.belowS (bstep HBP.out HBW.out)).cellV (i := 0) rfl, (K14.out.belowS (bstep HBP.out HBW.out)).cellV (i := 1) rfl, (((bstep HBY.out HBW.out).cell (p := ⟨G, q, none⟩) KA.out.lt).trans KC.out)⟩
          clear hK K
          refine wpAnyH_ready (rs := [15]) (by kernel_rfl) (by simp) ?_
          refine AllReadyH.cons rfl (fun K hK => ?_) AllReadyH.nil
          go_simp
          refine ((HS.out.below (bstep HBP.out HBW.out)).clip (idW p) HID.out).mono ?_
          rintro e wd15 ⟨u15, out15, rfl, hro, hpo, hao, hln, hbA⟩
          obtain ⟨Ao15, co15, rfl, hrd, hcan, _, hcnt⟩ := hro
          have HRD15 := Lib.hid hrd
          have HPO15 := Lib.hid hpo
          have HAO15 := Lib.hid hao
          have HLN15 := Lib.hid hln
          have HCN15 := Lib.hid (And.intro hcan hcnt)
          clear hrd hcan hcnt hpo hao hln
          replace HBW := Lib.hid (bstep HBW.out hbA)
          replace HRD3 := Lib.hid (HRD3.out.below hbA)
          clear hbA
          go_simp
          refine hK.out _ _ ?_ (fun hHeld => ?_)
          · (try dsimp only)
            exact ⟨(K14.out.belowS (bstep HBP.out HBW.out)).cellV (i := 0) rfl, (K14.out.belowS (bstep HBP.out HBW.out)).cellV (i := 1) rfl, (((bstep HBY.out HBW.out).cell (p := ⟨G, q, none⟩) KA.out.lt).trans KC.out)⟩
          clear hK K
          refine wpAnyH_ready (rs := [16]) (by kernel_rfl) (by simp) ?_
          refine AllReadyH.cons rfl (fun K hK => ?_) AllReadyH.nil
          go_simp
          have hh := area_any Ao15 out15.length co15 out15 _ (by have := HLN15.out; omega) HRD15.out HCN15.out.2
          rw [HAO15.out, HARR.out] at hh
          refine hh.mono ?_
          clear hh
          rintro e wd16 ⟨rfl, hbA⟩
          replace HBW := Lib.hid (bstep HBW.out hbA)
          replace HRD3 := Lib.hid (HRD3.out.below hbA)
          replace HRD15 := Lib.hid (HRD15.out.below hbA)
          clear hbA
          go_simp
          refine hK.out _ _ ?_ (fun hHeld => ?_)
          · (try dsimp only)
            exact ⟨(K14.out.belowS (bstep HBP.out HBW.out)).cellV (i := 0) rfl, (K14.out.belowS (bstep HBP.out HBW.out)).cellV (i := 1) rfl, (((bstep HBY.out HBW.out).cell (p := ⟨G, q, none⟩) KA.out.lt).trans KC.out)⟩
          clear hK K
          refine Tr.take_at 22 152 (.bool false) rfl rfl (by kernel_rfl) (by kernel_rfl) (by kernel_rfl) (fun _ _ _ h => h) (Or.inl ⟨by rfl, ?_⟩) (by assumption) ?_
          · intro W0 hSw
            (try dsimp only at hSw)
            go_simp
          simp only [List.set_cons_zero, List.set_cons_succ]
          refine Tr.take_at 23 153 (.bool false) rfl rfl (by kernel_rfl) (by kernel_rfl) (by kernel_rfl) (fun _ _ _ h => h) (Or.inl ⟨by rfl, ?_⟩) (by assumption) ?_
          · intro W0 hSw
            (try dsimp only at hSw)
            go_simp
          simp only [List.set_cons_zero, List.set_cons_succ]
          refine wpAnyH_done (by kernel_rfl) ?_ _
          refine NoPanic.normal ?_
          have hpz := HPB.out
          go_wp2_with fail
          go_roundw
          case rel => exact ⟨p + 1, by rw [HQ.out], by have := HPB.out; omega, bstep HBY.out HBW.out⟩
          case measure => have := HPB.out; have := HQ.out; simp [intOf]; omega
        · obtain rfl : p = (l.length : Int) := by omega
          go_upto_region 34 with fail
          go_wp2_with fail
          refine (awake31_any _).mono ?_
          rintro e w22 ⟨rfl, hb22⟩
          have HB2 := Lib.hid (bstep HB.out (bstep HBP.out hb22))
          clear hb22
          go_wp2_with fail
          go_ret
          exact ⟨rfl, HB2.out⟩
end Go.Proofs.YtbkkecijcijhdaaGreat
end
