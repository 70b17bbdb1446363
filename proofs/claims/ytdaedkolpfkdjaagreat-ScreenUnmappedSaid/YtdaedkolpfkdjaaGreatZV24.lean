/-
  The walk of view.Of.
  The walks of what a view tells of one window: Clip, Visible, Origin, Viewable.
  tree.Add and place.Set, each in one contract.
  Trees and places where a variable's own cell is written.
  The document's windows in memory; their ids; the walks of id, great and size.
-/
import Derived.Test.YtdaedkolpfkdjaaGreatZV23
import Derived.Test.YtdaedkolpfkdjaaGreatZV03
import Derived.Test.YtdaedkolpfkdjaaGreatZV06
import Derived.Test.YtdaedkolpfkdjaaGreatZV09
section
namespace Go.Proofs.YtdaedkolpfkdjaaGreat
open Go.RowKit Go.Maps Go.Shelf

def rectP (RW RH : Int) : Places := fun x y => inB [⟨0, 0, RW, RH⟩] x y
/-- what the view's order has, some windows on. -/
theorem take_filter {l : List Int} {k : Nat} {i : Int} (h : l[k]? = some i) (p : Int → Bool) : (l.take (k + 1)).filter p = (l.take k).filter p ++ (if p i then [i] else []) := by
  rw [List.take_add_one, h, List.filter_append]
  cases hp : p i <;> simp [hp]
set_option maxRecDepth 1000000 in
set_option maxHeartbeats 8000000 in
theorem viewOf_any (mp mk mu : Option Nat) (n nk : Nat) (fk : Int → Option Value) (ns : Nodes) (bs : Bxs) (bx : Int → Option VB) (RW RH : Nat) (w : World)
    (hT : TreeIs w (.agg #[.map mk, .map mu]) ns mk mu nk fk) (hP : PlaceIs w (.agg #[.map mp]) n bs) (tok : TreeOk ns) (rel : BxRel w bs bx) (sides : ∀ k b, bs k = some b → (1 ≤ b.W ∧ b.W ≤ 128) ∧ 1 ≤ b.H ∧ b.H ≤ 128) (nearb : nearB bs)
    (near : ∀ k, (-900000 ≤ orgX ns bs k ∧ orgX ns bs k ≤ 900000) ∧ -900000 ≤ orgY ns bs k ∧ orgY ns bs k ≤ 900000) (hR : (1 ≤ RW ∧ RW ≤ 128) ∧ 1 ≤ RH ∧ RH ≤ 128) (hroot : bs 1 = some (rootBX RW RH)) :
    Calls Tryz.prog 25 #[.agg #[.map mk, .map mu], .agg #[.map mp]] w fun e w' => ∃ v A n c mv nm f, e = .returned v ∧ ViewIs w' v A n c mv nm f (ordW ns bx 1) (esN ns bx (rectP RW RH)) (fun i => (orgX ns bs i, orgY ns bs i)) RW RH ∧ Below w.heap.size w w' := by
  obtain ⟨i0, hi0, hz0, hz1, hz2⟩ := info_parts Tryz.infoU
  have HT := Lib.hid hT
  have HP := Lib.hid hP
  have HTOK := Lib.hid tok
  have HREL := Lib.hid rel
  have HSD := Lib.hid sides
  have HNB := Lib.hid nearb
  have HNR := Lib.hid near
  have HRR := Lib.hid hR
  have HRT := Lib.hid hroot
  clear hT hP tok rel sides nearb near hR hroot
  have hmm := @run_makeMap Tryz.prog
  go_enter Tryz.func25, Tryz.ntmps25
  go_wp2_with fail
  obtain ⟨N1, hN1⟩ : ∃ N1, (((((w.alloc (.cells #[.map mk, .map mu] 37)).alloc (.cells #[.map mp] 40)).alloc (.cells #[.slice none 0 0, .map none] 52)).alloc (.map #[] 0)).alloc (.cells #[.slice none 0 0, .map (some (w.heap.size + 1 + 1 + 1))] 52)).alloc (.cells #[.func (.func 86) #[] #[.pointer (some ⟨w.heap.size + 1, 0, none⟩), .pointer (some ⟨w.heap.size, 0, none⟩), .pointer (some ⟨w.heap.size + 1 + 1 + 1 + 1 + 1, 0, none⟩), .pointer (some ⟨w.heap.size + 1 + 1 + 1 + 1, 0, none⟩)]] 177) = N1 := ⟨_, rfl⟩
  obtain ⟨⟨a2, a3, a4⟩, am, ⟨a5, a6⟩, ab, az⟩ := start6 w _ _ _ _ _ _ _ _ _ _ hN1
  rw [hN1]
  clear hmm hN1
  have K2 := Lib.hid a2
  have K3 := Lib.hid a3
  have K4 := Lib.hid a4
  have HM := Lib.hid am
  have K5 := Lib.hid a5
  have K6 := Lib.hid a6
  have HB := Lib.hid ab
  have HZ := Lib.hid az
  clear a2 a3 a4 am a5 a6 ab az
  have hbox := box_any (.agg #[.map mp]) n bs 1 N1 (by decide) (HP.out.below HB.out)
  rw [HRT.out] at hbox
  refine (show Calls Tryz.prog 60 #[.agg #[.map mp], .int .u32 1] N1 (fun e w' => e = .returned (.tuple #[.agg #[.int .i64 0, .int .i64 0, .int .i64 RW, .int .i64 RH, .bool true, .int .i64 1, .int .i64 1, .bool false, .slice none 0 0], .bool true]) ∧ Below N1.heap.size N1 w') from hbox).mono ?_
  rintro e w2 ⟨rfl, hb2⟩
  have HS2 := Lib.hid hb2.size
  replace K2 := Lib.hid (K2.out.belowS hb2)
  replace K3 := Lib.hid (K3.out.belowS hb2)
  replace K4 := Lib.hid (K4.out.belowS hb2)
  replace HM := Lib.hid (HM.out.below hb2)
  replace K5 := Lib.hid (K5.out.belowS hb2)
  replace K6 := Lib.hid (K6.out.belowS hb2)
  replace HB := Lib.hid (bstep HB.out hb2)
  clear hbox hb2
  have e3 := (K3.out.alloc (.cells #[.int .i64 0, .int .i64 0, .int .i64 RW, .int .i64 RH, .bool true, .int .i64 1, .int .i64 1, .bool false, .slice none 0 0] 133)).cellV (i := 0) (v := .map mp) rfl
  go_upto_region 6 with fail
  clear e3
  have hba : Below w2.heap.size w2 (w2.alloc (.cells #[.int .i64 0, .int .i64 0, .int .i64 RW, .int .i64 RH, .bool true, .int .i64 1, .int .i64 1, .bool false, .slice none 0 0] 133)) := bal (bre w2) _
  have xK2 := K2.out.belowS hba
  have xK3 := K3.out.belowS hba
  have xK4 := K4.out.belowS hba
  have xHM := HM.out.below hba
  have xK5 := K5.out.belowS hba
  have xK6 := K6.out.belowS hba
  have xHB := bstep HB.out hba
  have xK7 := Blk.new w2 133 #[.int .i64 0, .int .i64 0, .int .i64 RW, .int .i64 RH, .bool true, .int .i64 1, .int .i64 1, .bool false, .slice none 0 0]
  obtain ⟨X3, hX3⟩ : ∃ X3, w2.alloc (.cells #[.int .i64 0, .int .i64 0, .int .i64 RW, .int .i64 RH, .bool true, .int .i64 1, .int .i64 1, .bool false, .slice none 0 0] 133) = X3 := ⟨_, rfl⟩
  rw [hX3] at hba xK2 xK3 xK4 xHM xK5 xK6 xHB xK7 ⊢
  replace K2 := Lib.hid xK2
  replace K3 := Lib.hid xK3
  replace K4 := Lib.hid xK4
  replace HM := Lib.hid xHM
  replace K5 := Lib.hid xK5
  replace K6 := Lib.hid xK6
  replace HB := Lib.hid xHB
  have K7 := Lib.hid xK7
  have HSX3 := Lib.hid hba.size
  clear hX3 hba xK2 xK3 xK4 xHM xK5 xK6 xHB xK7
  clear K7
  have d3 := K3.out.cellV (i := 0) (v := .map mp) rfl
  go_wp2_with fail
  have h129 : (upto 0 (128 : Int).toNat).length * (upto 0 (128 : Int).toNat).length ≤ 100000 := by rw [upto_len]; decide
  refine (areaZ_any (.agg #[.map mp]) n bs 1 (rootBX RW RH) [] (upto 0 (128 : Int).toNat) (upto 0 (128 : Int).toNat) _ (by decide) (HP.out.below HB.out) HRT.out (by have := HRR.out; show (1 ≤ (RW : Int) ∧ (RW : Int) ≤ 1000000) ∧ 1 ≤ (RH : Int) ∧ (RH : Int) ≤ 1000000; omega) (reg_nil _ 0) (inRoot_edges (rect_pos (by have := HRR.out; show 1 ≤ (RW : Int) ∧ 1 ≤ (RH : Int); omega)) (by decide) (rect_in (by have := HRR.out; show (RW : Int) ≤ 128 ∧ (RH : Int) ≤ 128; omega))) h129).mono ?_
  rintro e w4 ⟨v4, out, rfl, hr4, hi4, hb4⟩
  have HIN := Lib.hid (show inB out = rectP RW RH from by
    funext a b
    rw [hi4]
    show (_ && (!false || _)) = _
    simp [rectP, rootBX])
  have HR4 := Lib.hid hr4
  obtain ⟨A4, c4, rfl, _⟩ := hr4
  have HS4 := Lib.hid hb4.size
  replace K2 := Lib.hid (K2.out.belowS hb4)
  replace K3 := Lib.hid (K3.out.belowS hb4)
  replace K4 := Lib.hid (K4.out.belowS hb4)
  replace HM := Lib.hid (HM.out.below hb4)
  replace K5 := Lib.hid (K5.out.belowS hb4)
  replace K6 := Lib.hid (K6.out.belowS hb4)
  replace HB := Lib.hid (bstep HB.out hb4)
  clear hb4 hi4 d3
  go_upto_region 7 with fail
  have hba : Below w4.heap.size w4 (w4.alloc (.cells #[.slice A4 out.length c4] 57)) := bal (bre w4) _
  have xK2 := K2.out.belowS hba
  have xK3 := K3.out.belowS hba
  have xK4 := K4.out.belowS hba
  have xHM := HM.out.below hba
  have xK5 := K5.out.belowS hba
  have xK6 := K6.out.belowS hba
  have xHB := bstep HB.out hba
  have xHR4 := HR4.out.below hba
  have xK9 := Blk.new w4 57 #[.slice A4 out.length c4]
  obtain ⟨W0, hW0⟩ : ∃ W0, w4.alloc (.cells #[.slice A4 out.length c4] 57) = W0 := ⟨_, rfl⟩
  rw [hW0] at hba xK2 xK3 xK4 xHM xK5 xK6 xHB xHR4 xK9 ⊢
  replace K2 := Lib.hid xK2
  replace K3 := Lib.hid xK3
  replace K4 := Lib.hid xK4
  replace HM := Lib.hid xHM
  replace K5 := Lib.hid xK5
  replace K6 := Lib.hid xK6
  replace HB := Lib.hid xHB
  replace HR4 := Lib.hid xHR4
  have K9 := Lib.hid xK9
  have HSW0 := Lib.hid hba.size
  clear hW0 hba xK2 xK3 xK4 xHM xK5 xK6 xHB xHR4 xK9
  have d6 := K6.out.cellV (i := 0) (v := .func (.func 86) #[] #[.pointer (some ⟨w.heap.size + 1, 0, none⟩), .pointer (some ⟨w.heap.size, 0, none⟩), .pointer (some ⟨w.heap.size + 1 + 1 + 1 + 1 + 1, 0, none⟩), .pointer (some ⟨w.heap.size + 1 + 1 + 1 + 1, 0, none⟩)]) rfl
  have d9 := K9.out.cellV (i := 0) (v := .slice A4 out.length c4) rfl
  have HLT := Lib.hid (show w.heap.size + 6 ≤ W0.heap.size by have := HZ.out; have := HS2.out; have := HSX3.out; have := HS4.out; have := HSW0.out; omega)
  have hbl := below_len HTOK.out (hasN_root ns)
  have hfew := HT.out.few
  have C : VCtx w W0 (w.heap.size + 1) w.heap.size (w.heap.size + 1 + 1 + 1 + 1 + 1) (w.heap.size + 1 + 1 + 1 + 1) (w.heap.size + 1 + 1 + 1) mp mk mu n nk fk ns bs bx RW RH := {
    hB := HB.out
    hm := by omega
    hm0 := by have := HLT.out; omega
    k3 := K3.out
    k4 := K2.out
    k5 := K6.out
    k6 := K5.out
    n3 := by omega
    n4 := by omega
    n5 := by omega
    n6 := by omega
    place := HP.out
    tree := HT.out
    tok := HTOK.out
    rel := HREL.out
    sides := HSD.out
    nearb := HNB.out
    near := fun k => by have := HNR.out k; omega
    side := by have := HRR.out; omega }
  have HC := Lib.hid C
  have hroot : InRoot RW RH out := fun a b hab => by
    have h1 := (inB_iff _ _ _).2 hab
    rw [HIN.out] at h1
    exact (inB_rect _ _ _ _).1 h1
  have ho1 : orgOk ns bs 1 = true := by
    unfold orgOk
    rw [hasN_root, path_root HTOK.out]
    simp [allB, HRT.out]
  have hat0 : HandAt W0 (w.heap.size + 1 + 1 + 1) ns bs [] W0 := ⟨⟨rfl, rfl, rfl, Nat.le_refl _, fun _ _ _ => rfl⟩, by have := HLT.out; omega, 0, _, by simp, HM.out, fun _ _ => rfl, fun i e he => by simp [lastE] at he⟩
  have hh := hand_any C (belowAt ns 1).length 1 _ _ out out [] W0 (Nat.le_refl _) (by simp only [List.length_nil]; omega) (hasN_root ns) ho1 HR4.out HR4.out hroot hroot hat0
  have HH := Lib.hid hh
  clear C hroot ho1 hat0 hh hbl
  go_wp2_with fail
  refine HH.out.mono ?_
  rintro e w5 ⟨rfl, hat5, hg5⟩
  rw [List.nil_append, HIN.out, show handF ns bx (belowAt ns 1).length 1 (rectP RW RH) (rectP RW RH) = esN ns bx (rectP RW RH) from rfl] at hat5
  have HAT5 := Lib.hid hat5
  have HG5 := Lib.hid hg5
  clear d6 d9 HH hat5
  replace K2 := Lib.hid (K2.out.grown hg5 (fun e => by have := Option.some.inj e; omega))
  replace K4 := Lib.hid (K4.out.grown hg5 (fun e => by have := Option.some.inj e; omega))
  replace K5 := Lib.hid (K5.out.grown hg5 (fun e => by have := Option.some.inj e; omega))
  replace HB := Lib.hid (HB.out.grown hg5 HB.out.size (fun q e => by have := Option.some.inj e; omega))
  clear hg5 K3 K6 HM K9 HR4
  have d2 := K2.out.cellV (i := 0) (v := .map mk) rfl
  have d2' := K2.out.cellV (i := 1) (v := .map mu) rfl
  go_wp2_with fail
  refine (below_any (.agg #[.map mk, .map mu]) ns mk mu nk fk 1 _ (by decide) (HT.out.below HB.out) HTOK.out).mono ?_
  rintro e w6 ⟨u6, rfl, ho6, hb6⟩
  obtain ⟨A6, c6, rfl, hc6⟩ := own_form ho6
  have HR6 := Lib.hid (Rd.of_own ho6)
  have HAT6 := Lib.hid (HAT5.out.below hb6)
  have HS6 := Lib.hid hb6.size
  have HS5 := Lib.hid HG5.out.size
  obtain ⟨nb, hnb⟩ : ∃ nb, (belowN ns 1).length = nb := ⟨_, rfl⟩
  have hr6 := HR6.out
  rw [hnb] at hr6 hc6 ⊢
  replace HR6 := Lib.hid hr6
  have HNB6 := Lib.hid hnb
  have hnb1 : nb ≤ 1001 := by
    have := below_len HTOK.out (hasN_root ns)
    rw [← hnb]
    unfold belowN
    rw [if_pos (hasN_root ns)]
    omega
  replace K4 := Lib.hid (K4.out.belowS hb6)
  replace K5 := Lib.hid (K5.out.belowS hb6)
  replace HB := Lib.hid (bstep HB.out hb6)
  clear hb6 ho6 hr6 hnb d2 d2' K2 HG5 HAT5
  have HL6 := Lib.hid (show w.heap.size + 6 ≤ w6.heap.size by have := HLT.out; have := HS5.out; have := HS6.out; omega)
  go_wp2_with fail
  obtain ⟨es, hes⟩ : ∃ es, esN ns bx (rectP RW RH) = es := ⟨_, rfl⟩
  have hat := HAT6.out
  rw [hes] at hat
  have HES := Lib.hid hes
  replace HAT6 := Lib.hid hat
  obtain ⟨nm, fm, hnm, hmm, hf1, hf2⟩ := hat.map
  have HMM := Lib.hid hmm
  have HF1 := Lib.hid hf1
  have HF2 := Lib.hid hf2
  clear hat hes hmm hf1 hf2
  go_loopw [32] (fun i wr => ∃ (k : Nat) (Ao : Option Addr) (co : Nat), i = .int .i64 k ∧ k ≤ nb ∧ Blk wr (w.heap.size + 1 + 1 + 1 + 1) 52 #[.slice Ao (((belowN ns 1).take k).filter (fun i => (lastE es i).isSome)).length co, .map (some (w.heap.size + 1 + 1 + 1))] ∧ wr.ownsRow w6.heap.size 48 1 (.slice Ao (((belowN ns 1).take k).filter (fun i => (lastE es i).isSome)).length co) (((belowN ns 1).take k).filter (fun i => (lastE es i).isSome)).length (U32 (((belowN ns 1).take k).filter (fun i => (lastE es i).isSome))) ∧ w6.grownBy wr (some (w.heap.size + 1 + 1 + 1 + 1))) (fun i _ => nb - (intOf i).toNat)
  case atStart => exact ⟨0, none, 0, rfl, by omega, K5.out, World.ownsRow_nil _ _ _ _, ⟨rfl, rfl, rfl, Nat.le_refl _, fun _ _ _ => rfl⟩⟩
  case round =>
    obtain ⟨k, Ao, co, rfl, hk, hbv, hown, hg⟩ := hrel
    have HGR := Lib.hid hg
    have HBV := Lib.hid hbv
    have HOW := Lib.hid hown
    by_cases hlt : k < nb
    · obtain ⟨i, hx⟩ : ∃ i, (belowN ns 1)[k]? = some i := ⟨_, List.getElem?_eq_getElem (by rw [HNB6.out]; exact hlt)⟩
      have HTF := Lib.hid (take_filter hx (fun i => (lastE es i).isSome))
      have him := List.mem_of_getElem? hx
      have hid : 0 ≤ i ∧ i ≤ 4294967295 := by
        unfold belowN at him
        rw [if_pos (hasN_root ns), below_root HTOK.out] at him
        rcases hasN_iff.1 him with e | ⟨p, hp⟩
        · rw [e]; decide
        · exact (HT.out.ok _ (upOf_some hp)).1
      have HWF := Lib.hid (u32_wf hid)
      obtain ⟨b, off, rfl, hb, hcl⟩ := (HR6.out.keepG hg K5.out.noInt).2 (by omega)
      have c0 := hcl k _ (U32_at hx)
      have k1 : (k : Int) < (nb : Int) := by omega
      have k0 : (0 : Int) ≤ (k : Int) := by omega
      have d51 := hbv.cellV (i := 1) (v := .map (some (w.heap.size + 1 + 1 + 1))) rfl
      have HMR := Lib.hid (HMM.out.kept hg (fun e => by have := Option.some.inj e; omega))
      obtain ⟨ordk, hok⟩ : ∃ ordk, ((belowN ns 1).take k).filter (fun i => (lastE es i).isSome) = ordk := ⟨_, rfl⟩
      have hol : ordk.length ≤ nb := by
        rw [← hok, ← HNB6.out]
        exact Nat.le_trans (List.length_filter_le _ _) (by rw [List.length_take]; omega)
      have h1 := HBV.out
      have h2 := HOW.out
      have h3 := HTF.out
      rw [hok] at h1 h2 h3
      replace HBV := Lib.hid h1
      replace HOW := Lib.hid h2
      replace HTF := Lib.hid h3
      have OLL := Lib.hid hol
      clear hok h1 h2 h3 hol hbv hown hg hcl hx him
      cases hle : lastE es i with
      | none =>
        have hfi := HF1.out i hle
        have HG := Lib.hid (show (fm i).getD (shV 0 0 none 0 0) = .agg #[.int .i64 0, .int .i64 0, .slice none 0 0] by rw [hfi]; rfl)
        have HS := Lib.hid (show (fm i).isSome = false by rw [hfi]; rfl)
        have HLE := Lib.hid hle
        clear hfi hle
        go_wp2_with (at_lookup; refine map_look_ok rfl _ _ 50 rfl 48 188 .u32 Tryz.underlying48 Tryz.underlying50 (shV 0 0 none 0 0) (Tryz.zeroShown _) (w.heap.size + 1 + 1 + 1) nm fm rfl HMR.out i rfl HWF.out ?_; rw [HG.out, HS.out])
        go_roundw
        case rel =>
          refine ⟨k + 1, Ao, co, by go_num, by omega, ?_⟩
          rw [HTF.out, HLE.out]
          simp only [Option.isSome, Bool.false_eq_true, if_false, List.append_nil]
          exact ⟨HBV.out.alloc _, HOW.out.alloc _, HGR.out.andThen (World.grownBy_alloc _ _ none) (fun j hj => by cases hj)⟩
        case measure => simp [intOf]; omega
      | some e9 =>
        obtain ⟨Ar, cr, outr, hfi, _, _⟩ := HF2.out i e9 hle
        have HG := Lib.hid (show (fm i).getD (shV 0 0 none 0 0) = .agg #[.int .i64 (orgX ns bs i), .int .i64 (orgY ns bs i), .slice Ar outr.length cr] by rw [hfi]; rfl)
        have HS := Lib.hid (show (fm i).isSome = true by rw [hfi]; rfl)
        have HLE := Lib.hid hle
        clear hfi hle
        go_upto_region 13 with (at_lookup; refine map_look_ok rfl _ _ 50 rfl 48 188 .u32 Tryz.underlying48 Tryz.underlying50 (shV 0 0 none 0 0) (Tryz.zeroShown _) (w.heap.size + 1 + 1 + 1) nm fm rfl HMR.out i rfl HWF.out ?_; rw [HG.out, HS.out])
        have xB := HBV.out.alloc (.cells #[.int .i64 (orgX ns bs i), .int .i64 (orgY ns bs i), .slice Ar outr.length cr] 188)
        have xO := HOW.out.alloc (.cells #[.int .i64 (orgX ns bs i), .int .i64 (orgY ns bs i), .slice Ar outr.length cr] 188)
        have xG := HGR.out.andThen (World.grownBy_alloc wr (.cells #[.int .i64 (orgX ns bs i), .int .i64 (orgY ns bs i), .slice Ar outr.length cr] 188) none) (fun j hj => by cases hj)
        obtain ⟨X9, hX9⟩ : ∃ X9, wr.alloc (.cells #[.int .i64 (orgX ns bs i), .int .i64 (orgY ns bs i), .slice Ar outr.length cr] 188) = X9 := ⟨_, rfl⟩
        rw [hX9] at xB xO xG ⊢
        replace HBV := Lib.hid xB
        replace HOW := Lib.hid xO
        replace HGR := Lib.hid xG
        have HGS := Lib.hid xG.size
        clear xB xO xG hX9 d51 c0
        have q0 := HBV.out.cellV (i := 0) (v := .slice Ao ordk.length co) rfl
        have OL := OLL.out
        go_wp2_with (at_builtin; refine wpList_append_own _ rfl _ _ 43 rfl w6.heap.size 48 i0 _ 1 4 Tryz.underlying43 hi0 hz0 hz1 hz2 rfl (by decide) _ _ _ rfl (HOW.out.alloc _) ⟨X9.heap.size, 0, none⟩ 1 1 [.int .u32 i] rfl rfl (cell_one_new _ _ _) (by simp [Value.oneCell']) (by simp only [maxLen]; omega) (by omega) (by have := HGS.out; simp; omega) ?_; intro v' w8 hown' hgrow _; obtain ⟨A8, c8, rfl, _⟩ := own_form hown'; have HO8 := Lib.hid hown'; have HG8 := Lib.hid hgrow; have b8 := (HBV.out.alloc (.cells #[.int .u32 i] 48)).grown hgrow (by intro e; have := own_ge HOW.out _ e.symm; have := HL6.out; omega); have f8 := b8.frozen 0; have l8 := b8.lt; have q8 := b8.cellV (i := 0) (v := .slice Ao ordk.length co) rfl; have B8 := Lib.hid b8; clear hown' hgrow b8)
        go_roundw
        case rel =>
          refine ⟨k + 1, A8, c8, by go_num, by omega, ?_⟩
          rw [HTF.out, HLE.out]
          simp only [Option.isSome, if_true]
          have e1 : (ordk ++ [i]).length = ordk.length + 1 := by simp
          refine ⟨by rw [e1]; exact B8.out.set_ 0 _, ?_, ?_⟩
          · have h8 := own_far HO8.out (p := ⟨(w.heap.size + 1 + 1 + 1 + 1), 0, none⟩) (by show (w.heap.size + 1 + 1 + 1 + 1) < w6.heap.size; have := HL6.out; omega) (.slice A8 (ordk.length + 1) c8)
            simpa [U32] using h8
          · exact ((HGR.out.andThen (World.grownBy_alloc _ _ none) (fun j hj => by cases hj)).andThen HG8.out (fun j hj => .inl (own_ge HOW.out j hj))).andThen (grown_setCell w8 ⟨(w.heap.size + 1 + 1 + 1 + 1), 0, none⟩ _) (fun j hj => .inr hj)
        case measure => simp [intOf]; omega
    · obtain rfl : k = nb := by omega
      have k1 : ¬ (k : Int) < (k : Int) := by omega
      have hk2 : ((belowN ns 1).take k).filter (fun i => (lastE es i).isSome) = ordW ns bx 1 := by
        rw [List.take_of_length_le (by rw [HNB6.out]; exact Nat.le_refl _), ← HES.out]
        exact ord_look HTOK.out _
      have hml : (ordW ns bx 1).length ≤ k := by
        rw [← hk2, ← HNB6.out]
        exact Nat.le_trans (List.length_filter_le _ _) (by rw [List.length_take]; omega)
      rw [hk2] at hbv hown
      obtain ⟨m, hm⟩ : ∃ m, (ordW ns bx 1).length = m := ⟨_, rfl⟩
      rw [hm] at hbv hown hml
      have HML := Lib.hid hml
      have HOWN := Lib.hid hown
      have HCAP := Lib.hid (show m ≤ co by
        obtain ⟨A', c', e, h⟩ := own_form hown
        cases e
        exact h)
      have hr4 := K4.out.grown hg (fun e => by have := Option.some.inj e; omega)
      have q40 := hr4.cellV (i := 0) (v := .slice none 0 0) rfl
      have q41 := hr4.cellV (i := 1) (v := .map none) rfl
      have f40 := hr4.frozen 0
      have f41 := hr4.frozen 1
      have l4 := hr4.lt
      have b50 := hbv.cellV (i := 0) rfl
      have b51 := hbv.cellV (i := 1) rfl
      have HK4 := Lib.hid hr4
      clear hbv hown hg hr4 hk2 hml
      go_wp2_with fail
      have hk9 : Blk ((wr.setCell ⟨(w.heap.size + 1 + 1), 0, none⟩ (.slice Ao m co)).setCell ⟨(w.heap.size + 1 + 1), 1, none⟩ (.map (some (w.heap.size + 1 + 1 + 1)))) (w.heap.size + 1 + 1) 52 #[.slice Ao m co, .map (some (w.heap.size + 1 + 1 + 1))] := (HK4.out.set_ 0 (.slice Ao m co)).set_ 1 (.map (some (w.heap.size + 1 + 1 + 1)))
      have G2 := (grown_setCell wr ⟨(w.heap.size + 1 + 1), 0, none⟩ (.slice Ao m co)).andThen (grown_setCell (wr.setCell ⟨(w.heap.size + 1 + 1), 0, none⟩ (.slice Ao m co)) ⟨(w.heap.size + 1 + 1), 1, none⟩ (.map (some (w.heap.size + 1 + 1 + 1)))) (fun j hj => .inr hj)
      have hOF := own_far (own_far HOWN.out (p := ⟨(w.heap.size + 1 + 1), 0, none⟩) (by show (w.heap.size + 1 + 1) < w6.heap.size; have := HL6.out; omega) (.slice Ao m co)) (p := ⟨(w.heap.size + 1 + 1), 1, none⟩) (by show (w.heap.size + 1 + 1) < w6.heap.size; have := HL6.out; omega) (.map (some (w.heap.size + 1 + 1 + 1)))
      have hMF := ((HMM.out.kept HGR.out (fun e => by have := Option.some.inj e; omega)).setCell (a := ⟨(w.heap.size + 1 + 1), 0, none⟩) (by show (w.heap.size + 1 + 1 + 1) ≠ (w.heap.size + 1 + 1); omega) (.slice Ao m co)).setCell (a := ⟨(w.heap.size + 1 + 1), 1, none⟩) (by show (w.heap.size + 1 + 1 + 1) ≠ (w.heap.size + 1 + 1); omega) (.map (some (w.heap.size + 1 + 1 + 1)))
      have hBF := (HB.out.grown HGR.out HB.out.size (fun q e => by have := Option.some.inj e; omega)).grown G2 (Nat.le_trans HB.out.size HGR.out.size) (fun q e => by have := Option.some.inj e; dsimp only at this; omega)
      obtain ⟨wF, hwF⟩ : ∃ wF, (wr.setCell ⟨(w.heap.size + 1 + 1), 0, none⟩ (.slice Ao m co)).setCell ⟨(w.heap.size + 1 + 1), 1, none⟩ (.map (some (w.heap.size + 1 + 1 + 1))) = wF := ⟨_, rfl⟩
      rw [hwF] at hk9 G2 hOF hMF hBF ⊢
      have r0 := hk9.cellV (i := 0) (v := .slice Ao m co) rfl
      have r1 := hk9.cellV (i := 1) (v := .map (some (w.heap.size + 1 + 1 + 1))) rfl
      have hidk : ∀ i, hasN ns i = true → 0 ≤ i ∧ i ≤ 4294967295 := fun i h => by
        rcases hasN_iff.1 h with e | ⟨p, hp⟩
        · rw [e]; decide
        · exact (HT.out.ok _ (upOf_some hp)).1
      refine bodyPost_ret (v := .agg #[.slice Ao m co, .map (some (w.heap.size + 1 + 1 + 1))]) (by simp [results, Tryz.results25, go_sem, r0, r1]) rfl ⟨_, rfl, ⟨Ao, m, co, some (w.heap.size + 1 + 1 + 1), nm, fm, ?_⟩, hBF⟩
      rw [HES.out]
      exact {
        shape := rfl
        order := Rd.of_own hOF
        few := by have := HML.out; omega
        cap := HCAP.out
        ids := fun i hi => by
          rw [ord_mem HTOK.out, Bool.and_eq_true] at hi
          exact hidk i hi.1
        map := .inr ⟨_, rfl, hMF⟩
        non := HF1.out
        told := fun i e he => by
          obtain ⟨A9, c9, o9, e1, e2, e3⟩ := HF2.out i e he
          exact ⟨A9, c9, o9, e1, (e2.keepG HGR.out K5.out.noInt).keepG G2 HK4.out.noInt, e3⟩
        near := HNR.out
        small := fun i x y hs => by
          rw [← HES.out, show_at HTOK.out, Bool.and_eq_true] at hs
          exact (inB_rect _ _ _ _).1 hs.1
        side := by have := HRR.out; omega }
  

end Go.Proofs.YtdaedkolpfkdjaaGreat
end

section
namespace Go.Proofs.YtdaedkolpfkdjaaGreat
open Go.RowKit Go.Maps Go.Shelf

theorem Tryz.fieldClip (a b : Int) (B : Option Addr) (m d : Nat) (w : World) : Sem.run Tryz.prog (Instr.field 188 (.agg #[.int .i64 a, .int .i64 b, .slice B m d]) 1) w = .ok (.agg #[.slice B m d]) w := by kernel_rfl
theorem take_snocI' {α : Type} {l : List α} {k : Nat} {x : α} (h : l[k]? = some x) : l.take (k + 1) = l.take k ++ [x] := by rw [List.take_add_one, h]; rfl
section
variable {w : World} {v : Value} {A : Option Addr} {n c : Nat} {mv : Option Nat} {nm : Nat} {f : Int → Option Value} {ord : List Int} {es : List (Int × Places)} {og : Int → Int × Int} {RW RH : Nat}
set_option maxRecDepth 100000 in
theorem vclip_any (i : Int) (hi : 0 ≤ i ∧ i ≤ 4294967295) (h : ViewIs w v A n c mv nm f ord es og RW RH) :
    Calls Tryz.prog 31 #[v, .int .u32 i] w fun e w' => ∃ u out, e = .returned u ∧ RegAt w' u out ∧ (∀ x y, inB out x y = showB es x y i) ∧ Below w.heap.size w w' := by
  obtain ⟨B, d, out, hg, hr, hp, hs, hnr, hln⟩ := h.look i
  have hv := h.shape
  subst hv
  have HM := Lib.hid h.map
  have HWF := Lib.hid (u32_wf hi)
  have HG := Lib.hid hg
  have HR := Lib.hid hr
  have HP := Lib.hid hp
  clear h hg hr hp hs hnr hln
  have hfc := Tryz.fieldClip
  go_enter Tryz.func31, Tryz.ntmps31
  go_wp2_with (at_lookup; refine opt_look rfl _ _ 50 rfl 48 188 .u32 Tryz.underlying48 Tryz.underlying50 (shV 0 0 none 0 0) (Tryz.zeroShown _) mv nm f rfl (HM.out.below (by first | exact bal (bal (bre _) _) _ | exact bal (bre _) _)) i rfl HWF.out ?_; rw [HG.out]; unfold shV)
  have hk := blk_new2 w (.cells #[.slice A n c, .map mv] 52) 57 #[.slice B out.length d]
  have hb := bal (bal (bre w) (.cells #[.slice A n c, .map mv] 52)) (.cells #[.slice B out.length d] 57)
  have r0 := hk.cellV (i := 0) (v := .slice B out.length d) rfl
  refine bodyPost_ret (v := .agg #[.slice B out.length d]) (by simp [results, Tryz.results31, go_sem, r0]) rfl ⟨_, out, rfl, HR.out.below hb, HP.out, hb⟩
set_option maxRecDepth 100000 in
theorem vorigin_any (i : Int) (hi : 0 ≤ i ∧ i ≤ 4294967295) (h : ViewIs w v A n c mv nm f ord es og RW RH) :
    Calls Tryz.prog 97 #[v, .int .u32 i] w fun e w' => e = .returned (.tuple #[.agg #[.int .i64 (ogV es og i).1, .int .i64 (ogV es og i).2], .bool (lastE es i).isSome]) ∧ Below w.heap.size w w' := by
  obtain ⟨B, d, out, hg, hr, hp, hs, hnr, hln⟩ := h.look i
  have hv := h.shape
  subst hv
  have HM := Lib.hid h.map
  have HWF := Lib.hid (u32_wf hi)
  obtain ⟨bq, hbq⟩ : ∃ bq, (lastE es i).isSome = bq := ⟨_, rfl⟩
  obtain ⟨ox, hox⟩ : ∃ ox, (ogV es og i).1 = ox := ⟨_, rfl⟩
  obtain ⟨oy, hoy⟩ : ∃ oy, (ogV es og i).2 = oy := ⟨_, rfl⟩
  rw [hox, hoy] at hg ⊢
  rw [hbq] at hs ⊢
  have HG := Lib.hid hg
  have HS := Lib.hid hs
  clear h hg hr hp hs hnr hln hbq hox hoy
  go_enter Tryz.func97, Tryz.ntmps97
  go_wp2_with (at_lookup; refine opt_look_ok rfl _ _ 50 rfl 48 188 .u32 Tryz.underlying48 Tryz.underlying50 (shV 0 0 none 0 0) (Tryz.zeroShown _) mv nm f rfl (HM.out.below (by first | exact bal (bal (bre _) _) _ | exact bal (bre _) _)) i rfl HWF.out ?_; rw [HG.out, HS.out]; unfold shV)
  have hk := (blk_new2 w (.cells #[.slice A n c, .map mv] 52) 179 #[.int .i64 ox, .int .i64 oy]).alloc (.cells #[.int .i64 ox, .int .i64 oy, .slice B out.length d] 188)
  have hb := bal (bal (bal (bre w) (.cells #[.slice A n c, .map mv] 52)) (.cells #[.int .i64 ox, .int .i64 oy] 179)) (.cells #[.int .i64 ox, .int .i64 oy, .slice B out.length d] 188)
  have r0 := hk.cellV (i := 0) (v := .int .i64 ox) rfl
  have r1 := hk.cellV (i := 1) (v := .int .i64 oy) rfl
  exact bodyPost_ret (v := .tuple #[.agg #[.int .i64 ox, .int .i64 oy], .bool bq]) (by simp [results, Tryz.results97, go_sem, r0, r1]) rfl ⟨rfl, hb⟩
set_option maxRecDepth 100000 in
theorem vwindows_any (h : ViewIs w v A n c mv nm f ord es og RW RH) :
    Calls Tryz.prog 26 #[v] w fun e w' => ∃ u, e = .returned u ∧ w'.ownsRow w.heap.size 48 1 u n (U32 ord) ∧ Below w.heap.size w w' := by
  have hv := h.shape
  subst hv
  have HR := Lib.hid h.order
  have hn := h.few
  clear h
  go_enter Tryz.func26, Tryz.ntmps26
  go_wp2_with fail
  refine (cloneI_any A n c ord _ (by omega) (HR.out.below (bal (bre w) _))).mono ?_
  rintro e w2 ⟨u, rfl, ho, hb⟩
  have HO := Lib.hid ho
  have HB := Lib.hid hb
  clear ho hb
  go_wp2_with fail
  go_ret
  exact ⟨_, rfl, own_lower HO.out (by simp), bstep (bal (bre w) _) HB.out⟩

end

end Go.Proofs.YtdaedkolpfkdjaaGreat
end

section
namespace Go.Proofs.YtdaedkolpfkdjaaGreat
open Go.RowKit Go.Maps Go.Shelf

/-- what Set answers. -/
def setC (bs : Bxs) (n : Nat) (id : Int) (b : BX) : Int :=
  if id = 1 then 23 else if idC id ≠ 0 then idC id else if (coordB b.X && coordB b.Y) = false then 1 else if (sideB b.W && sideB b.H) = false then 17 else if gravC b.G = 10 ∨ gravC b.B = 10 then 10 else if b.S = false ∧ b.n ≠ 0 then 14 else if (bs id).isSome = false ∧ 64 ≤ n then 5 else if n = 0 then 9 else 0
/-- the boxes behind it. -/
def setB (bs : Bxs) (n : Nat) (id : Int) (b : BX) : Bxs := if setC bs n id b = 0 then fun j => if j = id then some b else bs j else bs
def setN (bs : Bxs) (n : Nat) (id : Int) (b : BX) : Nat := if setC bs n id b = 0 then (if (bs id).isSome then n else n + 1) else n
theorem gravC_or (g : Int) : gravC g = 0 ∨ gravC g = 10 := by
  unfold gravC
  split
  · exact .inl rfl
  · exact .inr rfl

theorem pset_any (pv : Value) (n : Nat) (bs : Bxs) (id : Int) (b : BX) (w : World) (hid : 0 ≤ id ∧ id ≤ 4294967295) (hn : n ≤ 1000) (hp : PlaceIs w pv n bs) (hz : n = 0 → bs id = none) :
    Calls Tryz.prog 81 #[pv, .int .u32 id, b.v] w fun e w' => ∃ pv', e = .returned (.tuple #[pv', .int .i64 (setC bs n id b)]) ∧ PlaceIs w' pv' (setN bs n id b) (setB bs n id b) ∧ Below w.heap.size w w' := by
  have keep : ∀ code : Int, code ≠ 0 → setC bs n id b = code → SetErr id b n (bs id).isSome code → Calls Tryz.prog 81 #[pv, .int .u32 id, b.v] w fun e w' => ∃ pv', e = .returned (.tuple #[pv', .int .i64 (setC bs n id b)]) ∧ PlaceIs w' pv' (setN bs n id b) (setB bs n id b) ∧ Below w.heap.size w w' := by
    intro code h0 hc hh
    refine (pset_err pv n bs id b code w hid hn hp hh).mono ?_
    rintro e w' ⟨rfl, hb⟩
    have e0 : setB bs n id b = bs := by unfold setB; rw [hc, if_neg h0]
    have e1 : setN bs n id b = n := by unfold setN; rw [hc, if_neg h0]
    rw [hc, e0, e1]
    exact ⟨pv, rfl, hp.below hb, hb⟩
  by_cases h1 : id = 1
  · exact keep 23 (by decide) (by simp [setC, h1]) (.inl ⟨h1, rfl⟩)
  by_cases h2 : idC id = 0
  rotate_left
  · exact keep (idC id) h2 (by simp [setC, h1, h2]) (.inr ⟨h1, .inl ⟨h2, rfl⟩⟩)
  have s2 : ∀ {code}, _ → SetErr id b n (bs id).isSome code := fun {code} x => .inr ⟨h1, .inr ⟨h2, x⟩⟩
  cases hx : coordB b.X
  · exact keep 1 (by decide) (by simp [setC, h1, h2, hx]) (s2 (.inl ⟨hx, rfl⟩))
  cases hy : coordB b.Y
  · exact keep 1 (by decide) (by simp [setC, h1, h2, hx, hy]) (s2 (.inr ⟨hx, .inl ⟨hy, rfl⟩⟩))
  cases hw : sideB b.W
  · exact keep 17 (by decide) (by simp [setC, h1, h2, hx, hy, hw]) (s2 (.inr ⟨hx, .inr ⟨hy, .inl ⟨hw, rfl⟩⟩⟩))
  cases hh : sideB b.H
  · exact keep 17 (by decide) (by simp [setC, h1, h2, hx, hy, hw, hh]) (s2 (.inr ⟨hx, .inr ⟨hy, .inr ⟨hw, .inl ⟨hh, rfl⟩⟩⟩⟩))
  have s3 : ∀ {code}, _ → SetErr id b n (bs id).isSome code := fun {code} x => s2 (.inr ⟨hx, .inr ⟨hy, .inr ⟨hw, .inr ⟨hh, x⟩⟩⟩⟩)
  rcases gravC_or b.G with hg | hg
  rotate_left
  · exact keep 10 (by decide) (by simp [setC, h1, h2, hx, hy, hw, hh, hg]) (s3 (.inl ⟨hg, rfl⟩))
  rcases gravC_or b.B with hb | hb
  rotate_left
  · exact keep 10 (by decide) (by simp [setC, h1, h2, hx, hy, hw, hh, hg, hb]) (s3 (.inr ⟨hg, .inl ⟨hb, rfl⟩⟩))
  by_cases hs : b.S = false ∧ b.n ≠ 0
  · exact keep 14 (by decide) (by simp [setC, h1, h2, hx, hy, hw, hh, hg, hb, hs]) (s3 (.inr ⟨hg, .inr ⟨hb, .inl ⟨hs.1, decide_eq_false hs.2, rfl⟩⟩⟩))
  have hS : b.S = true ∨ (b.S = false ∧ decide (b.n = 0) = true) := by
    cases e : b.S
    · exact .inr ⟨rfl, decide_eq_true (Classical.byContradiction fun h => hs ⟨e, h⟩)⟩
    · exact .inl rfl
  have hs' : ¬ (b.S = false ∧ ¬ b.n = 0) := hs
  by_cases hm : (bs id).isSome = false ∧ 64 ≤ n
  · have hm1 : bs id = none := by simpa using hm.1
    exact keep 5 (by decide) (by simp [setC, h1, h2, hx, hy, hw, hh, hg, hb, hs', hm1, hm.2]) (s3 (.inr ⟨hg, .inr ⟨hb, .inr ⟨hS, .inl ⟨hm.1, decide_eq_true (by omega), rfl⟩⟩⟩⟩))
  have hc1 : setC bs n id b = if n = 0 then 9 else 0 := by
    unfold setC
    rw [if_neg h1, if_neg (by simp [h2]), if_neg (by simp [hx, hy]), if_neg (by simp [hw, hh]), if_neg (by simp [hg, hb]), if_neg hs, if_neg hm]
  by_cases h0 : n = 0
  · have hno : (bs id).isSome = false := by rw [hz h0]; rfl
    exact keep 9 (by decide) (by rw [hc1, if_pos h0]) (s3 (.inr ⟨hg, .inr ⟨hb, .inr ⟨hS, .inr ⟨hno, decide_eq_false (by omega), by rw [h0]; rfl, rfl⟩⟩⟩⟩))
  · have hc : setC bs n id b = 0 := by rw [hc1, if_neg h0]
    refine (pset_ok pv n bs id b w hid hn hp h1 h2 hx hy hw hh hg hb hS ?_ (by simp; omega)).mono ?_
    · cases e : (bs id).isSome
      · refine .inr ⟨rfl, decide_eq_false fun h => hm ⟨e, by omega⟩⟩
      · exact .inl rfl
    · rintro e w' ⟨pv', rfl, hp', hb'⟩
      have e0 : setB bs n id b = fun j => if j = id then some b else bs j := by unfold setB; rw [hc, if_pos rfl]
      have e1 : setN bs n id b = if (bs id).isSome then n else n + 1 := by unfold setN; rw [hc, if_pos rfl]
      rw [hc, e0, e1]
      exact ⟨pv', rfl, hp', hb'⟩

end Go.Proofs.YtdaedkolpfkdjaaGreat
end

section
namespace Go.Proofs.YtdaedkolpfkdjaaGreat
open Go.RowKit Go.Maps Go.Shelf

section
variable {P : Program} {k : TypeId} {q : IntKind} {w : World} {b n : Nat} {f : Int → Option Value}
theorem MapIs.isMap (h : MapIs P k q w b n f) : ∃ es clock, w.heap[b]? = some (.map es clock) := by
  obtain ⟨D, ⟨es, clock, h1, _⟩, _⟩ := h
  exact ⟨es, clock, h1⟩
theorem MapIs.neBlk (h : MapIs P k q w b n f) {B : Nat} {t : TypeId} {cs : Array Value} (hB : Blk w B t cs) : b ≠ B := fun e => by
  obtain ⟨es, clock, h1⟩ := h.isMap
  unfold Blk at hB
  rw [← e, h1] at hB
  cases hB
theorem MapOpt.setBlk {mb : Option Nat} (h : MapOpt P k q w mb n f) {B : Nat} {t : TypeId} {cs : Array Value} (hB : Blk w B t cs) (i : Nat) (u : Value) : MapOpt P k q (w.setCell ⟨B, i, none⟩ u) mb n f := by
  rcases h with h | ⟨b, e, h⟩
  · exact .inl h
  · exact .inr ⟨b, e, h.setCell (h.neBlk hB) u⟩
end

theorem PlaceIs.setBlk {w : World} {v : Value} {n : Nat} {bs : Bxs} (h : PlaceIs w v n bs) {B : Nat} {t : TypeId} {cs : Array Value} (hB : Blk w B t cs) (i : Nat) (u : Value) : PlaceIs (w.setCell ⟨B, i, none⟩ u) v n bs := by
  obtain ⟨mb, e, h⟩ := h
  exact ⟨mb, e, h.setBlk hB i u⟩
/-- a slice of ids doesn't lie where no ids are. -/
theorem Rd.setBlk {w : World} {A : Option Addr} {n : Nat} {l : List Int} (h : Rd w A n (U32 l)) {B : Nat} {t : TypeId} {cs : Array Value} (hB : Blk w B t cs) (hc : ∀ (j : Nat) (x : Int), cs[j]? ≠ some (.int .u32 x)) (i : Nat) (u : Value) : Rd (w.setCell ⟨B, i, none⟩ u) A n (U32 l) := by
  refine h.far' (p := ⟨B, i, none⟩) (fun hn a ea => ?_) u
  obtain ⟨b, off, e, hb, hcl⟩ := h.2 hn
  rw [e] at ea
  cases ea
  intro e'
  dsimp only at e'
  subst e'
  have hl := h.1
  match l, hl with
  | [], hl => simp [U32] at hl; omega
  | x :: l, _ =>
    have := hcl 0 (.int .u32 x) rfl
    rw [hB.cell] at this
    exact hc _ _ this
theorem TreeIs.setBlk {w : World} {v : Value} {ns : Nodes} {mk mu : Option Nat} {nk : Nat} {fk : Int → Option Value} (h : TreeIs w v ns mk mu nk fk) {B : Nat} {t : TypeId} {cs : Array Value} (hB : Blk w B t cs) (hc : ∀ (j : Nat) (x : Int), cs[j]? ≠ some (.int .u32 x)) (i : Nat) (u : Value) : TreeIs (w.setCell ⟨B, i, none⟩ u) v ns mk mu nk fk :=
  ⟨h.shape, h.kids.setBlk hB i u, h.up.setBlk hB i u, fun j => by
    obtain ⟨A, c, e, hl, hr⟩ := h.each j
    exact ⟨A, c, e, hl, hr.setBlk hB hc i u⟩, h.room, h.few, h.ok, h.keys⟩
end Go.Proofs.YtdaedkolpfkdjaaGreat
end

section
namespace Go.Proofs.YtdaedkolpfkdjaaGreat
open Go.RowKit Go.Maps Go.Shelf

def DW.cells (d : DW) : List Value := [.int .i64 d.P, .int .i64 d.X, .int .i64 d.Y, .int .i64 d.W, .int .i64 d.H, .bool d.M, .bool d.S, .slice d.A d.n d.c]
theorem DW.cells_len (d : DW) : d.cells.length = 8 := rfl
/-- a slice that reads as windows. -/
structure RdWs (w : World) (A : Option Addr) (n : Nat) (l : List DW) : Prop where
  recs : RdF DW.cells 8 w A n l
  shapes : ∀ d ∈ l, RdR w d.A d.n d.sh
theorem RdWs.below {w w' : World} {A : Option Addr} {n : Nat} {l : List DW} (h : RdWs w A n l) (hb : Below w.heap.size w w') : RdWs w' A n l := ⟨h.recs.below hb, fun d hd => (h.shapes d hd).below hb⟩
theorem RdWs.at_ {w : World} {A : Option Addr} {n : Nat} {l : List DW} (h : RdWs w A n l) (hn : 0 < n) : ∃ b off, A = some ⟨b, off, none⟩ ∧ b < w.heap.size ∧ ∀ k d, l[k]? = some d → (w.cell? ⟨b, off + k * 8, none⟩ = some (.int .i64 d.P) ∧ w.cell? ⟨b, off + k * 8 + 1, none⟩ = some (.int .i64 d.X) ∧ w.cell? ⟨b, off + k * 8 + 2, none⟩ = some (.int .i64 d.Y) ∧ w.cell? ⟨b, off + k * 8 + 3, none⟩ = some (.int .i64 d.W)) ∧ w.cell? ⟨b, off + k * 8 + 4, none⟩ = some (.int .i64 d.H) ∧ w.cell? ⟨b, off + k * 8 + 5, none⟩ = some (.bool d.M) ∧ w.cell? ⟨b, off + k * 8 + 6, none⟩ = some (.bool d.S) ∧ w.cell? ⟨b, off + k * 8 + 7, none⟩ = some (.slice d.A d.n d.c) := by
  obtain ⟨b, off, e, hb, hc⟩ := h.recs.2 hn
  exact ⟨b, off, e, hb, fun k d hk => ⟨⟨hc k d hk 0 _ rfl, hc k d hk 1 _ rfl, hc k d hk 2 _ rfl, hc k d hk 3 _ rfl⟩, hc k d hk 4 _ rfl, hc k d hk 5 _ rfl, hc k d hk 6 _ rfl, hc k d hk 7 _ rfl⟩⟩
theorem idW_bd {n : Int} (h : -1 ≤ n ∧ n ≤ 1000000) : 0 ≤ idW n ∧ idW n ≤ 4294967295 := by
  unfold idW
  split <;> omega

end Go.Proofs.YtdaedkolpfkdjaaGreat
end
