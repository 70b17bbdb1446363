/-
  The walk of the law FocusAlone.
-/
import Derived.Test.YtbkkecijcijhdaaGreatZFTFWaysW
import Derived.Test.YtbkkecijcijhdaaGreatZF35
section
namespace Go.Proofs.YtbkkecijcijhdaaGreat
open Go.RowKit Go.Maps Go.Shelf

theorem path_head {ns : Nodes} (h : TreeOk ns) {id : Int} (hi : hasN ns id = true) : (pathN ns id)[0]? = some id := by
  rcases hasN_iff.1 hi with e | ⟨p, hp⟩
  · rw [e, path_root h]; rfl
  · rw [(path_step h hp).1]; rfl
/-- on a path each window's parent comes next. -/
theorem path_next {ns : Nodes} (h : TreeOk ns) {id : Int} (hi : hasN ns id = true) : ∀ (k : Nat) (x y : Int), (pathN ns id)[k]? = some x → (pathN ns id)[k + 1]? = some y → upOf ns x = some y := by
  refine path_ind h (P := fun id => ∀ (k : Nat) (x y : Int), (pathN ns id)[k]? = some x → (pathN ns id)[k + 1]? = some y → upOf ns x = some y) ?_ ?_ id hi
  · intro k x y _ hy
    rw [path_root h] at hy
    simp at hy
  · intro i p hp ih k x y hx hy
    obtain ⟨e, hh, _⟩ := path_step h hp
    rw [e] at hx hy
    match k, hx, hy with
    | 0, hx, hy =>
      have h1 := path_head h hh
      rw [List.getElem?_cons_zero] at hx
      rw [List.getElem?_cons_succ, h1] at hy
      injection hx with hx
      injection hy with hy
      rw [← hx, ← hy]
      exact hp
    | k + 1, hx, hy => exact ih k x y (by simpa using hx) (by simpa using hy)
/-- a way's windows are there, and each one's parent comes next. -/
structure WayOk (ns : Nodes) (f : FC) (un : Int) (l : List Int) : Prop where
  has : ∀ x ∈ l, hasN ns x = true
  next : ∀ (k : Nat) (x y : Int), l[k]? = some x → l[k + 1]? = some y → upOf ns x = some y
  first : 1 < l.length → l[0]? = some un
  none : f.W = 0 → l = []
theorem way_ok {ns : Nodes} (h : TreeOk ns) (f : FC) (un : Int) : WayOk ns f un (wayF f (pathN ns un) (hasN ns f.W)) := by
  unfold wayF
  by_cases c0 : f.W = 0 ∨ hasN ns f.W = false
  · rw [if_pos c0]
    exact ⟨by simp, by simp, by simp, fun _ => rfl⟩
  · rw [if_neg c0]
    have hW : hasN ns f.W = true := by
      cases hq : hasN ns f.W with
      | true => rfl
      | false => exact absurd (.inr hq) c0
    have h0 : f.W ≠ 0 := fun e => c0 (.inl e)
    by_cases c1 : (pathN ns un).contains f.W = true
    · rw [if_pos c1]
      have hun : hasN ns un = true := by
        cases hq : hasN ns un with
        | true => rfl
        | false => rw [path_none hq] at c1; cases c1
      obtain ⟨k, e1, e2, e3⟩ := cut_get c1
      rw [← e3]
      have sub : ∀ (j : Nat) (x : Int), ((pathN ns un).take (k + 1))[j]? = some x → (pathN ns un)[j]? = some x := fun j x hj => by
        rw [List.getElem?_take] at hj
        split at hj
        · exact hj
        · cases hj
      refine ⟨fun x hx => path_has h (List.mem_of_mem_take hx), fun j x y hx hy => path_next h hun j x y (sub _ _ hx) (sub _ _ hy), fun _ => ?_, fun e => absurd e h0⟩
      rw [List.getElem?_take, if_pos (by omega)]
      exact path_head h hun
    · rw [if_neg c1]
      refine ⟨fun x hx => by rw [List.mem_singleton.1 hx]; exact hW, fun j x y _ hy => by simp at hy, fun hl => by simp at hl, fun e => absurd e h0⟩
set_option maxRecDepth 100000 in
set_option maxHeartbeats 8000000 in
theorem focusAlone_any (A : Option Addr) (n c : Nat) (fs : List FW) (f : FC) (un : Int) (w : World) (hn : n ≤ maxLen) (hr : RdF FW.cells 3 w A n fs) (hok : ∀ f ∈ fs, f.ok) (hf : f.ok) (hun : 0 ≤ un ∧ un ≤ 4294967295) :
    Calls Tryz.prog 16 #[.slice A n c, f.v, .int .u32 un] w fun e w' => e = .returned (.bool true) ∧ Below w.heap.size w w' := by
  have HN := Lib.hid hn
  have HR := Lib.hid hr
  have HOK := Lib.hid hok
  have HF := Lib.hid hf
  have HUN := Lib.hid hun
  clear hun
  clear hn hr hok hf
  go_enter Tryz.func16, Tryz.ntmps16
  go_upto_region 1 with fail
  have xK := Blk.new w 122 #[.int .u32 f.W, .int .i64 f.R, .int .u32 f.T]
  have xB := bal (bre w) (.cells #[.int .u32 f.W, .int .i64 f.R, .int .u32 f.T] 122)
  obtain ⟨X0, hX0⟩ : ∃ X0, w.alloc (.cells #[.int .u32 f.W, .int .i64 f.R, .int .u32 f.T] 122) = X0 := ⟨_, rfl⟩
  rw [hX0] at xK xB ⊢
  have Kf := Lib.hid xK
  have HB := Lib.hid xB
  clear xK xB hX0
  go_wp2_with fail
  by_cases h10 : n ≤ 10
  case neg =>
    refine (made37_many A n c _ (by omega) HN.out).mono ?_
    rintro e w1 ⟨rfl, hb1⟩
    have HB1 := Lib.hid (bstep HB.out hb1)
    clear hb1
    go_wp2_with fail
    refine (awake37_any _).mono ?_
    rintro e w2 ⟨rfl, hb2⟩
    have HB2 := Lib.hid (bstep (bal (bal HB1.out (.cells #[.map none, .map none] 34)) (.cells #[.slice none 0 0, .map none] 43)) hb2)
    clear hb2
    go_wp2_with fail
    go_ret
    exact ⟨rfl, HB2.out⟩
  refine (made37_any A n c fs _ h10 (HR.out.below HB.out) HOK.out).mono ?_
  rintro e w1 ⟨mk, mu, nk, fk, v, og, v9, rfl, ht, hv, ho9, hb⟩
  obtain ⟨Av, nv, cv, mv, rfl⟩ := hv.form
  obtain ⟨A9, c9, rfl, _⟩ := own_form ho9
  obtain ⟨n9, h9⟩ : ∃ q, (shL (dwsF fs) n).length = q := ⟨_, rfl⟩
  have hSH := shL_len (l := dwsF fs) n
  rw [h9] at ho9 hSH ⊢
  have hLN : (dwsF fs).length = n := by rw [dwsF_len]; exact HR.out.1
  have HUP := Lib.hid (dwsF_up HOK.out)
  have hba := bal (bal (bre w1) (.cells #[.map mk, .map mu] 34)) (.cells #[.slice Av nv cv, .map mv] 43)
  have xT := ht.below hba
  have xV := hv.below hba
  have xR9 := (Rd.of_own ho9).below hba
  have xK7 := (Blk.new w1 34 #[.map mk, .map mu]).alloc (.cells #[.slice Av nv cv, .map mv] 43)
  have xK8 := blk_new2 w1 (.cells #[.map mk, .map mu] 34) 43 #[.slice Av nv cv, .map mv]
  have xB := bstep (bstep HB.out hb) hba
  have xKf := (Kf.out.belowS hb).belowS hba
  rw [← hLN] at xR9 hSH
  obtain ⟨l, hl⟩ : ∃ l, dwsF fs = l := ⟨_, rfl⟩
  rw [hl] at xT xV xR9 HUP hLN hSH
  have HLN := Lib.hid hLN
  have HTK := Lib.hid (nodesW_ok HUP.out)
  clear ht hv ho9 hb hba hLN
  try rw [hl]
  go_upto_region 2 with fail
  obtain ⟨X1, hX1⟩ : ∃ X1, (w1.alloc (.cells #[.map mk, .map mu] 34)).alloc (.cells #[.slice Av nv cv, .map mv] 43) = X1 := ⟨_, rfl⟩
  rw [hX1] at xT xV xR9 xK7 xK8 xB xKf ⊢
  have HT := Lib.hid xT
  have HV := Lib.hid xV
  have HR9 := Lib.hid xR9
  have K7 := Lib.hid xK7
  have K8 := Lib.hid xK8
  replace HB := Lib.hid xB
  replace Kf := Lib.hid xKf
  have HSHL := Lib.hid hSH
  clear xT xV xR9 xK7 xK8 xB xKf hX1 hl hSH h9
  go_upto_region 4 with fail
  have a0 := Kf.out.cellV (i := 0) (v := .int .u32 f.W) rfl
  have a1 := Kf.out.cellV (i := 1) (v := .int .i64 f.R) rfl
  have a2 := Kf.out.cellV (i := 2) (v := .int .u32 f.T) rfl
  have b0 := K7.out.cellV (i := 0) (v := .map mk) rfl
  have b1 := K7.out.cellV (i := 1) (v := .map mu) rfl
  go_wp2_with fail
  refine (way_any f HF.out un HUN.out HT.out HTK.out).mono ?_
  rintro e w2 ⟨u, rfl, ho, hb2⟩
  have hok := way_ok HTK.out f un
  have hwl := way_len f (pathN (nodesW l) un) (hasN (nodesW l) f.W)
  have hpl := path_len HTK.out un
  obtain ⟨wq, hwq⟩ : ∃ wq, wayF f (pathN (nodesW l) un) (hasN (nodesW l) f.W) = wq := ⟨_, rfl⟩
  rw [hwq] at ho hok hwl
  have HWL := Lib.hid (show wq.length ≤ 1002 by have := HT.out.few; omega)
  have HW := Lib.hid hok
  obtain ⟨Aw, cw, rfl, _⟩ := own_form ho
  have HRW := Lib.hid (Rd.of_own ho)
  obtain ⟨nw, hnw⟩ : ∃ nw, wq.length = nw := ⟨_, rfl⟩
  rw [hnw] at HRW HWL ⊢
  have HNW := Lib.hid hnw
  clear ho hwq hnw a0 a1 a2 b0 b1 hok hwl hpl
  replace HT := Lib.hid (HT.out.below hb2)
  replace HV := Lib.hid (HV.out.below hb2)
  replace HR9 := Lib.hid (HR9.out.below hb2)
  replace Kf := Lib.hid (Kf.out.belowS hb2)
  replace K7 := Lib.hid (K7.out.belowS hb2)
  replace K8 := Lib.hid (K8.out.belowS hb2)
  replace HB := Lib.hid (bstep HB.out hb2)
  clear hb2
  go_wp2_with fail
  go_loopw [32] (fun i wr => ∃ k : Nat, i = .int .i64 k ∧ k ≤ nw ∧ Below w2.heap.size w2 wr) (fun i _ => nw - (intOf i).toNat)
  case atStart => exact ⟨0, rfl, by omega, bre w2⟩
  case round =>
    obtain ⟨k, rfl, hk, hbw⟩ := hrel
    have HBX := Lib.hid hbw
    have HT := Lib.hid (HT.out.below hbw)
    have HV := Lib.hid (HV.out.below hbw)
    have HR9 := Lib.hid (HR9.out.below hbw)
    have Kf := Lib.hid (Kf.out.belowS hbw)
    have K7 := Lib.hid (K7.out.belowS hbw)
    have K8 := Lib.hid (K8.out.belowS hbw)
    have HB := Lib.hid (bstep HB.out hbw)
    have HRW := Lib.hid (HRW.out.below hbw)
    clear hbw
    by_cases hlt : k < nw
    · have k1 : (k : Int) < (nw : Int) := by omega
      have k0 : (0 : Int) ≤ (k : Int) := by omega
      obtain ⟨x, hx⟩ : ∃ x, wq[k]? = some x := ⟨_, List.getElem?_eq_getElem (by rw [HNW.out]; exact hlt)⟩
      obtain ⟨b, off, rfl, hb, hc⟩ := HRW.out.2 (by omega)
      have hcell := hc k _ (U32_at hx)
      have HX := Lib.hid hx
      have HCC := Lib.hid hc
      have HBB := Lib.hid hb
      have hhx := HW.out.has x (List.mem_of_getElem? hx)
      have HHX := Lib.hid hhx
      have hnw2 : (nw : Int) ≤ 1002 := by have := HWL.out; omega
      have HXO := Lib.hid (show 0 ≤ x ∧ x ≤ 4294967295 by
        rcases hasN_iff.1 hhx with e | ⟨p, hp⟩
        · rw [e]; decide
        · exact (HT.out.ok _ (upOf_some hp)).1)
      have b0 := K7.out.cellV (i := 0) (v := .map mk) rfl
      have b1 := K7.out.cellV (i := 1) (v := .map mu) rfl
      obtain ⟨pu, hpu⟩ : ∃ pu, upOf (nodesW l) x = pu := ⟨_, rfl⟩
      have HPU := Lib.hid hpu
      clear hx hc hb hhx hpu
      go_wp2_with fail
      refine (parent_any _ (nodesW l) mk mu nk fk x _ HXO.out HT.out).mono ?_
      rintro e w3 ⟨rfl, hb3⟩
      rw [HPU.out]
      clear b0 b1 hcell
      replace HBX := Lib.hid (bstep HBX.out hb3)
      replace HT := Lib.hid (HT.out.below hb3)
      replace HV := Lib.hid (HV.out.below hb3)
      replace HR9 := Lib.hid (HR9.out.below hb3)
      replace Kf := Lib.hid (Kf.out.belowS hb3)
      replace K7 := Lib.hid (K7.out.belowS hb3)
      replace K8 := Lib.hid (K8.out.belowS hb3)
      replace HB := Lib.hid (bstep HB.out hb3)
      replace HRW := Lib.hid (HRW.out.below hb3)
      clear hb3
      have b0 := K7.out.cellV (i := 0) (v := .map mk) rfl
      have b1 := K7.out.cellV (i := 1) (v := .map mu) rfl
      go_wp2_with fail
      refine (has_any _ (nodesW l) mk mu nk fk x _ HXO.out HT.out).mono ?_
      rintro e w4 ⟨rfl, hb4⟩
      rw [HHX.out]
      clear b0 b1
      replace HBX := Lib.hid (bstep HBX.out hb4)
      replace HT := Lib.hid (HT.out.below hb4)
      replace HV := Lib.hid (HV.out.below hb4)
      replace HR9 := Lib.hid (HR9.out.below hb4)
      replace Kf := Lib.hid (Kf.out.belowS hb4)
      replace K7 := Lib.hid (K7.out.belowS hb4)
      replace K8 := Lib.hid (K8.out.belowS hb4)
      replace HB := Lib.hid (bstep HB.out hb4)
      replace HRW := Lib.hid (HRW.out.below hb4)
      clear hb4
      have wk : IntKind.i64.wrap ((k : Int) + 1) = (k : Int) + 1 := IntWalk.i64_in _ (by omega)
      by_cases hl2 : k + 1 < nw
      · have k2 : (k : Int) + 1 < (nw : Int) := by omega
        have k3 : (0 : Int) ≤ (k : Int) + 1 := by omega
        obtain ⟨y, hy⟩ : ∃ y, wq[k + 1]? = some y := ⟨_, List.getElem?_eq_getElem (by rw [HNW.out]; exact hl2)⟩
        have hup := HW.out.next k x y HX.out hy
        rw [HPU.out] at hup
        subst hup
        obtain ⟨b', off', hA, hb', hc'⟩ := HRW.out.2 (by omega)
        injection hA with hA
        injection hA with hA1 hA2
        subst hA1 hA2
        have hcell := hc' (k + 1) _ (U32_at hy)
        clear hc' hb' hy
        go_wp2_with fail
        go_roundw
        case rel => exact ⟨k + 1, by go_num, by omega, HBX.out⟩
        case measure => simp [intOf]; omega
      · have k2 : ¬ (k : Int) + 1 < (nw : Int) := by omega
        go_wp2_with fail
        go_roundw
        case rel => exact ⟨k + 1, by go_num, by omega, HBX.out⟩
        case measure => simp [intOf]; omega
    · obtain rfl : k = nw := by omega
      have k1 : ¬ (k : Int) < (k : Int) := by omega
      have a0 := Kf.out.cellV (i := 0) (v := .int .u32 f.W) rfl
      go_upto_region 12 with fail
      go_cut [87] from 89 (fun s87 wx => s87 = .bool false ∧ wx = wr)
      case first =>
        as_aux_lemma =>
          by_cases h1 : 1 < k
          · have k2 : (1 : Int) < (k : Int) := by omega
            have k3 : (0 : Int) < (k : Int) := by omega
            have hfirst := HW.out.first (by rw [HNW.out]; exact h1)
            have h0 : ¬ f.W = 0 := fun e => by
              have := HW.out.none e
              have h2 := HNW.out
              rw [this] at h2
              simp at h2
              omega
            have h0' : (f.W == 0) = false := by simpa using h0
            obtain ⟨b, off, rfl, hb, hc⟩ := HRW.out.2 (by omega)
            have hcell := hc 0 _ (U32_at hfirst)
            simp only [Nat.add_zero] at hcell
            clear hc hb hfirst h0
            go_wp2_with fail
            go_meet
            exact ⟨rfl, rfl⟩
          · have k2 : ¬ (1 : Int) < (k : Int) := by omega
            by_cases h0 : f.W = 0
            · have hk0 : k = 0 := by
                have := HW.out.none h0
                have h2 := HNW.out
                rw [this] at h2
                exact h2.symm
              have k3 : ¬ (0 : Int) < (k : Int) := by omega
              have k4 : decide (0 < k) = false := decide_eq_false (by omega)
              have h0' : (f.W == 0) = true := by simpa using h0
              clear h0 hk0
              go_wp2_with fail
              go_meet
              exact ⟨rfl, rfl⟩
            · have h0' : (f.W == 0) = false := by simpa using h0
              go_wp2_with fail
              go_meet
              exact ⟨rfl, rfl⟩
      obtain ⟨rfl, rfl⟩ := hcut
      go_wp2_with fail
      refine (awake37_any _).mono ?_
      rintro e w5 ⟨rfl, hb5⟩
      have HB5 := Lib.hid (bstep HB.out hb5)
      clear hb5
      go_wp2_with fail
      go_ret
      exact ⟨rfl, HB5.out⟩
end Go.Proofs.YtbkkecijcijhdaaGreat
end
