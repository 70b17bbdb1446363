/-
  The walk of the law FocusSets.
-/
import Derived.Test.YtbkkecijcijhdaaGreatZF34
section
namespace Go.Proofs.YtbkkecijcijhdaaGreat
open Go.RowKit Go.Maps Go.Shelf

theorem run_eql_fc (w : World) (a b c : Int) : (binOp .eql 122 (.agg #[.int .u32 a, .int .i64 b, .int .u32 c]) (.agg #[.int .u32 a, .int .i64 b, .int .u32 c])).run Tryz.prog w = .ok (.bool true) w := by simp [go_sem]
theorem run_eql_rfc (w : World) (a b c : Int) : (binOp .eql 127 (.agg #[.int .u32 a, .int .i64 b, .int .u32 c]) (.agg #[.int .u32 a, .int .i64 b, .int .u32 c])).run Tryz.prog w = .ok (.bool true) w := by simp [go_sem]
attribute [local go_sem ↓] run_eql_fc run_eql_rfc
theorem inU_sh (l : List DW) : inU (shL l l.length) = shV37 (nodesW l) (bxS 8 8 l) := funext fun i => shL_contains i
set_option maxRecDepth 100000 in
set_option maxHeartbeats 8000000 in
theorem focusSets_any (A : Option Addr) (n c : Nat) (fs : List FW) (f : FC) (id rv tm now : Int) (w : World) (hn : n ≤ maxLen) (hr : RdF FW.cells 3 w A n fs) (hok : ∀ f ∈ fs, f.ok) (hf : f.ok) (hid : 0 ≤ id ∧ id ≤ 4294967295) :
    Calls Tryz.prog 17 #[.slice A n c, f.v, .int .u32 id, .int .i64 rv, .int .u32 tm, .int .u32 now] w fun e w' => e = .returned (.bool true) ∧ Below w.heap.size w w' := by
  have HN := Lib.hid hn
  have HR := Lib.hid hr
  have HOK := Lib.hid hok
  have HF := Lib.hid hf
  have HID := Lib.hid hid
  clear hid
  clear hn hr hok hf
  go_enter Tryz.func17, Tryz.ntmps17
  go_upto_region 1 with fail
  have xK := Blk.new w 122 #[.int .u32 f.W, .int .i64 f.R, .int .u32 f.T]
  have xB := bal (bre w) (.cells #[.int .u32 f.W, .int .i64 f.R, .int .u32 f.T] 122)
  obtain ⟨X0, hX0⟩ : ∃ X0, w.alloc (.cells #[.int .u32 f.W, .int .i64 f.R, .int .u32 f.T] 122) = X0 := ⟨_, rfl⟩
  rw [hX0] at xK xB ⊢
  have Kf := Lib.hid xK
  have HB := Lib.hid xB
  clear xK xB hX0
  go_wp2_with fail
  by_cases h10 : n ≤ 10
  case neg =>
    refine (made37_many A n c _ (by omega) HN.out).mono ?_
    rintro e w1 ⟨rfl, hb1⟩
    have HB1 := Lib.hid (bstep HB.out hb1)
    clear hb1
    go_wp2_with fail
    refine (awake37_any _).mono ?_
    rintro e w2 ⟨rfl, hb2⟩
    have HB2 := Lib.hid (bstep (bal (bal HB1.out (.cells #[.map none, .map none] 34)) (.cells #[.slice none 0 0, .map none] 43)) hb2)
    clear hb2
    go_wp2_with fail
    go_ret
    exact ⟨rfl, HB2.out⟩
  refine (made37_any A n c fs _ h10 (HR.out.below HB.out) HOK.out).mono ?_
  rintro e w1 ⟨mk, mu, nk, fk, v, og, v9, rfl, ht, hv, ho9, hb⟩
  obtain ⟨Av, nv, cv, mv, rfl⟩ := hv.form
  obtain ⟨A9, c9, rfl, _⟩ := own_form ho9
  obtain ⟨n9, h9⟩ : ∃ q, (shL (dwsF fs) n).length = q := ⟨_, rfl⟩
  have hSH := shL_len (l := dwsF fs) n
  rw [h9] at ho9 hSH ⊢
  have hLN : (dwsF fs).length = n := by rw [dwsF_len]; exact HR.out.1
  have HUP := Lib.hid (dwsF_up HOK.out)
  have hba := bal (bal (bre w1) (.cells #[.map mk, .map mu] 34)) (.cells #[.slice Av nv cv, .map mv] 43)
  have xT := ht.below hba
  have xV := hv.below hba
  have xR9 := (Rd.of_own ho9).below hba
  have xK7 := (Blk.new w1 34 #[.map mk, .map mu]).alloc (.cells #[.slice Av nv cv, .map mv] 43)
  have xK8 := blk_new2 w1 (.cells #[.map mk, .map mu] 34) 43 #[.slice Av nv cv, .map mv]
  have xB := bstep (bstep HB.out hb) hba
  have xKf := (Kf.out.belowS hb).belowS hba
  rw [← hLN] at xR9 hSH
  obtain ⟨l, hl⟩ : ∃ l, dwsF fs = l := ⟨_, rfl⟩
  rw [hl] at xT xV xR9 HUP hLN hSH
  have HLN := Lib.hid hLN
  have HTK := Lib.hid (nodesW_ok HUP.out)
  clear ht hv ho9 hb hba hLN
  try rw [hl]
  go_upto_region 2 with fail
  obtain ⟨X1, hX1⟩ : ∃ X1, (w1.alloc (.cells #[.map mk, .map mu] 34)).alloc (.cells #[.slice Av nv cv, .map mv] 43) = X1 := ⟨_, rfl⟩
  rw [hX1] at xT xV xR9 xK7 xK8 xB xKf ⊢
  have HT := Lib.hid xT
  have HV := Lib.hid xV
  have HR9 := Lib.hid xR9
  have K7 := Lib.hid xK7
  have K8 := Lib.hid xK8
  replace HB := Lib.hid xB
  replace Kf := Lib.hid xKf
  have HSHL := Lib.hid hSH
  clear xT xV xR9 xK7 xK8 xB xKf hX1 hl hSH h9
  go_upto_region 4 with fail
  have a0 := Kf.out.cellV (i := 0) (v := .int .u32 f.W) rfl
  have a1 := Kf.out.cellV (i := 1) (v := .int .i64 f.R) rfl
  have a2 := Kf.out.cellV (i := 2) (v := .int .u32 f.T) rfl
  have c0 := K8.out.cellV (i := 0) (v := .slice Av nv cv) rfl
  have c1 := K8.out.cellV (i := 1) (v := .map mv) rfl
  obtain ⟨r, hr⟩ : ∃ r, setF f (shV37 (nodesW l) (bxS 8 8 l)) id rv tm now = r := ⟨_, rfl⟩
  obtain ⟨⟨gW, gR, gT⟩, gb, gc⟩ := r
  have HG := Lib.hid hr
  clear hr
  go_wp2_with fail
  have hset := set37_any f HF.out id rv tm now HID.out HTK.out HV.out
  rw [HG.out] at hset
  refine hset.mono ?_
  clear hset
  rintro e w2 ⟨rfl, hb2⟩
  clear a0 a1 a2 c0 c1
  replace HT := Lib.hid (HT.out.below hb2)
  replace HV := Lib.hid (HV.out.below hb2)
  replace HR9 := Lib.hid (HR9.out.below hb2)
  replace Kf := Lib.hid (Kf.out.belowS hb2)
  replace K7 := Lib.hid (K7.out.belowS hb2)
  replace K8 := Lib.hid (K8.out.belowS hb2)
  replace HB := Lib.hid (bstep HB.out hb2)
  clear hb2
  go_upto_region 5 with fail
  have hba := bal (bre w2) (.cells #[.int .u32 gW, .int .i64 gR, .int .u32 gT] 122)
  have xHT := HT.out.below hba
  have xHV := HV.out.below hba
  have xHR9 := HR9.out.below hba
  have xKf := Kf.out.belowS hba
  have xK7 := K7.out.belowS hba
  have xK8 := K8.out.belowS hba
  have xHB := bal HB.out (.cells #[.int .u32 gW, .int .i64 gR, .int .u32 gT] 122)
  have xK17 := Blk.new w2 122 #[.int .u32 gW, .int .i64 gR, .int .u32 gT]
  obtain ⟨X2, hX2⟩ : ∃ X2, w2.alloc (.cells #[.int .u32 gW, .int .i64 gR, .int .u32 gT] 122) = X2 := ⟨_, rfl⟩
  rw [hX2] at xHT xHV xHR9 xKf xK7 xK8 xHB xK17 ⊢
  replace HT := Lib.hid xHT
  replace HV := Lib.hid xHV
  replace HR9 := Lib.hid xHR9
  replace Kf := Lib.hid xKf
  replace K7 := Lib.hid xK7
  replace K8 := Lib.hid xK8
  replace HB := Lib.hid xHB
  have K17 := Lib.hid xK17
  clear hba hX2 xHT xHV xHR9 xKf xK7 xK8 xHB xK17
  have a0 := Kf.out.cellV (i := 0) (v := .int .u32 f.W) rfl
  have a1 := Kf.out.cellV (i := 1) (v := .int .i64 f.R) rfl
  have a2 := Kf.out.cellV (i := 2) (v := .int .u32 f.T) rfl
  go_wp2_with fail
  have hset := rset37_any f HF.out A9 n9 c9 (shL l l.length) id rv tm now (by have := HSHL.out; have := HLN.out; omega) HR9.out
  rw [inU_sh, HG.out] at hset
  refine hset.mono ?_
  clear hset
  rintro e w3 ⟨rfl, hb3⟩
  clear a0 a1 a2
  replace HT := Lib.hid (HT.out.below hb3)
  replace HV := Lib.hid (HV.out.below hb3)
  replace HR9 := Lib.hid (HR9.out.below hb3)
  replace Kf := Lib.hid (Kf.out.belowS hb3)
  replace K7 := Lib.hid (K7.out.belowS hb3)
  replace K8 := Lib.hid (K8.out.belowS hb3)
  replace HB := Lib.hid (bstep HB.out hb3)
  replace K17 := Lib.hid (K17.out.belowS hb3)
  clear hb3
  go_upto_region 6 with fail
  have hba := bal (bre w3) (.cells #[.int .u32 gW, .int .i64 gR, .int .u32 gT] 127)
  have xHT := HT.out.below hba
  have xHV := HV.out.below hba
  have xHR9 := HR9.out.below hba
  have xKf := Kf.out.belowS hba
  have xK7 := K7.out.belowS hba
  have xK8 := K8.out.belowS hba
  have xHB := bal HB.out (.cells #[.int .u32 gW, .int .i64 gR, .int .u32 gT] 127)
  have xK17 := K17.out.belowS hba
  have xK20 := Blk.new w3 127 #[.int .u32 gW, .int .i64 gR, .int .u32 gT]
  obtain ⟨X3, hX3⟩ : ∃ X3, w3.alloc (.cells #[.int .u32 gW, .int .i64 gR, .int .u32 gT] 127) = X3 := ⟨_, rfl⟩
  rw [hX3] at xHT xHV xHR9 xKf xK7 xK8 xHB xK17 xK20 ⊢
  replace HT := Lib.hid xHT
  replace HV := Lib.hid xHV
  replace HR9 := Lib.hid xHR9
  replace Kf := Lib.hid xKf
  replace K7 := Lib.hid xK7
  replace K8 := Lib.hid xK8
  replace HB := Lib.hid xHB
  replace K17 := Lib.hid xK17
  have K20 := Lib.hid xK20
  clear hba hX3 xHT xHV xHR9 xKf xK7 xK8 xHB xK17 xK20
  go_wp2_with fail
  refine (awake37_any _).mono ?_
  rintro e w4 ⟨rfl, hb4⟩
  replace HT := Lib.hid (HT.out.below hb4)
  replace HV := Lib.hid (HV.out.below hb4)
  replace HR9 := Lib.hid (HR9.out.below hb4)
  replace Kf := Lib.hid (Kf.out.belowS hb4)
  replace K7 := Lib.hid (K7.out.belowS hb4)
  replace K8 := Lib.hid (K8.out.belowS hb4)
  replace HB := Lib.hid (bstep HB.out hb4)
  replace K17 := Lib.hid (K17.out.belowS hb4)
  replace K20 := Lib.hid (K20.out.belowS hb4)
  clear hb4
  have d0 := K17.out.cellV (i := 0) (v := .int .u32 gW) rfl
  have d1 := K17.out.cellV (i := 1) (v := .int .i64 gR) rfl
  have d2 := K17.out.cellV (i := 2) (v := .int .u32 gT) rfl
  have e0 := K20.out.cellV (i := 0) (v := .int .u32 gW) rfl
  have e1 := K20.out.cellV (i := 1) (v := .int .i64 gR) rfl
  have e2 := K20.out.cellV (i := 2) (v := .int .u32 gT) rfl
  go_wp2_with fail
  go_ret
  exact ⟨rfl, HB.out⟩
end Go.Proofs.YtbkkecijcijhdaaGreat
end
