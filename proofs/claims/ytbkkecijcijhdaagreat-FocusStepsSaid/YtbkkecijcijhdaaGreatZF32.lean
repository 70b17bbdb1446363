/-
  The walk of glazierlaw37.made: a tree of windows, its view, and which of them show.
-/
import Derived.Test.YtbkkecijcijhdaaGreatZF29
section
namespace Go.Proofs.YtbkkecijcijhdaaGreat
open Go.RowKit Go.Maps Go.Shelf

set_option maxRecDepth 100000 in
theorem id37_any (n : Nat) (w : World) (h : n ≤ 1000) : Calls Tryz.prog 73 #[.int .i64 n] w fun e w' => e = .returned (.int .u32 (idW ((n : Int) - 1))) ∧ Below w.heap.size w w' := by
  by_cases h0 : n = 0
  · subst h0
    go_enter Tryz.func73, Tryz.ntmps73
    go_wp2_with fail
    go_ret
    exact ⟨rfl, bre w⟩
  · have e : idW ((n : Int) - 1) = 1048576 + (n : Int) := by unfold idW; rw [if_neg (by omega)]; omega
    have e1 : IntKind.i64.wrap (1048576 + (n : Int)) = 1048576 + (n : Int) := IntWalk.i64_in _ (by omega)
    have e2 : IntKind.u32.wrap (1048576 + (n : Int)) = 1048576 + (n : Int) := IntWalk.u32_in _ (by omega)
    have h1 : ¬ (n : Int) = 0 := by omega
    rw [e]
    go_enter Tryz.func73, Tryz.ntmps73
    go_wp2_with fail
    go_ret
    exact ⟨rfl, bre w⟩
theorem id37_s (n : Nat) (m : Int) (hm : m = (n : Int) - 1) (w : World) (h : n ≤ 1000) : Calls Tryz.prog 73 #[.int .i64 n] w fun e w' => e = .returned (.int .u32 (idW m)) ∧ Below w.heap.size w w' := by
  subst hm
  exact id37_any n w h
set_option maxRecDepth 100000 in
theorem Tryz.sizeVw : (Tryz.prog.info? 43).map (·.size) = some 2 := by kernel_rfl
theorem view_no (A : Option Addr) (n c : Nat) (m : Option Nat) : ∀ (j : Nat) (x : Int), (#[.slice A n c, .map m] : Array Value)[j]? ≠ some (.int .u32 x) := fun j x => by
  match j with
  | 0 => simp
  | 1 => simp
  | j + 2 => simp
theorem view_no2 (A : Option Addr) (n c : Nat) (m : Option Nat) : ∀ (j : Nat) (k : IntKind) (x : Int), (#[.slice A n c, .map m] : Array Value)[j]? ≠ some (.int k x) := fun j k x => by
  match j with
  | 0 => simp
  | 1 => simp
  | j + 2 => simp
theorem maps_no2 (a b : Option Nat) : ∀ (j : Nat) (k : IntKind) (x : Int), (#[.map a, .map b] : Array Value)[j]? ≠ some (.int k x) := fun j k x => by
  match j with
  | 0 => simp
  | 1 => simp
  | j + 2 => simp
theorem blk_noI {w : World} {g : Nat} {t : TypeId} {cs : Array Value} (h : Blk w g t cs) (hn : ∀ (j : Nat) (k : IntKind) (x : Int), cs[j]? ≠ some (.int k x)) : NoInt w g := fun o k i e => by
  rw [h.cell] at e
  exact hn o k i e
theorem Tryz.infoBo : (Tryz.prog.info? 4).map (fun i => (i.zero, i.size, i.bytes)) = some (some (.bool false), 1, 1) := by kernel_rfl
set_option maxRecDepth 100000 in
set_option maxHeartbeats 8000000 in
theorem made37_many (A : Option Addr) (n c : Nat) (w : World) (hn : 10 < n) (hm : n ≤ maxLen) :
    Calls Tryz.prog 62 #[.slice A n c] w fun e w' => e = .returned (.tuple #[.agg #[.map none, .map none], .agg #[.slice none 0 0, .map none], .slice none 0 0, .bool false]) ∧ Below w.heap.size w w' := by
  simp only [maxLen] at hm
  have k1 : (10 : Int) < (n : Int) := by omega
  go_enter Tryz.func62, Tryz.ntmps62
  go_wp2_with fail
  have hba := bal (bal (bre w) (.cells #[.map none, .map none] 34)) (.cells #[.slice none 0 0, .map none] 43)
  have xK2 := (Blk.new w 34 #[.map none, .map none]).alloc (.cells #[.slice none 0 0, .map none] 43)
  have xK3 := blk_new2 w (.cells #[.map none, .map none] 34) 43 #[.slice none 0 0, .map none]
  obtain ⟨X0, hX0⟩ : ∃ X0, (w.alloc (.cells #[.map none, .map none] 34)).alloc (.cells #[.slice none 0 0, .map none] 43) = X0 := ⟨_, rfl⟩
  have hsz : X0.heap.size = w.heap.size + 1 + 1 := by rw [← hX0]; simp
  rw [hX0] at hba xK2 xK3 ⊢
  have HB := Lib.hid hba
  have K2 := Lib.hid xK2
  have K3 := Lib.hid xK3
  have HS0 := Lib.hid hsz
  clear hba xK2 xK3 hX0 hsz
  refine (tnew_any _).mono ?_
  rintro e w1 ⟨rfl, hb1⟩
  have HS1 := Lib.hid hb1.size
  replace HB := Lib.hid (bstep HB.out hb1)
  replace K2 := Lib.hid (K2.out.belowS hb1)
  replace K3 := Lib.hid (K3.out.belowS hb1)
  clear hb1
  go_upto_region 2 with fail
  have hba : Below w1.heap.size w1 (w1.alloc (.cells #[.map none, .map none] 34)) := bal (bre w1) _
  have xHB := bstep HB.out hba
  have xK2 := K2.out.belowS hba
  have xK3 := K3.out.belowS hba
  have xK6 := Blk.new w1 34 #[.map none, .map none]
  obtain ⟨X1, hX1⟩ : ∃ X1, w1.alloc (.cells #[.map none, .map none] 34) = X1 := ⟨_, rfl⟩
  rw [hX1] at hba xHB xK2 xK3 xK6 ⊢
  replace HB := Lib.hid xHB
  replace K2 := Lib.hid xK2
  replace K3 := Lib.hid xK3
  have K6 := Lib.hid xK6
  have HSX1 := Lib.hid hba.size
  have HTK6 := Lib.hid K6.out.lt
  clear hX1 hba xHB xK2 xK3 xK6
  go_wp2_with fail
  refine (pnew_any 8 8 _ (by decide) (by decide)).mono ?_
  rintro e w2 ⟨pv0, rfl, hp0, hb2⟩
  have HP0 := Lib.hid hp0
  obtain ⟨mp0, rfl, _⟩ := hp0
  have HS2 := Lib.hid hb2.size
  replace HB := Lib.hid (bstep HB.out hb2)
  replace K2 := Lib.hid (K2.out.belowS hb2)
  replace K3 := Lib.hid (K3.out.belowS hb2)
  replace K6 := Lib.hid (K6.out.belowS hb2)
  clear hb2
  go_upto_region 3 with fail
  have hba : Below w2.heap.size w2 (w2.alloc (.cells #[.map mp0] 37)) := bal (bre w2) _
  have xHB := bstep HB.out hba
  have xK2 := K2.out.belowS hba
  have xK3 := K3.out.belowS hba
  have xK6 := K6.out.belowS hba
  have xHP0 := HP0.out.below hba
  have xK7 := Blk.new w2 37 #[.map mp0]
  obtain ⟨X2, hX2⟩ : ∃ X2, w2.alloc (.cells #[.map mp0] 37) = X2 := ⟨_, rfl⟩
  rw [hX2] at hba xHB xK2 xK3 xK6 xHP0 xK7 ⊢
  replace HB := Lib.hid xHB
  replace K2 := Lib.hid xK2
  replace K3 := Lib.hid xK3
  replace K6 := Lib.hid xK6
  replace HP0 := Lib.hid xHP0
  have K7 := Lib.hid xK7
  have HSX2 := Lib.hid hba.size
  have HTK7 := Lib.hid K7.out.lt
  clear hX2 hba xHB xK2 xK3 xK6 xHP0 xK7
  have q0 := K6.out.cellV (i := 0) (v := .map none) rfl
  have q1 := K6.out.cellV (i := 1) (v := .map none) rfl
  have s0 := K2.out.cellV (i := 0) (v := .map none) rfl
  have s1 := K2.out.cellV (i := 1) (v := .map none) rfl
  have s2 := K3.out.cellV (i := 0) (v := .slice none 0 0) rfl
  have s3 := K3.out.cellV (i := 1) (v := .map none) rfl
  have f0 := K2.out.frozen 0
  have f1 := K2.out.frozen 1
  have f2 := K3.out.frozen 0
  have f3 := K3.out.frozen 1
  have l0 := K2.out.lt
  have l1 := K3.out.lt
  go_wp2_with fail
  obtain ⟨ne, hne⟩ : ∃ ne, ne = w.heap.size + 1 := ⟨_, rfl⟩
  have tk2 := (((K2.out.set_ 0 (.map none)).set_ 1 (.map none)).far (p := ⟨w.heap.size + 1, 0, none⟩) (by show _ ≠ _; simp only; omega) (.slice none 0 0)).far (p := ⟨w.heap.size + 1, 1, none⟩) (by show _ ≠ _; simp only; omega) (.map none)
  have tk3 := (((K3.out.far (p := ⟨w.heap.size, 0, none⟩) (by show _ ≠ _; simp only; omega) (.map none)).far (p := ⟨w.heap.size, 1, none⟩) (by show _ ≠ _; simp only; omega) (.map none)).set_ 0 (.slice none 0 0)).set_ 1 (.map none)
  have thb := bset (p := ⟨w.heap.size + 1, 1, none⟩) (bset (p := ⟨w.heap.size + 1, 0, none⟩) (bset (p := ⟨w.heap.size, 1, none⟩) (bset (p := ⟨w.heap.size, 0, none⟩) HB.out (by show w.heap.size ≤ _; simp only; omega) (.map none)) (by show w.heap.size ≤ _; simp only; omega) (.map none)) (by show w.heap.size ≤ _; simp only; omega) (.slice none 0 0)) (by show w.heap.size ≤ _; simp only; omega) (.map none)
  have r0 := tk2.cellV (i := 0) (v := .map none) rfl
  have r1 := tk2.cellV (i := 1) (v := .map none) rfl
  have r2 := tk3.cellV (i := 0) (v := .slice none 0 0) rfl
  have r3 := tk3.cellV (i := 1) (v := .map none) rfl
  exact bodyPost_ret (v := .tuple #[.agg #[.map none, .map none], .agg #[.slice none 0 0, .map none], .slice none 0 0, .bool false]) (by simp [results, Tryz.results62, go_sem, r0, r1, r2, r3]) rfl ⟨rfl, thb⟩
set_option maxRecDepth 100000 in
set_option maxHeartbeats 8000000 in
theorem made37_any (A : Option Addr) (n c : Nat) (fs : List FW) (w : World) (hn : n ≤ 10) (hr : RdF FW.cells 3 w A n fs) (hok : ∀ f ∈ fs, f.ok) :
    Calls Tryz.prog 62 #[.slice A n c] w fun e w' => ∃ mk mu nk fk v og v9, e = .returned (.tuple #[.agg #[.map mk, .map mu], v, v9, .bool true]) ∧ TreeIs w' (.agg #[.map mk, .map mu]) (nodesW (dwsF fs)) mk mu nk fk ∧ SeenG w' v 8 8 (nodesW (dwsF fs)) (bxS 8 8 (dwsF fs)) og ∧ w'.ownsRow w.heap.size 49 1 v9 (shL (dwsF fs) n).length (U32 (shL (dwsF fs) n)) ∧ Below w.heap.size w w' := by
  obtain ⟨i0, hi0, hz0, hz1, hz2⟩ := info_parts Tryz.infoU
  obtain ⟨j0, hj0, hy0, hy1, hy2⟩ := info_parts Tryz.infoBo
  have HR := Lib.hid hr
  have HFL := Lib.hid hr.1
  have HOK := Lib.hid hok
  obtain ⟨l, hl⟩ : ∃ l, dwsF fs = l := ⟨_, rfl⟩
  have HUP := Lib.hid (show UpOk l by rw [← hl]; exact dwsF_up hok)
  have HDW := Lib.hid (show ∀ d ∈ l, DWok d by rw [← hl]; exact dwsF_ok)
  have HSH := Lib.hid (show ∀ d ∈ l, d.sh = [] by rw [← hl]; exact dwsF_sh)
  have HGT := Lib.hid (show ∀ (i : Nat) (f : FW), fs[i]? = some f → l[i]? = some (f.dw i) by rw [← hl]; exact fun i f h => dwsF_get h)
  have HLL := Lib.hid (show l.length = n by rw [← hl, dwsF_len]; exact hr.1)
  clear hr hok
  rw [hl]
  clear hl
  go_enter Tryz.func62, Tryz.ntmps62
  go_wp2_with fail
  have hba := bal (bal (bre w) (.cells #[.map none, .map none] 34)) (.cells #[.slice none 0 0, .map none] 43)
  have xK2 := (Blk.new w 34 #[.map none, .map none]).alloc (.cells #[.slice none 0 0, .map none] 43)
  have xK3 := blk_new2 w (.cells #[.map none, .map none] 34) 43 #[.slice none 0 0, .map none]
  obtain ⟨X0, hX0⟩ : ∃ X0, (w.alloc (.cells #[.map none, .map none] 34)).alloc (.cells #[.slice none 0 0, .map none] 43) = X0 := ⟨_, rfl⟩
  have hsz : X0.heap.size = w.heap.size + 1 + 1 := by rw [← hX0]; simp
  rw [hX0] at hba xK2 xK3 ⊢
  have HB := Lib.hid hba
  have K2 := Lib.hid xK2
  have K3 := Lib.hid xK3
  have HS0 := Lib.hid hsz
  clear hba xK2 xK3 hX0 hsz
  refine (tnew_any _).mono ?_
  rintro e w1 ⟨rfl, hb1⟩
  have HS1 := Lib.hid hb1.size
  replace HB := Lib.hid (bstep HB.out hb1)
  replace K2 := Lib.hid (K2.out.belowS hb1)
  replace K3 := Lib.hid (K3.out.belowS hb1)
  clear hb1
  go_upto_region 2 with fail
  have hba : Below w1.heap.size w1 (w1.alloc (.cells #[.map none, .map none] 34)) := bal (bre w1) _
  have xHB := bstep HB.out hba
  have xK2 := K2.out.belowS hba
  have xK3 := K3.out.belowS hba
  have xK6 := Blk.new w1 34 #[.map none, .map none]
  obtain ⟨X1, hX1⟩ : ∃ X1, w1.alloc (.cells #[.map none, .map none] 34) = X1 := ⟨_, rfl⟩
  rw [hX1] at hba xHB xK2 xK3 xK6 ⊢
  replace HB := Lib.hid xHB
  replace K2 := Lib.hid xK2
  replace K3 := Lib.hid xK3
  have K6 := Lib.hid xK6
  have HSX1 := Lib.hid hba.size
  have HTK6 := Lib.hid K6.out.lt
  clear hX1 hba xHB xK2 xK3 xK6
  go_wp2_with fail
  refine (pnew_any 8 8 _ (by decide) (by decide)).mono ?_
  rintro e w2 ⟨pv0, rfl, hp0, hb2⟩
  have HP0 := Lib.hid hp0
  obtain ⟨mp0, rfl, _⟩ := hp0
  have HS2 := Lib.hid hb2.size
  replace HB := Lib.hid (bstep HB.out hb2)
  replace K2 := Lib.hid (K2.out.belowS hb2)
  replace K3 := Lib.hid (K3.out.belowS hb2)
  replace K6 := Lib.hid (K6.out.belowS hb2)
  clear hb2
  go_upto_region 3 with fail
  have hba : Below w2.heap.size w2 (w2.alloc (.cells #[.map mp0] 37)) := bal (bre w2) _
  have xHB := bstep HB.out hba
  have xK2 := K2.out.belowS hba
  have xK3 := K3.out.belowS hba
  have xK6 := K6.out.belowS hba
  have xHP0 := HP0.out.below hba
  have xK7 := Blk.new w2 37 #[.map mp0]
  obtain ⟨X2, hX2⟩ : ∃ X2, w2.alloc (.cells #[.map mp0] 37) = X2 := ⟨_, rfl⟩
  rw [hX2] at hba xHB xK2 xK3 xK6 xHP0 xK7 ⊢
  replace HB := Lib.hid xHB
  replace K2 := Lib.hid xK2
  replace K3 := Lib.hid xK3
  replace K6 := Lib.hid xK6
  replace HP0 := Lib.hid xHP0
  have K7 := Lib.hid xK7
  have HSX2 := Lib.hid hba.size
  have HTK7 := Lib.hid K7.out.lt
  clear hX2 hba xHB xK2 xK3 xK6 xHP0 xK7
  have k1 : ¬ (10 : Int) < (n : Int) := by omega
  have HLT := Lib.hid (show w.heap.size + 1 < w1.heap.size ∧ w1.heap.size < w2.heap.size ∧ w2.heap.size < X2.heap.size by have := HS0.out; have := HS1.out; have := HSX1.out; have := HS2.out; have := HTK6.out; have := HTK7.out; omega)
  go_upto_region 7 with fail
  have hba := bal (bal (bre X2) (.cells #[.int .u32 1] 49)) (.cells #[.bool true] 4)
  have xO9 := (blk_own (Blk.new X2 49 #[.int .u32 1]) (Nat.le_refl _) rfl (by simp [maxLen])).alloc (.cells #[.bool true] 4)
  have xO10 := blk_own (blk_new2 X2 (.cells #[.int .u32 1] 49) 4 #[.bool true]) (show X2.heap.size ≤ X2.heap.size + 1 by omega) rfl (by simp [maxLen])
  obtain ⟨X4, hX4⟩ : ∃ X4, (X2.alloc (.cells #[.int .u32 1] 49)).alloc (.cells #[.bool true] 4) = X4 := ⟨_, rfl⟩
  rw [hX4] at hba xO9 xO10 ⊢
  have HMK := Lib.hid (show MK X4 X2.heap.size w1.heap.size w2.heap.size l 0 none none mp0 0 (fun _ => none) (fun i => if i = 1 then some (rootBX 8 8) else none) (.slice (some ⟨X2.heap.size, 0, none⟩) 1 1) (.slice (some ⟨X2.heap.size + 1, 0, none⟩) 1 1) from
    ⟨K6.out.belowS hba, K7.out.belowS hba, tree_new X4, HP0.out.below hba, SceneIs.nil, by rw [shL_zero HUP.out]; exact xO9, by rw [isL_zero HUP.out]; exact xO10⟩)
  replace HB := Lib.hid (bstep HB.out hba)
  replace K2 := Lib.hid (K2.out.belowS hba)
  replace K3 := Lib.hid (K3.out.belowS hba)
  clear hba xO9 xO10 hX4 K6 K7 HP0
  go_wp2_with fail
  go_loopw [37, 9, 10] (fun i s9 s10 wr => ∃ (k : Nat) (mk mu mp : Option Nat) (nk : Nat) (fk : Int → Option Value) (bs : Bxs), i = .int .i64 k ∧ k ≤ n ∧ MK wr X2.heap.size w1.heap.size w2.heap.size l k mk mu mp nk fk bs s9 s10 ∧ (Blk wr w.heap.size 34 #[.map none, .map none] ∧ Blk wr (w.heap.size + 1) 43 #[.slice none 0 0, .map none]) ∧ Below w.heap.size w wr) (fun i _ _ _ => n - (intOf i).toNat)
  case atStart => exact ⟨0, none, none, mp0, 0, _, _, rfl, by omega, HMK.out, ⟨K2.out, K3.out⟩, HB.out⟩
  case round =>
    obtain ⟨k, mk, mu, mp, nk, fk, bs, rfl, hk, hmk, ⟨h2, h3⟩, hB⟩ := hrel
    obtain ⟨A9, c9, rfl, _⟩ := own_form hmk.own9
    obtain ⟨A10, c10, rfl, _⟩ := own_form hmk.own10
    replace HB := Lib.hid hB
    replace HMK := Lib.hid hmk
    replace K2 := Lib.hid h2
    replace K3 := Lib.hid h3
    clear hB hmk h2 h3
    by_cases hlt : k < n
    · obtain ⟨f, hf⟩ : ∃ f, fs[k]? = some f := ⟨_, List.getElem?_eq_getElem (by rw [HFL.out]; exact hlt)⟩
      have k1 : (k : Int) < (n : Int) := by omega
      have k0 : (0 : Int) ≤ (k : Int) := by omega
      have HD := Lib.hid (HGT.out k f hf)
      have fok := HOK.out f (List.mem_of_getElem? hf)
      unfold FW.ok at fok
      obtain ⟨p, hp⟩ : ∃ p : Nat, f.U % ((k : Int) + 1) = (p : Int) := ⟨(f.U % ((k : Int) + 1)).toNat, by have := Int.emod_nonneg f.U (show ((k : Int) + 1) ≠ 0 by omega); omega⟩
      have hpk : p ≤ k := by have := Int.emod_lt_of_pos f.U (show 0 < ((k : Int) + 1) by omega); omega
      have HP := Lib.hid hp
      obtain ⟨b, off, rfl, hb, hcl⟩ := HR.out.2 (by omega)
      have c0 := hcl k f hf 0 _ rfl
      have c1 := hcl k f hf 1 _ rfl
      have c2 := hcl k f hf 2 _ rfl
      simp only [Nat.add_zero] at c0
      have e0 := (HB.out.cell (p := ⟨b, off + k * 3, none⟩) hb).trans c0
      have e1 := (HB.out.cell (p := ⟨b, off + k * 3 + 1, none⟩) hb).trans c1
      have e2 := (HB.out.cell (p := ⟨b, off + k * 3 + 2, none⟩) hb).trans c2
      have v1 : IntKind.i64.wrap f.U = f.U := IntWalk.i64_in _ (by omega)
      have v2 : IntKind.i64.wrap ((k : Int) + 1) = (k : Int) + 1 := IntWalk.i64_in _ (by omega)
      have v3 : f.U.tmod ((k : Int) + 1) = (p : Int) := by rw [Int.tmod_eq_emod_of_nonneg (by omega)]; exact hp
      have v4 : ¬ ((k : Int) + 1 = 0) := by omega
      obtain ⟨fO, hfO⟩ : ∃ q, f.O = q := ⟨_, rfl⟩
      rw [hfO] at e2
      have HFO := Lib.hid hfO
      obtain ⟨fM, hfM⟩ : ∃ q, f.M = q := ⟨_, rfl⟩
      rw [hfM] at e1
      have HFM := Lib.hid hfM
      clear c0 c1 c2 hcl hf hp hfO hfM
      go_upto_region 11 with fail
      have hba := bal (bre wr) (.cells #[.int .u8 f.U, .bool fM, .bool fO] 201)
      have HGR := Lib.hid (show ∀ g, (Value.slice A9 (shL l k).length c9).ownBlock = some g → g < wr.heap.size from own_lt HMK.out.own9)
      have HGS := Lib.hid (show ∀ g, (Value.slice A10 (k + 1) c10).ownBlock = some g → g < wr.heap.size from own_lt HMK.out.own10)
      have HL6 := Lib.hid HMK.out.k6.lt
      have HL7 := Lib.hid HMK.out.k7.lt
      have xK12 := Blk.new wr 201 #[.int .u8 f.U, .bool fM, .bool fO]
      have xM := HMK.out.below hba
      have xB := bstep HB.out hba
      have x2 := K2.out.belowS hba
      have x3 := K3.out.belowS hba
      have hsz := hba.size
      obtain ⟨X5, hX5⟩ : ∃ X5, wr.alloc (.cells #[.int .u8 f.U, .bool fM, .bool fO] 201) = X5 := ⟨_, rfl⟩
      rw [hX5] at xK12 xM xB x2 x3 hsz ⊢
      have HX5 := Lib.hid hsz
      replace HMK := Lib.hid xM
      replace HB := Lib.hid xB
      replace K2 := Lib.hid x2
      replace K3 := Lib.hid x3
      have K12 := Lib.hid xK12
      have HTK := Lib.hid (take_snocI' HD.out)
      have hkn : (l.take k).length = k := by rw [List.length_take, HLL.out]; omega
      have HKL := Lib.hid hkn
      have HPRE := Lib.hid (add_pre HUP.out HD.out (by omega))
      have HPW := Lib.hid (show (f.dw k).P = (p : Int) - 1 by show f.U % ((k : Int) + 1) - 1 = _; rw [HP.out])
      clear hba xM xB x2 x3 hsz hX5 xK12 e0 e1 e2 v1 v3 v4 hkn
      go_cut [14, 15] from 110 (fun s14 s15 wx => ∃ (g kb ub nk' : Nat) (fk' : Int → Option Value), s14 = .pointer (some ⟨g, 0, none⟩) ∧ s15 = .int .i64 0 ∧ X5.heap.size ≤ g ∧ Blk wx g 34 #[.map (some kb), .map (some ub)] ∧ TreeOwn wx X5.heap.size (nodesW (l.take (k + 1))) kb ub nk' fk' ∧ Below X5.heap.size X5 wx)
      case first =>
        as_aux_lemma =>
          have HBW := Lib.hid (show Below X5.heap.size X5 X5.drew from (bre X5).drew)
          refine wp_region_noPanic ?_
          refine wp_region_held_drew (S := (fun w' => w'.cell? ⟨w1.heap.size, 0, none⟩ = some (.map mk) ∧ w'.cell? ⟨w1.heap.size, 1, none⟩ = some (.map mu))) (by kernel_rfl) ?_ (fun hHeld => ?_)
          · (try dsimp only)
            exact ⟨(HMK.out.k6.belowS HBW.out).cellV (i := 0) rfl, (HMK.out.k6.belowS HBW.out).cellV (i := 1) rfl⟩
          refine Tr.take_at 0 49 (.agg #[.map mk, .map mu]) rfl rfl (by kernel_rfl) (by kernel_rfl) (by kernel_rfl) (fun _ _ _ h => h) (Or.inl ⟨by rfl, ?_⟩) (by assumption) ?_
          · intro W0 hSw
            (try dsimp only at hSw)
            go_simp
          simp only [List.set_cons_zero, List.set_cons_succ]
          refine Tr.take_at 1 50 (.int .i64 k) rfl rfl (by kernel_rfl) (by kernel_rfl) (by kernel_rfl) (fun _ _ _ h => h) (Or.inl ⟨by rfl, ?_⟩) (by assumption) ?_
          · intro W0 hSw
            (try dsimp only at hSw)
            go_simp
          simp only [List.set_cons_zero, List.set_cons_succ]
          refine Tr.take_at 2 51 (.int .i64 ((k + 1 : Nat) : Int)) rfl rfl (by kernel_rfl) (by kernel_rfl) (by kernel_rfl) (fun _ _ _ h => h) (Or.inl ⟨by rfl, ?_⟩) (by assumption) ?_
          · intro W0 hSw
            (try dsimp only at hSw)
            go_simp
          simp only [List.set_cons_zero, List.set_cons_succ]
          refine Tr.take_at 4 53 (.int .i64 p) rfl rfl (by kernel_rfl) (by kernel_rfl) (by kernel_rfl) (fun _ _ _ h => h) (Or.inl ⟨by rfl, ?_⟩) (by assumption) ?_
          · intro W0 hSw
            (try dsimp only at hSw)
            go_simp
          simp only [List.set_cons_zero, List.set_cons_succ]
          refine wpAnyH_ready (rs := [3, 10]) (by kernel_rfl) (by simp) ?_
          refine AllReadyH.cons rfl (fun K hK => ?_) (AllReadyH.cons rfl (fun K hK => ?_) AllReadyH.nil)
          ·
            go_simp
            refine (id37_s (k + 1) (k : Int) (by omega) _ (by omega)).mono ?_
            rintro e wc3 ⟨rfl, hbA⟩
            replace HBW := Lib.hid (bstep HBW.out hbA)
            clear hbA
            go_simp
            refine hK.out _ _ ?_ (fun hHeld => ?_)
            · (try dsimp only)
              exact ⟨(HMK.out.k6.belowS HBW.out).cellV (i := 0) rfl, (HMK.out.k6.belowS HBW.out).cellV (i := 1) rfl⟩
            clear hK K
            refine wpAnyH_ready (rs := [5, 10]) (by kernel_rfl) (by simp) ?_
            refine AllReadyH.cons rfl (fun K hK => ?_) (AllReadyH.cons rfl (fun K hK => ?_) AllReadyH.nil)
            ·
              go_simp
              refine (id37_s (p) (f.dw k).P (HPW.out) _ (by omega)).mono ?_
              rintro e wc5 ⟨rfl, hbA⟩
              replace HBW := Lib.hid (bstep HBW.out hbA)
              clear hbA
              go_simp
              refine hK.out _ _ ?_ (fun hHeld => ?_)
              · (try dsimp only)
                exact ⟨(HMK.out.k6.belowS HBW.out).cellV (i := 0) rfl, (HMK.out.k6.belowS HBW.out).cellV (i := 1) rfl⟩
              clear hK K
              refine wpAnyH_ready (rs := [6, 10]) (by kernel_rfl) (by simp) ?_
              refine AllReadyH.cons rfl (fun K hK => ?_) (AllReadyH.cons rfl (fun K hK => ?_) AllReadyH.nil)
              ·
                go_simp
                refine (tadd_own (.agg #[.map mk, .map mu]) (nodesW (l.take k)) mk mu nk fk (idW k) (idW (f.dw k).P) _ (idW_bd (by omega)) (idW_bd (by have := HPW.out; omega)) (HMK.out.tree.below HBW.out) HPRE.out.1 HPRE.out.2.1 HPRE.out.2.2.1 HPRE.out.2.2.2).mono ?_
                rintro e wc6 ⟨⟨kb, ub, nk', fk', rfl, ht'⟩, hbA⟩
                have e9 : nodesW (l.take k) ++ [(idW (k : Int), idW (f.dw k).P)] = nodesW (l.take (k + 1)) := by rw [HTK.out, nodesW_snoc, HKL.out]
                rw [e9] at ht'
                have HTN := Lib.hid (ht'.lower HBW.out.size)
                clear ht' e9
                replace HBW := Lib.hid (bstep HBW.out hbA)
                clear hbA
                go_simp
                refine hK.out _ _ ?_ (fun hHeld => ?_)
                · (try dsimp only)
                  exact ⟨(HMK.out.k6.belowS HBW.out).cellV (i := 0) rfl, (HMK.out.k6.belowS HBW.out).cellV (i := 1) rfl⟩
                clear hK K
                refine Tr.take_at 7 48 (.tuple #[.agg #[.map (some kb), .map (some ub)], .int .i64 0]) rfl rfl (by kernel_rfl) (by kernel_rfl) (by kernel_rfl) (fun _ _ _ h => h) (Or.inl ⟨by rfl, ?_⟩) (by assumption) ?_
                · intro W0 hSw
                  (try dsimp only at hSw)
                  go_simp
                simp only [List.set_cons_zero, List.set_cons_succ]
                refine Tr.take_at 8 56 (.agg #[.map (some kb), .map (some ub)]) rfl rfl (by kernel_rfl) (by kernel_rfl) (by kernel_rfl) (fun _ _ _ h => h) (Or.inl ⟨by rfl, ?_⟩) (by assumption) ?_
                · intro W0 hSw
                  (try dsimp only at hSw)
                  go_simp
                simp only [List.set_cons_zero, List.set_cons_succ]
                refine Tr.take_at 9 57 (.int .i64 0) rfl rfl (by kernel_rfl) (by kernel_rfl) (by kernel_rfl) (fun _ _ _ h => h) (Or.inl ⟨by rfl, ?_⟩) (by assumption) ?_
                · intro W0 hSw
                  (try dsimp only at hSw)
                  go_simp
                simp only [List.set_cons_zero, List.set_cons_succ]
                refine wpAnyH_ready (rs := [10]) (by kernel_rfl) (by simp) ?_
                refine AllReadyH.cons rfl (fun K hK => ?_) AllReadyH.nil
                go_simp
                have KA10 := Lib.hid (show Blk (wc6.alloc (.cells #[.map none, .map none] 34)) (wc6.heap.size) 34 #[.map none, .map none] from Blk.new wc6 34 #[.map none, .map none])
                have HL10 := Lib.hid (show X5.heap.size ≤ wc6.heap.size from HBW.out.size)
                have hbA : Below wc6.heap.size wc6 ((wc6.alloc (.cells #[.map none, .map none] 34))) := bal (bre wc6) (.cells #[.map none, .map none] 34)
                replace HBW := Lib.hid (bstep HBW.out hbA)
                replace HTN := Lib.hid (HTN.out.below hbA)
                clear hbA
                refine hK.out _ _ ?_ (fun hHeld => ?_)
                · (try dsimp only)
                  exact ⟨(HMK.out.k6.belowS HBW.out).cellV (i := 0) rfl, (HMK.out.k6.belowS HBW.out).cellV (i := 1) rfl⟩
                clear hK K
                refine wpAnyH_ready (rs := [11]) (by kernel_rfl) (by simp) ?_
                refine AllReadyH.cons rfl (fun K hK => ?_) AllReadyH.nil
                refine Tr.wanted_plain rfl ?_
                refine store_mid0 rfl 34 _ _ rfl (wc6.heap.size) 0 #[.map (some kb), .map (some ub)] (by rfl) (by rfl) (by have h := there_blk KA10.out; exact h) Tryz.sizeTr (by simp [Value.oneCell']) ?_
                have xK := blk_puts2 (.map (some kb)) (.map (some ub)) KA10.out
                have xB := bsets HBW.out HL10.out (#[.map (some kb), .map (some ub)] : Array Value).toList 0
                have xHTN := (show TreeOwn (World.setCells (wc6.alloc (.cells #[.map none, .map none] 34)) (wc6.heap.size) 0 (#[.map (some kb), .map (some ub)] : Array Value).toList) _ _ _ _ _ _ from (HTN.out.setBlk KA10.out (by decide) 0 (.map (some kb))).setBlk (KA10.out.set_ 0 (.map (some kb))) (by decide) 1 (.map (some ub)))
                obtain ⟨wS11, hwS⟩ : ∃ wS, World.setCells (wc6.alloc (.cells #[.map none, .map none] 34)) (wc6.heap.size) 0 (#[.map (some kb), .map (some ub)] : Array Value).toList = wS := ⟨_, rfl⟩
                rw [hwS] at xK xB xHTN ⊢
                replace HBW := Lib.hid xB
                replace KA10 := Lib.hid xK
                replace HTN := Lib.hid xHTN
                clear hwS xK xB xHTN
                refine hK.out _ _ ?_ (fun hHeld => ?_)
                · (try dsimp only)
                  exact ⟨(HMK.out.k6.belowS HBW.out).cellV (i := 0) rfl, (HMK.out.k6.belowS HBW.out).cellV (i := 1) rfl⟩
                clear hK K
                refine Tr.take_at 12 15 (.int .i64 0) rfl rfl (by kernel_rfl) (by kernel_rfl) (by kernel_rfl) (fun _ _ _ h => h) (Or.inl ⟨by rfl, ?_⟩) (by assumption) ?_
                · intro W0 hSw
                  (try dsimp only at hSw)
                  go_simp
                simp only [List.set_cons_zero, List.set_cons_succ]
                refine wpAnyH_done (by kernel_rfl) ?_ _
                refine NoPanic.normal ?_
                go_wp2_with fail
                go_meet
                exact ⟨_, kb, ub, nk', fk', rfl, rfl, HL10.out, KA10.out, HTN.out, HBW.out⟩
              ·
                go_simp
                have KA10 := Lib.hid (show Blk (wc5.alloc (.cells #[.map none, .map none] 34)) (wc5.heap.size) 34 #[.map none, .map none] from Blk.new wc5 34 #[.map none, .map none])
                have HL10 := Lib.hid (show X5.heap.size ≤ wc5.heap.size from HBW.out.size)
                have hbA : Below wc5.heap.size wc5 ((wc5.alloc (.cells #[.map none, .map none] 34))) := bal (bre wc5) (.cells #[.map none, .map none] 34)
                replace HBW := Lib.hid (bstep HBW.out hbA)
                clear hbA
                refine hK.out _ _ ?_ (fun hHeld => ?_)
                · (try dsimp only)
                  exact ⟨(HMK.out.k6.belowS HBW.out).cellV (i := 0) rfl, (HMK.out.k6.belowS HBW.out).cellV (i := 1) rfl⟩
                clear hK K
                refine wpAnyH_ready (rs := [6]) (by kernel_rfl) (by simp) ?_
                refine AllReadyH.cons rfl (fun K hK => ?_) AllReadyH.nil
                go_simp
                refine (tadd_own (.agg #[.map mk, .map mu]) (nodesW (l.take k)) mk mu nk fk (idW k) (idW (f.dw k).P) _ (idW_bd (by omega)) (idW_bd (by have := HPW.out; omega)) (HMK.out.tree.below HBW.out) HPRE.out.1 HPRE.out.2.1 HPRE.out.2.2.1 HPRE.out.2.2.2).mono ?_
                rintro e wc6 ⟨⟨kb, ub, nk', fk', rfl, ht'⟩, hbA⟩
                have e9 : nodesW (l.take k) ++ [(idW (k : Int), idW (f.dw k).P)] = nodesW (l.take (k + 1)) := by rw [HTK.out, nodesW_snoc, HKL.out]
                rw [e9] at ht'
                have HTN := Lib.hid (ht'.lower HBW.out.size)
                clear ht' e9
                replace HBW := Lib.hid (bstep HBW.out hbA)
                replace KA10 := Lib.hid (KA10.out.belowS hbA)
                clear hbA
                go_simp
                refine hK.out _ _ ?_ (fun hHeld => ?_)
                · (try dsimp only)
                  exact ⟨(HMK.out.k6.belowS HBW.out).cellV (i := 0) rfl, (HMK.out.k6.belowS HBW.out).cellV (i := 1) rfl⟩
                clear hK K
                refine Tr.take_at 7 48 (.tuple #[.agg #[.map (some kb), .map (some ub)], .int .i64 0]) rfl rfl (by kernel_rfl) (by kernel_rfl) (by kernel_rfl) (fun _ _ _ h => h) (Or.inl ⟨by rfl, ?_⟩) (by assumption) ?_
                · intro W0 hSw
                  (try dsimp only at hSw)
                  go_simp
                simp only [List.set_cons_zero, List.set_cons_succ]
                refine Tr.take_at 8 56 (.agg #[.map (some kb), .map (some ub)]) rfl rfl (by kernel_rfl) (by kernel_rfl) (by kernel_rfl) (fun _ _ _ h => h) (Or.inl ⟨by rfl, ?_⟩) (by assumption) ?_
                · intro W0 hSw
                  (try dsimp only at hSw)
                  go_simp
                simp only [List.set_cons_zero, List.set_cons_succ]
                refine Tr.take_at 9 57 (.int .i64 0) rfl rfl (by kernel_rfl) (by kernel_rfl) (by kernel_rfl) (fun _ _ _ h => h) (Or.inl ⟨by rfl, ?_⟩) (by assumption) ?_
                · intro W0 hSw
                  (try dsimp only at hSw)
                  go_simp
                simp only [List.set_cons_zero, List.set_cons_succ]
                refine wpAnyH_ready (rs := [11]) (by kernel_rfl) (by simp) ?_
                refine AllReadyH.cons rfl (fun K hK => ?_) AllReadyH.nil
                refine Tr.wanted_plain rfl ?_
                refine store_mid0 rfl 34 _ _ rfl (wc5.heap.size) 0 #[.map (some kb), .map (some ub)] (by rfl) (by rfl) (by have h := there_blk KA10.out; exact h) Tryz.sizeTr (by simp [Value.oneCell']) ?_
                have xK := blk_puts2 (.map (some kb)) (.map (some ub)) KA10.out
                have xB := bsets HBW.out HL10.out (#[.map (some kb), .map (some ub)] : Array Value).toList 0
                have xHTN := (show TreeOwn (World.setCells (wc6) (wc5.heap.size) 0 (#[.map (some kb), .map (some ub)] : Array Value).toList) _ _ _ _ _ _ from (HTN.out.setBlk KA10.out (by decide) 0 (.map (some kb))).setBlk (KA10.out.set_ 0 (.map (some kb))) (by decide) 1 (.map (some ub)))
                obtain ⟨wS11, hwS⟩ : ∃ wS, World.setCells wc6 (wc5.heap.size) 0 (#[.map (some kb), .map (some ub)] : Array Value).toList = wS := ⟨_, rfl⟩
                rw [hwS] at xK xB xHTN ⊢
                replace HBW := Lib.hid xB
                replace KA10 := Lib.hid xK
                replace HTN := Lib.hid xHTN
                clear hwS xK xB xHTN
                refine hK.out _ _ ?_ (fun hHeld => ?_)
                · (try dsimp only)
                  exact ⟨(HMK.out.k6.belowS HBW.out).cellV (i := 0) rfl, (HMK.out.k6.belowS HBW.out).cellV (i := 1) rfl⟩
                clear hK K
                refine Tr.take_at 12 15 (.int .i64 0) rfl rfl (by kernel_rfl) (by kernel_rfl) (by kernel_rfl) (fun _ _ _ h => h) (Or.inl ⟨by rfl, ?_⟩) (by assumption) ?_
                · intro W0 hSw
                  (try dsimp only at hSw)
                  go_simp
                simp only [List.set_cons_zero, List.set_cons_succ]
                refine wpAnyH_done (by kernel_rfl) ?_ _
                refine NoPanic.normal ?_
                go_wp2_with fail
                go_meet
                exact ⟨_, kb, ub, nk', fk', rfl, rfl, HL10.out, KA10.out, HTN.out, HBW.out⟩
            ·
              go_simp
              have KA10 := Lib.hid (show Blk (wc3.alloc (.cells #[.map none, .map none] 34)) (wc3.heap.size) 34 #[.map none, .map none] from Blk.new wc3 34 #[.map none, .map none])
              have HL10 := Lib.hid (show X5.heap.size ≤ wc3.heap.size from HBW.out.size)
              have hbA : Below wc3.heap.size wc3 ((wc3.alloc (.cells #[.map none, .map none] 34))) := bal (bre wc3) (.cells #[.map none, .map none] 34)
              replace HBW := Lib.hid (bstep HBW.out hbA)
              clear hbA
              refine hK.out _ _ ?_ (fun hHeld => ?_)
              · (try dsimp only)
                exact ⟨(HMK.out.k6.belowS HBW.out).cellV (i := 0) rfl, (HMK.out.k6.belowS HBW.out).cellV (i := 1) rfl⟩
              clear hK K
              refine wpAnyH_ready (rs := [5]) (by kernel_rfl) (by simp) ?_
              refine AllReadyH.cons rfl (fun K hK => ?_) AllReadyH.nil
              go_simp
              refine (id37_s (p) (f.dw k).P (HPW.out) _ (by omega)).mono ?_
              rintro e wc5 ⟨rfl, hbA⟩
              replace HBW := Lib.hid (bstep HBW.out hbA)
              replace KA10 := Lib.hid (KA10.out.belowS hbA)
              clear hbA
              go_simp
              refine hK.out _ _ ?_ (fun hHeld => ?_)
              · (try dsimp only)
                exact ⟨(HMK.out.k6.belowS HBW.out).cellV (i := 0) rfl, (HMK.out.k6.belowS HBW.out).cellV (i := 1) rfl⟩
              clear hK K
              refine wpAnyH_ready (rs := [6]) (by kernel_rfl) (by simp) ?_
              refine AllReadyH.cons rfl (fun K hK => ?_) AllReadyH.nil
              go_simp
              refine (tadd_own (.agg #[.map mk, .map mu]) (nodesW (l.take k)) mk mu nk fk (idW k) (idW (f.dw k).P) _ (idW_bd (by omega)) (idW_bd (by have := HPW.out; omega)) (HMK.out.tree.below HBW.out) HPRE.out.1 HPRE.out.2.1 HPRE.out.2.2.1 HPRE.out.2.2.2).mono ?_
              rintro e wc6 ⟨⟨kb, ub, nk', fk', rfl, ht'⟩, hbA⟩
              have e9 : nodesW (l.take k) ++ [(idW (k : Int), idW (f.dw k).P)] = nodesW (l.take (k + 1)) := by rw [HTK.out, nodesW_snoc, HKL.out]
              rw [e9] at ht'
              have HTN := Lib.hid (ht'.lower HBW.out.size)
              clear ht' e9
              replace HBW := Lib.hid (bstep HBW.out hbA)
              replace KA10 := Lib.hid (KA10.out.belowS hbA)
              clear hbA
              go_simp
              refine hK.out _ _ ?_ (fun hHeld => ?_)
              · (try dsimp only)
                exact ⟨(HMK.out.k6.belowS HBW.out).cellV (i := 0) rfl, (HMK.out.k6.belowS HBW.out).cellV (i := 1) rfl⟩
              clear hK K
              refine Tr.take_at 7 48 (.tuple #[.agg #[.map (some kb), .map (some ub)], .int .i64 0]) rfl rfl (by kernel_rfl) (by kernel_rfl) (by kernel_rfl) (fun _ _ _ h => h) (Or.inl ⟨by rfl, ?_⟩) (by assumption) ?_
              · intro W0 hSw
                (try dsimp only at hSw)
                go_simp
              simp only [List.set_cons_zero, List.set_cons_succ]
              refine Tr.take_at 8 56 (.agg #[.map (some kb), .map (some ub)]) rfl rfl (by kernel_rfl) (by kernel_rfl) (by kernel_rfl) (fun _ _ _ h => h) (Or.inl ⟨by rfl, ?_⟩) (by assumption) ?_
              · intro W0 hSw
                (try dsimp only at hSw)
                go_simp
              simp only [List.set_cons_zero, List.set_cons_succ]
              refine Tr.take_at 9 57 (.int .i64 0) rfl rfl (by kernel_rfl) (by kernel_rfl) (by kernel_rfl) (fun _ _ _ h => h) (Or.inl ⟨by rfl, ?_⟩) (by assumption) ?_
              · intro W0 hSw
                (try dsimp only at hSw)
                go_simp
              simp only [List.set_cons_zero, List.set_cons_succ]
              refine wpAnyH_ready (rs := [11]) (by kernel_rfl) (by simp) ?_
              refine AllReadyH.cons rfl (fun K hK => ?_) AllReadyH.nil
              refine Tr.wanted_plain rfl ?_
              refine store_mid0 rfl 34 _ _ rfl (wc3.heap.size) 0 #[.map (some kb), .map (some ub)] (by rfl) (by rfl) (by have h := there_blk KA10.out; exact h) Tryz.sizeTr (by simp [Value.oneCell']) ?_
              have xK := blk_puts2 (.map (some kb)) (.map (some ub)) KA10.out
              have xB := bsets HBW.out HL10.out (#[.map (some kb), .map (some ub)] : Array Value).toList 0
              have xHTN := (show TreeOwn (World.setCells (wc6) (wc3.heap.size) 0 (#[.map (some kb), .map (some ub)] : Array Value).toList) _ _ _ _ _ _ from (HTN.out.setBlk KA10.out (by decide) 0 (.map (some kb))).setBlk (KA10.out.set_ 0 (.map (some kb))) (by decide) 1 (.map (some ub)))
              obtain ⟨wS11, hwS⟩ : ∃ wS, World.setCells wc6 (wc3.heap.size) 0 (#[.map (some kb), .map (some ub)] : Array Value).toList = wS := ⟨_, rfl⟩
              rw [hwS] at xK xB xHTN ⊢
              replace HBW := Lib.hid xB
              replace KA10 := Lib.hid xK
              replace HTN := Lib.hid xHTN
              clear hwS xK xB xHTN
              refine hK.out _ _ ?_ (fun hHeld => ?_)
              · (try dsimp only)
                exact ⟨(HMK.out.k6.belowS HBW.out).cellV (i := 0) rfl, (HMK.out.k6.belowS HBW.out).cellV (i := 1) rfl⟩
              clear hK K
              refine Tr.take_at 12 15 (.int .i64 0) rfl rfl (by kernel_rfl) (by kernel_rfl) (by kernel_rfl) (fun _ _ _ h => h) (Or.inl ⟨by rfl, ?_⟩) (by assumption) ?_
              · intro W0 hSw
                (try dsimp only at hSw)
                go_simp
              simp only [List.set_cons_zero, List.set_cons_succ]
              refine wpAnyH_done (by kernel_rfl) ?_ _
              refine NoPanic.normal ?_
              go_wp2_with fail
              go_meet
              exact ⟨_, kb, ub, nk', fk', rfl, rfl, HL10.out, KA10.out, HTN.out, HBW.out⟩
          ·
            go_simp
            have KA10 := Lib.hid (show Blk (X5.alloc (.cells #[.map none, .map none] 34)).drew (X5.heap.size) 34 #[.map none, .map none] from Blk.new X5.drew 34 #[.map none, .map none])
            have HL10 := Lib.hid (show X5.heap.size ≤ X5.heap.size from HBW.out.size)
            have hbA : Below X5.drew.heap.size X5.drew ((X5.alloc (.cells #[.map none, .map none] 34)).drew) := bal (bre X5.drew) (.cells #[.map none, .map none] 34)
            replace HBW := Lib.hid (bstep HBW.out hbA)
            clear hbA
            refine hK.out _ _ ?_ (fun hHeld => ?_)
            · (try dsimp only)
              exact ⟨(HMK.out.k6.belowS HBW.out).cellV (i := 0) rfl, (HMK.out.k6.belowS HBW.out).cellV (i := 1) rfl⟩
            clear hK K
            refine wpAnyH_ready (rs := [3]) (by kernel_rfl) (by simp) ?_
            refine AllReadyH.cons rfl (fun K hK => ?_) AllReadyH.nil
            go_simp
            refine (id37_s (k + 1) (k : Int) (by omega) _ (by omega)).mono ?_
            rintro e wc3 ⟨rfl, hbA⟩
            replace HBW := Lib.hid (bstep HBW.out hbA)
            replace KA10 := Lib.hid (KA10.out.belowS hbA)
            clear hbA
            go_simp
            refine hK.out _ _ ?_ (fun hHeld => ?_)
            · (try dsimp only)
              exact ⟨(HMK.out.k6.belowS HBW.out).cellV (i := 0) rfl, (HMK.out.k6.belowS HBW.out).cellV (i := 1) rfl⟩
            clear hK K
            refine wpAnyH_ready (rs := [5]) (by kernel_rfl) (by simp) ?_
            refine AllReadyH.cons rfl (fun K hK => ?_) AllReadyH.nil
            go_simp
            refine (id37_s (p) (f.dw k).P (HPW.out) _ (by omega)).mono ?_
            rintro e wc5 ⟨rfl, hbA⟩
            replace HBW := Lib.hid (bstep HBW.out hbA)
            replace KA10 := Lib.hid (KA10.out.belowS hbA)
            clear hbA
            go_simp
            refine hK.out _ _ ?_ (fun hHeld => ?_)
            · (try dsimp only)
              exact ⟨(HMK.out.k6.belowS HBW.out).cellV (i := 0) rfl, (HMK.out.k6.belowS HBW.out).cellV (i := 1) rfl⟩
            clear hK K
            refine wpAnyH_ready (rs := [6]) (by kernel_rfl) (by simp) ?_
            refine AllReadyH.cons rfl (fun K hK => ?_) AllReadyH.nil
            go_simp
            refine (tadd_own (.agg #[.map mk, .map mu]) (nodesW (l.take k)) mk mu nk fk (idW k) (idW (f.dw k).P) _ (idW_bd (by omega)) (idW_bd (by have := HPW.out; omega)) (HMK.out.tree.below HBW.out) HPRE.out.1 HPRE.out.2.1 HPRE.out.2.2.1 HPRE.out.2.2.2).mono ?_
            rintro e wc6 ⟨⟨kb, ub, nk', fk', rfl, ht'⟩, hbA⟩
            have e9 : nodesW (l.take k) ++ [(idW (k : Int), idW (f.dw k).P)] = nodesW (l.take (k + 1)) := by rw [HTK.out, nodesW_snoc, HKL.out]
            rw [e9] at ht'
            have HTN := Lib.hid (ht'.lower HBW.out.size)
            clear ht' e9
            replace HBW := Lib.hid (bstep HBW.out hbA)
            replace KA10 := Lib.hid (KA10.out.belowS hbA)
            clear hbA
            go_simp
            refine hK.out _ _ ?_ (fun hHeld => ?_)
            · (try dsimp only)
              exact ⟨(HMK.out.k6.belowS HBW.out).cellV (i := 0) rfl, (HMK.out.k6.belowS HBW.out).cellV (i := 1) rfl⟩
            clear hK K
            refine Tr.take_at 7 48 (.tuple #[.agg #[.map (some kb), .map (some ub)], .int .i64 0]) rfl rfl (by kernel_rfl) (by kernel_rfl) (by kernel_rfl) (fun _ _ _ h => h) (Or.inl ⟨by rfl, ?_⟩) (by assumption) ?_
            · intro W0 hSw
              (try dsimp only at hSw)
              go_simp
            simp only [List.set_cons_zero, List.set_cons_succ]
            refine Tr.take_at 8 56 (.agg #[.map (some kb), .map (some ub)]) rfl rfl (by kernel_rfl) (by kernel_rfl) (by kernel_rfl) (fun _ _ _ h => h) (Or.inl ⟨by rfl, ?_⟩) (by assumption) ?_
            · intro W0 hSw
              (try dsimp only at hSw)
              go_simp
            simp only [List.set_cons_zero, List.set_cons_succ]
            refine Tr.take_at 9 57 (.int .i64 0) rfl rfl (by kernel_rfl) (by kernel_rfl) (by kernel_rfl) (fun _ _ _ h => h) (Or.inl ⟨by rfl, ?_⟩) (by assumption) ?_
            · intro W0 hSw
              (try dsimp only at hSw)
              go_simp
            simp only [List.set_cons_zero, List.set_cons_succ]
            refine wpAnyH_ready (rs := [11]) (by kernel_rfl) (by simp) ?_
            refine AllReadyH.cons rfl (fun K hK => ?_) AllReadyH.nil
            refine Tr.wanted_plain rfl ?_
            refine store_mid0 rfl 34 _ _ rfl (X5.heap.size) 0 #[.map (some kb), .map (some ub)] (by rfl) (by rfl) (by have h := there_blk KA10.out; exact h) Tryz.sizeTr (by simp [Value.oneCell']) ?_
            have xK := blk_puts2 (.map (some kb)) (.map (some ub)) KA10.out
            have xB := bsets HBW.out HL10.out (#[.map (some kb), .map (some ub)] : Array Value).toList 0
            have xHTN := (show TreeOwn (World.setCells (wc6) (X5.heap.size) 0 (#[.map (some kb), .map (some ub)] : Array Value).toList) _ _ _ _ _ _ from (HTN.out.setBlk KA10.out (by decide) 0 (.map (some kb))).setBlk (KA10.out.set_ 0 (.map (some kb))) (by decide) 1 (.map (some ub)))
            obtain ⟨wS11, hwS⟩ : ∃ wS, World.setCells wc6 (X5.heap.size) 0 (#[.map (some kb), .map (some ub)] : Array Value).toList = wS := ⟨_, rfl⟩
            rw [hwS] at xK xB xHTN ⊢
            replace HBW := Lib.hid xB
            replace KA10 := Lib.hid xK
            replace HTN := Lib.hid xHTN
            clear hwS xK xB xHTN
            refine hK.out _ _ ?_ (fun hHeld => ?_)
            · (try dsimp only)
              exact ⟨(HMK.out.k6.belowS HBW.out).cellV (i := 0) rfl, (HMK.out.k6.belowS HBW.out).cellV (i := 1) rfl⟩
            clear hK K
            refine Tr.take_at 12 15 (.int .i64 0) rfl rfl (by kernel_rfl) (by kernel_rfl) (by kernel_rfl) (fun _ _ _ h => h) (Or.inl ⟨by rfl, ?_⟩) (by assumption) ?_
            · intro W0 hSw
              (try dsimp only at hSw)
              go_simp
            simp only [List.set_cons_zero, List.set_cons_succ]
            refine wpAnyH_done (by kernel_rfl) ?_ _
            refine NoPanic.normal ?_
            go_wp2_with fail
            go_meet
            exact ⟨_, kb, ub, nk', fk', rfl, rfl, HL10.out, KA10.out, HTN.out, HBW.out⟩
      obtain ⟨g14, kb, ub, nk', fk', rfl, rfl, hg14, hk14, ht14, hbc⟩ := hcut
      have K14 := Lib.hid hk14
      have HTN := Lib.hid ht14
      have HG14 := Lib.hid hg14
      replace HB := Lib.hid (bstep HB.out hbc)
      replace HMK := Lib.hid (HMK.out.below hbc)
      replace K2 := Lib.hid (K2.out.belowS hbc)
      replace K3 := Lib.hid (K3.out.belowS hbc)
      replace K12 := Lib.hid (K12.out.belowS hbc)
      have HXC := Lib.hid hbc.size
      clear hbc hg14 hk14 ht14
      have b1 := K12.out.cellV (i := 1) (v := .bool fM) rfl
      have b2 := K12.out.cellV (i := 2) (v := .bool fO) rfl
      obtain ⟨xx, hxx⟩ : ∃ xx : Int, (if fO then 100 else 0) = xx := ⟨_, rfl⟩
      have HXX := Lib.hid hxx
      clear hxx
      go_upto_if 59 with fail
      go_cut [16, 59] from 110 (fun s16 _ wx => s16 = .int .i64 xx ∧ wx = wc)
      case first =>
        as_aux_lemma =>
          have hxx := HXX.out
          cases fO with
          | true =>
            simp only [if_true] at hxx
            go_wp2_with fail
            go_meet
            exact ⟨by rw [← hxx], rfl⟩
          | false =>
            go_wp2_with fail
            go_meet
            exact ⟨by rw [← hxx]; rfl, rfl⟩
      obtain ⟨rfl, rfl⟩ := hcut
      go_upto_region 15 with fail
      go_cut [17, 18] from 110 (fun s17 s18 wx => ∃ (g : Nat) (mp' : Option Nat) (bs' : Bxs), s17 = .pointer (some ⟨g, 0, none⟩) ∧ s18 = .int .i64 0 ∧ wc.heap.size ≤ g ∧ Blk wx g 37 #[.map mp'] ∧ PlaceIs wx (.agg #[.map mp']) (k + 1 + 1) bs' ∧ SceneIs wx bs' 8 8 (l.take (k + 1)) ∧ Below wc.heap.size wc wx)
      case first =>
        as_aux_lemma =>
          have HBW := Lib.hid (show Below wc.heap.size wc wc.drew from (bre wc).drew)
          refine wp_region_noPanic ?_
          refine wp_region_held_drew (S := (fun w' => w'.cell? ⟨w2.heap.size, 0, none⟩ = some (.map mp) ∧ w'.cell? ⟨wr.heap.size, 1, none⟩ = some (.bool fM))) (by kernel_rfl) ?_ (fun hHeld => ?_)
          · (try dsimp only)
            exact ⟨(HMK.out.k7.belowS HBW.out).cellV (i := 0) rfl, (K12.out.belowS HBW.out).cellV (i := 1) rfl⟩
          refine Tr.take_at 0 61 (.agg #[.map mp]) rfl rfl (by kernel_rfl) (by kernel_rfl) (by kernel_rfl) (fun _ _ _ h => h) (Or.inl ⟨by rfl, ?_⟩) (by assumption) ?_
          · intro W0 hSw
            (try dsimp only at hSw)
            go_simp
          simp only [List.set_cons_zero, List.set_cons_succ]
          refine Tr.take_at 1 62 (.int .i64 k) rfl rfl (by kernel_rfl) (by kernel_rfl) (by kernel_rfl) (fun _ _ _ h => h) (Or.inl ⟨by rfl, ?_⟩) (by assumption) ?_
          · intro W0 hSw
            (try dsimp only at hSw)
            go_simp
          simp only [List.set_cons_zero, List.set_cons_succ]
          refine Tr.take_at 2 63 (.int .i64 ((k + 1 : Nat) : Int)) rfl rfl (by kernel_rfl) (by kernel_rfl) (by kernel_rfl) (fun _ _ _ h => h) (Or.inl ⟨by rfl, ?_⟩) (by assumption) ?_
          · intro W0 hSw
            (try dsimp only at hSw)
            go_simp
          simp only [List.set_cons_zero, List.set_cons_succ]
          refine Tr.take_at 4 65 (.int .i64 xx) rfl rfl (by kernel_rfl) (by kernel_rfl) (by kernel_rfl) (fun _ _ _ h => h) (Or.inl ⟨by rfl, ?_⟩) (by assumption) ?_
          · intro W0 hSw
            (try dsimp only at hSw)
            go_simp
          simp only [List.set_cons_zero, List.set_cons_succ]
          refine Tr.take_at 5 66 (.pointer (some ⟨wr.heap.size, 1, none⟩)) rfl rfl (by kernel_rfl) (by kernel_rfl) (by kernel_rfl) (fun _ _ _ h => h) (Or.inl ⟨by rfl, ?_⟩) (by assumption) ?_
          · intro W0 hSw
            (try dsimp only at hSw)
            go_simp
          simp only [List.set_cons_zero, List.set_cons_succ]
          refine Tr.take_at 6 67 (.bool fM) rfl rfl (by kernel_rfl) (by kernel_rfl) (by kernel_rfl) (fun _ _ _ h => h) (Or.inl ⟨by rfl, ?_⟩) (by assumption) ?_
          · intro W0 hSw
            (try dsimp only at hSw)
            go_simp
          simp only [List.set_cons_zero, List.set_cons_succ]
          refine Tr.take_at 7 68 (.agg #[.int .i64 xx, .int .i64 0, .int .i64 8, .int .i64 8, .bool fM, .int .i64 0, .int .i64 0, .bool false, .slice none 0 0]) rfl rfl (by kernel_rfl) (by kernel_rfl) (by kernel_rfl) (fun _ _ _ h => h) (Or.inl ⟨by rfl, ?_⟩) (by assumption) ?_
          · intro W0 hSw
            apply y_build
            as_aux_lemma => kernel_rfl
          simp only [List.set_cons_zero, List.set_cons_succ]
          refine wpAnyH_ready (rs := [3, 12]) (by kernel_rfl) (by simp) ?_
          refine AllReadyH.cons rfl (fun K hK => ?_) (AllReadyH.cons rfl (fun K hK => ?_) AllReadyH.nil)
          ·
            go_simp
            refine (id37_s (k + 1) (k : Int) (by omega) _ (by omega)).mono ?_
            rintro e wc3 ⟨rfl, hbA⟩
            replace HBW := Lib.hid (bstep HBW.out hbA)
            clear hbA
            go_simp
            refine hK.out _ _ ?_ (fun hHeld => ?_)
            · (try dsimp only)
              exact ⟨(HMK.out.k7.belowS HBW.out).cellV (i := 0) rfl, (K12.out.belowS HBW.out).cellV (i := 1) rfl⟩
            clear hK K
            refine wpAnyH_ready (rs := [8, 12]) (by kernel_rfl) (by simp) ?_
            refine AllReadyH.cons rfl (fun K hK => ?_) (AllReadyH.cons rfl (fun K hK => ?_) AllReadyH.nil)
            ·
              go_simp
              have hsc := HMK.out.scene.below HBW.out
              have hD := HDW.out _ (List.mem_of_getElem? HD.out)
              have hbo := fun (W : World) => (show BoxOf W (f.dw k) (⟨xx, 0, 8, 8, fM, 0, 0, false, none, 0, 0⟩ : BX) by
                rw [← HXX.out, ← HFO.out, ← HFM.out]
                exact box_of (co := 0) (out := []) (Ao := none) hD ⟨rfl, fun h => absurd h (by decide)⟩ canon_nilV (fun x y => ⟨fun ⟨r, h, _⟩ => (by cases h), fun ⟨r, h, _⟩ => (by rw [show (f.dw k).sh = [] from rfl] at h; cases h)⟩) (by simp))
              have hset := setC_W hsc (by rw [HKL.out]; omega) hD (hbo _) ⟨rfl, rfl⟩ (fun _ => rfl)
              have hfr := hsc.fresh
              rw [HKL.out] at hset hfr
              refine (pset_any (.agg #[.map mp]) (k + 1) bs (idW k) (⟨xx, 0, 8, 8, fM, 0, 0, false, none, 0, 0⟩ : BX) _ (idW_bd (by omega)) (by omega) (HMK.out.place.below HBW.out) (fun h => by omega)).mono ?_
              rintro e wc8 ⟨pv', rfl, hp', hbA⟩
              have e1 : setN bs (k + 1) (idW k) (⟨xx, 0, 8, 8, fM, 0, 0, false, none, 0, 0⟩ : BX) = k + 1 + 1 := by unfold setN; rw [hset, if_pos rfl, hfr]; rfl
              have e2 : setB bs (k + 1) (idW k) (⟨xx, 0, 8, 8, fM, 0, 0, false, none, 0, 0⟩ : BX) = fun j => if j = idW k then some (⟨xx, 0, 8, 8, fM, 0, 0, false, none, 0, 0⟩ : BX) else bs j := by unfold setB; rw [hset, if_pos rfl]
              rw [hset]
              rw [e1, e2] at hp'
              have hsn := (hsc.below hbA).snoc (hbo _)
              rw [HKL.out, ← HTK.out] at hsn
              have HSN := Lib.hid hsn
              have HPN := Lib.hid hp'
              obtain ⟨mp', rfl, _⟩ := hp'
              clear hsc hset hfr e1 e2 hsn hbo
              replace HBW := Lib.hid (bstep HBW.out hbA)
              clear hbA
              go_simp
              refine hK.out _ _ ?_ (fun hHeld => ?_)
              · (try dsimp only)
                exact ⟨(HMK.out.k7.belowS HBW.out).cellV (i := 0) rfl, (K12.out.belowS HBW.out).cellV (i := 1) rfl⟩
              clear hK K
              refine Tr.take_at 9 60 (.tuple #[.agg #[.map mp'], .int .i64 0]) rfl rfl (by kernel_rfl) (by kernel_rfl) (by kernel_rfl) (fun _ _ _ h => h) (Or.inl ⟨by rfl, ?_⟩) (by assumption) ?_
              · intro W0 hSw
                (try dsimp only at hSw)
                go_simp
              simp only [List.set_cons_zero, List.set_cons_succ]
              refine Tr.take_at 10 70 (.agg #[.map mp']) rfl rfl (by kernel_rfl) (by kernel_rfl) (by kernel_rfl) (fun _ _ _ h => h) (Or.inl ⟨by rfl, ?_⟩) (by assumption) ?_
              · intro W0 hSw
                (try dsimp only at hSw)
                go_simp
              simp only [List.set_cons_zero, List.set_cons_succ]
              refine Tr.take_at 11 71 (.int .i64 0) rfl rfl (by kernel_rfl) (by kernel_rfl) (by kernel_rfl) (fun _ _ _ h => h) (Or.inl ⟨by rfl, ?_⟩) (by assumption) ?_
              · intro W0 hSw
                (try dsimp only at hSw)
                go_simp
              simp only [List.set_cons_zero, List.set_cons_succ]
              refine wpAnyH_ready (rs := [12]) (by kernel_rfl) (by simp) ?_
              refine AllReadyH.cons rfl (fun K hK => ?_) AllReadyH.nil
              go_simp
              have KA12 := Lib.hid (show Blk (wc8.alloc (.cells #[.map none] 37)) (wc8.heap.size) 37 #[.map none] from Blk.new wc8 37 #[.map none])
              have HL12 := Lib.hid (show wc.heap.size ≤ wc8.heap.size from HBW.out.size)
              have hbA : Below wc8.heap.size wc8 ((wc8.alloc (.cells #[.map none] 37))) := bal (bre wc8) (.cells #[.map none] 37)
              replace HBW := Lib.hid (bstep HBW.out hbA)
              replace HSN := Lib.hid (HSN.out.below hbA)
              replace HPN := Lib.hid (HPN.out.below hbA)
              clear hbA
              refine hK.out _ _ ?_ (fun hHeld => ?_)
              · (try dsimp only)
                exact ⟨(HMK.out.k7.belowS HBW.out).cellV (i := 0) rfl, (K12.out.belowS HBW.out).cellV (i := 1) rfl⟩
              clear hK K
              refine wpAnyH_ready (rs := [13]) (by kernel_rfl) (by simp) ?_
              refine AllReadyH.cons rfl (fun K hK => ?_) AllReadyH.nil
              refine Tr.wanted_plain rfl ?_
              refine store_mid0 rfl 37 _ _ rfl (wc8.heap.size) 0 #[.map mp'] (by rfl) (by rfl) (by have h := there_blk KA12.out; exact h) Tryz.sizePl (by simp [Value.oneCell']) ?_
              have xK := blk_puts1 (.map mp') KA12.out
              have xB := bsets HBW.out HL12.out (#[.map mp'] : Array Value).toList 0
              have xHPN := (show PlaceIs (World.setCells (wc8.alloc (.cells #[.map none] 37)) (wc8.heap.size) 0 (#[.map mp'] : Array Value).toList) (.agg #[.map mp']) (k + 1 + 1) _ from HPN.out.setBlk KA12.out 0 (.map mp'))
              have xHSN := (show SceneIs (World.setCells (wc8.alloc (.cells #[.map none] 37)) (wc8.heap.size) 0 (#[.map mp'] : Array Value).toList) _ 8 8 (l.take (k + 1)) from HSN.out.keepG (grown_setCell _ ⟨wc8.heap.size, 0, none⟩ (.map mp')) KA12.out.noInt1)
              obtain ⟨wS13, hwS⟩ : ∃ wS, World.setCells (wc8.alloc (.cells #[.map none] 37)) (wc8.heap.size) 0 (#[.map mp'] : Array Value).toList = wS := ⟨_, rfl⟩
              rw [hwS] at xK xB xHPN xHSN ⊢
              replace HBW := Lib.hid xB
              replace KA12 := Lib.hid xK
              replace HPN := Lib.hid xHPN
              replace HSN := Lib.hid xHSN
              clear hwS xK xB xHPN xHSN
              refine hK.out _ _ ?_ (fun hHeld => ?_)
              · (try dsimp only)
                exact ⟨(HMK.out.k7.belowS HBW.out).cellV (i := 0) rfl, (K12.out.belowS HBW.out).cellV (i := 1) rfl⟩
              clear hK K
              refine Tr.take_at 14 18 (.int .i64 0) rfl rfl (by kernel_rfl) (by kernel_rfl) (by kernel_rfl) (fun _ _ _ h => h) (Or.inl ⟨by rfl, ?_⟩) (by assumption) ?_
              · intro W0 hSw
                (try dsimp only at hSw)
                go_simp
              simp only [List.set_cons_zero, List.set_cons_succ]
              refine wpAnyH_done (by kernel_rfl) ?_ _
              refine NoPanic.normal ?_
              go_wp2_with fail
              go_meet
              exact ⟨_, mp', _, rfl, rfl, HL12.out, KA12.out, HPN.out, HSN.out, HBW.out⟩
            ·
              go_simp
              have KA12 := Lib.hid (show Blk (wc3.alloc (.cells #[.map none] 37)) (wc3.heap.size) 37 #[.map none] from Blk.new wc3 37 #[.map none])
              have HL12 := Lib.hid (show wc.heap.size ≤ wc3.heap.size from HBW.out.size)
              have hbA : Below wc3.heap.size wc3 ((wc3.alloc (.cells #[.map none] 37))) := bal (bre wc3) (.cells #[.map none] 37)
              replace HBW := Lib.hid (bstep HBW.out hbA)
              clear hbA
              refine hK.out _ _ ?_ (fun hHeld => ?_)
              · (try dsimp only)
                exact ⟨(HMK.out.k7.belowS HBW.out).cellV (i := 0) rfl, (K12.out.belowS HBW.out).cellV (i := 1) rfl⟩
              clear hK K
              refine wpAnyH_ready (rs := [8]) (by kernel_rfl) (by simp) ?_
              refine AllReadyH.cons rfl (fun K hK => ?_) AllReadyH.nil
              go_simp
              have hsc := HMK.out.scene.below HBW.out
              have hD := HDW.out _ (List.mem_of_getElem? HD.out)
              have hbo := fun (W : World) => (show BoxOf W (f.dw k) (⟨xx, 0, 8, 8, fM, 0, 0, false, none, 0, 0⟩ : BX) by
                rw [← HXX.out, ← HFO.out, ← HFM.out]
                exact box_of (co := 0) (out := []) (Ao := none) hD ⟨rfl, fun h => absurd h (by decide)⟩ canon_nilV (fun x y => ⟨fun ⟨r, h, _⟩ => (by cases h), fun ⟨r, h, _⟩ => (by rw [show (f.dw k).sh = [] from rfl] at h; cases h)⟩) (by simp))
              have hset := setC_W hsc (by rw [HKL.out]; omega) hD (hbo _) ⟨rfl, rfl⟩ (fun _ => rfl)
              have hfr := hsc.fresh
              rw [HKL.out] at hset hfr
              refine (pset_any (.agg #[.map mp]) (k + 1) bs (idW k) (⟨xx, 0, 8, 8, fM, 0, 0, false, none, 0, 0⟩ : BX) _ (idW_bd (by omega)) (by omega) (HMK.out.place.below HBW.out) (fun h => by omega)).mono ?_
              rintro e wc8 ⟨pv', rfl, hp', hbA⟩
              have e1 : setN bs (k + 1) (idW k) (⟨xx, 0, 8, 8, fM, 0, 0, false, none, 0, 0⟩ : BX) = k + 1 + 1 := by unfold setN; rw [hset, if_pos rfl, hfr]; rfl
              have e2 : setB bs (k + 1) (idW k) (⟨xx, 0, 8, 8, fM, 0, 0, false, none, 0, 0⟩ : BX) = fun j => if j = idW k then some (⟨xx, 0, 8, 8, fM, 0, 0, false, none, 0, 0⟩ : BX) else bs j := by unfold setB; rw [hset, if_pos rfl]
              rw [hset]
              rw [e1, e2] at hp'
              have hsn := (hsc.below hbA).snoc (hbo _)
              rw [HKL.out, ← HTK.out] at hsn
              have HSN := Lib.hid hsn
              have HPN := Lib.hid hp'
              obtain ⟨mp', rfl, _⟩ := hp'
              clear hsc hset hfr e1 e2 hsn hbo
              replace HBW := Lib.hid (bstep HBW.out hbA)
              replace KA12 := Lib.hid (KA12.out.belowS hbA)
              clear hbA
              go_simp
              refine hK.out _ _ ?_ (fun hHeld => ?_)
              · (try dsimp only)
                exact ⟨(HMK.out.k7.belowS HBW.out).cellV (i := 0) rfl, (K12.out.belowS HBW.out).cellV (i := 1) rfl⟩
              clear hK K
              refine Tr.take_at 9 60 (.tuple #[.agg #[.map mp'], .int .i64 0]) rfl rfl (by kernel_rfl) (by kernel_rfl) (by kernel_rfl) (fun _ _ _ h => h) (Or.inl ⟨by rfl, ?_⟩) (by assumption) ?_
              · intro W0 hSw
                (try dsimp only at hSw)
                go_simp
              simp only [List.set_cons_zero, List.set_cons_succ]
              refine Tr.take_at 10 70 (.agg #[.map mp']) rfl rfl (by kernel_rfl) (by kernel_rfl) (by kernel_rfl) (fun _ _ _ h => h) (Or.inl ⟨by rfl, ?_⟩) (by assumption) ?_
              · intro W0 hSw
                (try dsimp only at hSw)
                go_simp
              simp only [List.set_cons_zero, List.set_cons_succ]
              refine Tr.take_at 11 71 (.int .i64 0) rfl rfl (by kernel_rfl) (by kernel_rfl) (by kernel_rfl) (fun _ _ _ h => h) (Or.inl ⟨by rfl, ?_⟩) (by assumption) ?_
              · intro W0 hSw
                (try dsimp only at hSw)
                go_simp
              simp only [List.set_cons_zero, List.set_cons_succ]
              refine wpAnyH_ready (rs := [13]) (by kernel_rfl) (by simp) ?_
              refine AllReadyH.cons rfl (fun K hK => ?_) AllReadyH.nil
              refine Tr.wanted_plain rfl ?_
              refine store_mid0 rfl 37 _ _ rfl (wc3.heap.size) 0 #[.map mp'] (by rfl) (by rfl) (by have h := there_blk KA12.out; exact h) Tryz.sizePl (by simp [Value.oneCell']) ?_
              have xK := blk_puts1 (.map mp') KA12.out
              have xB := bsets HBW.out HL12.out (#[.map mp'] : Array Value).toList 0
              have xHPN := (show PlaceIs (World.setCells (wc8) (wc3.heap.size) 0 (#[.map mp'] : Array Value).toList) (.agg #[.map mp']) (k + 1 + 1) _ from HPN.out.setBlk KA12.out 0 (.map mp'))
              have xHSN := (show SceneIs (World.setCells (wc8) (wc3.heap.size) 0 (#[.map mp'] : Array Value).toList) _ 8 8 (l.take (k + 1)) from HSN.out.keepG (grown_setCell _ ⟨wc3.heap.size, 0, none⟩ (.map mp')) KA12.out.noInt1)
              obtain ⟨wS13, hwS⟩ : ∃ wS, World.setCells wc8 (wc3.heap.size) 0 (#[.map mp'] : Array Value).toList = wS := ⟨_, rfl⟩
              rw [hwS] at xK xB xHPN xHSN ⊢
              replace HBW := Lib.hid xB
              replace KA12 := Lib.hid xK
              replace HPN := Lib.hid xHPN
              replace HSN := Lib.hid xHSN
              clear hwS xK xB xHPN xHSN
              refine hK.out _ _ ?_ (fun hHeld => ?_)
              · (try dsimp only)
                exact ⟨(HMK.out.k7.belowS HBW.out).cellV (i := 0) rfl, (K12.out.belowS HBW.out).cellV (i := 1) rfl⟩
              clear hK K
              refine Tr.take_at 14 18 (.int .i64 0) rfl rfl (by kernel_rfl) (by kernel_rfl) (by kernel_rfl) (fun _ _ _ h => h) (Or.inl ⟨by rfl, ?_⟩) (by assumption) ?_
              · intro W0 hSw
                (try dsimp only at hSw)
                go_simp
              simp only [List.set_cons_zero, List.set_cons_succ]
              refine wpAnyH_done (by kernel_rfl) ?_ _
              refine NoPanic.normal ?_
              go_wp2_with fail
              go_meet
              exact ⟨_, mp', _, rfl, rfl, HL12.out, KA12.out, HPN.out, HSN.out, HBW.out⟩
          ·
            go_simp
            have KA12 := Lib.hid (show Blk (wc.alloc (.cells #[.map none] 37)).drew (wc.heap.size) 37 #[.map none] from Blk.new wc.drew 37 #[.map none])
            have HL12 := Lib.hid (show wc.heap.size ≤ wc.heap.size from HBW.out.size)
            have hbA : Below wc.drew.heap.size wc.drew ((wc.alloc (.cells #[.map none] 37)).drew) := bal (bre wc.drew) (.cells #[.map none] 37)
            replace HBW := Lib.hid (bstep HBW.out hbA)
            clear hbA
            refine hK.out _ _ ?_ (fun hHeld => ?_)
            · (try dsimp only)
              exact ⟨(HMK.out.k7.belowS HBW.out).cellV (i := 0) rfl, (K12.out.belowS HBW.out).cellV (i := 1) rfl⟩
            clear hK K
            refine wpAnyH_ready (rs := [3]) (by kernel_rfl) (by simp) ?_
            refine AllReadyH.cons rfl (fun K hK => ?_) AllReadyH.nil
            go_simp
            refine (id37_s (k + 1) (k : Int) (by omega) _ (by omega)).mono ?_
            rintro e wc3 ⟨rfl, hbA⟩
            replace HBW := Lib.hid (bstep HBW.out hbA)
            replace KA12 := Lib.hid (KA12.out.belowS hbA)
            clear hbA
            go_simp
            refine hK.out _ _ ?_ (fun hHeld => ?_)
            · (try dsimp only)
              exact ⟨(HMK.out.k7.belowS HBW.out).cellV (i := 0) rfl, (K12.out.belowS HBW.out).cellV (i := 1) rfl⟩
            clear hK K
            refine wpAnyH_ready (rs := [8]) (by kernel_rfl) (by simp) ?_
            refine AllReadyH.cons rfl (fun K hK => ?_) AllReadyH.nil
            go_simp
            have hsc := HMK.out.scene.below HBW.out
            have hD := HDW.out _ (List.mem_of_getElem? HD.out)
            have hbo := fun (W : World) => (show BoxOf W (f.dw k) (⟨xx, 0, 8, 8, fM, 0, 0, false, none, 0, 0⟩ : BX) by
              rw [← HXX.out, ← HFO.out, ← HFM.out]
              exact box_of (co := 0) (out := []) (Ao := none) hD ⟨rfl, fun h => absurd h (by decide)⟩ canon_nilV (fun x y => ⟨fun ⟨r, h, _⟩ => (by cases h), fun ⟨r, h, _⟩ => (by rw [show (f.dw k).sh = [] from rfl] at h; cases h)⟩) (by simp))
            have hset := setC_W hsc (by rw [HKL.out]; omega) hD (hbo _) ⟨rfl, rfl⟩ (fun _ => rfl)
            have hfr := hsc.fresh
            rw [HKL.out] at hset hfr
            refine (pset_any (.agg #[.map mp]) (k + 1) bs (idW k) (⟨xx, 0, 8, 8, fM, 0, 0, false, none, 0, 0⟩ : BX) _ (idW_bd (by omega)) (by omega) (HMK.out.place.below HBW.out) (fun h => by omega)).mono ?_
            rintro e wc8 ⟨pv', rfl, hp', hbA⟩
            have e1 : setN bs (k + 1) (idW k) (⟨xx, 0, 8, 8, fM, 0, 0, false, none, 0, 0⟩ : BX) = k + 1 + 1 := by unfold setN; rw [hset, if_pos rfl, hfr]; rfl
            have e2 : setB bs (k + 1) (idW k) (⟨xx, 0, 8, 8, fM, 0, 0, false, none, 0, 0⟩ : BX) = fun j => if j = idW k then some (⟨xx, 0, 8, 8, fM, 0, 0, false, none, 0, 0⟩ : BX) else bs j := by unfold setB; rw [hset, if_pos rfl]
            rw [hset]
            rw [e1, e2] at hp'
            have hsn := (hsc.below hbA).snoc (hbo _)
            rw [HKL.out, ← HTK.out] at hsn
            have HSN := Lib.hid hsn
            have HPN := Lib.hid hp'
            obtain ⟨mp', rfl, _⟩ := hp'
            clear hsc hset hfr e1 e2 hsn hbo
            replace HBW := Lib.hid (bstep HBW.out hbA)
            replace KA12 := Lib.hid (KA12.out.belowS hbA)
            clear hbA
            go_simp
            refine hK.out _ _ ?_ (fun hHeld => ?_)
            · (try dsimp only)
              exact ⟨(HMK.out.k7.belowS HBW.out).cellV (i := 0) rfl, (K12.out.belowS HBW.out).cellV (i := 1) rfl⟩
            clear hK K
            refine Tr.take_at 9 60 (.tuple #[.agg #[.map mp'], .int .i64 0]) rfl rfl (by kernel_rfl) (by kernel_rfl) (by kernel_rfl) (fun _ _ _ h => h) (Or.inl ⟨by rfl, ?_⟩) (by assumption) ?_
            · intro W0 hSw
              (try dsimp only at hSw)
              go_simp
            simp only [List.set_cons_zero, List.set_cons_succ]
            refine Tr.take_at 10 70 (.agg #[.map mp']) rfl rfl (by kernel_rfl) (by kernel_rfl) (by kernel_rfl) (fun _ _ _ h => h) (Or.inl ⟨by rfl, ?_⟩) (by assumption) ?_
            · intro W0 hSw
              (try dsimp only at hSw)
              go_simp
            simp only [List.set_cons_zero, List.set_cons_succ]
            refine Tr.take_at 11 71 (.int .i64 0) rfl rfl (by kernel_rfl) (by kernel_rfl) (by kernel_rfl) (fun _ _ _ h => h) (Or.inl ⟨by rfl, ?_⟩) (by assumption) ?_
            · intro W0 hSw
              (try dsimp only at hSw)
              go_simp
            simp only [List.set_cons_zero, List.set_cons_succ]
            refine wpAnyH_ready (rs := [13]) (by kernel_rfl) (by simp) ?_
            refine AllReadyH.cons rfl (fun K hK => ?_) AllReadyH.nil
            refine Tr.wanted_plain rfl ?_
            refine store_mid0 rfl 37 _ _ rfl (wc.heap.size) 0 #[.map mp'] (by rfl) (by rfl) (by have h := there_blk KA12.out; exact h) Tryz.sizePl (by simp [Value.oneCell']) ?_
            have xK := blk_puts1 (.map mp') KA12.out
            have xB := bsets HBW.out HL12.out (#[.map mp'] : Array Value).toList 0
            have xHPN := (show PlaceIs (World.setCells (wc8) (wc.heap.size) 0 (#[.map mp'] : Array Value).toList) (.agg #[.map mp']) (k + 1 + 1) _ from HPN.out.setBlk KA12.out 0 (.map mp'))
            have xHSN := (show SceneIs (World.setCells (wc8) (wc.heap.size) 0 (#[.map mp'] : Array Value).toList) _ 8 8 (l.take (k + 1)) from HSN.out.keepG (grown_setCell _ ⟨wc.heap.size, 0, none⟩ (.map mp')) KA12.out.noInt1)
            obtain ⟨wS13, hwS⟩ : ∃ wS, World.setCells wc8 (wc.heap.size) 0 (#[.map mp'] : Array Value).toList = wS := ⟨_, rfl⟩
            rw [hwS] at xK xB xHPN xHSN ⊢
            replace HBW := Lib.hid xB
            replace KA12 := Lib.hid xK
            replace HPN := Lib.hid xHPN
            replace HSN := Lib.hid xHSN
            clear hwS xK xB xHPN xHSN
            refine hK.out _ _ ?_ (fun hHeld => ?_)
            · (try dsimp only)
              exact ⟨(HMK.out.k7.belowS HBW.out).cellV (i := 0) rfl, (K12.out.belowS HBW.out).cellV (i := 1) rfl⟩
            clear hK K
            refine Tr.take_at 14 18 (.int .i64 0) rfl rfl (by kernel_rfl) (by kernel_rfl) (by kernel_rfl) (fun _ _ _ h => h) (Or.inl ⟨by rfl, ?_⟩) (by assumption) ?_
            · intro W0 hSw
              (try dsimp only at hSw)
              go_simp
            simp only [List.set_cons_zero, List.set_cons_succ]
            refine wpAnyH_done (by kernel_rfl) ?_ _
            refine NoPanic.normal ?_
            go_wp2_with fail
            go_meet
            exact ⟨_, mp', _, rfl, rfl, HL12.out, KA12.out, HPN.out, HSN.out, HBW.out⟩
      obtain ⟨g17, mp', bs', rfl, rfl, hg17, hk17, hp17, hs17, hbd⟩ := hcut
      have K17 := Lib.hid hk17
      have HPN := Lib.hid hp17
      have HSN := Lib.hid hs17
      have O9 := Lib.hid HMK.out.own9
      have O10 := Lib.hid HMK.out.own10
      have K6 := Lib.hid HMK.out.k6
      have K7 := Lib.hid HMK.out.k7
      have HG17 := Lib.hid hg17
      replace HB := Lib.hid (bstep HB.out hbd)
      replace K2 := Lib.hid (K2.out.belowS hbd)
      replace K3 := Lib.hid (K3.out.belowS hbd)
      replace K12 := Lib.hid (K12.out.belowS hbd)
      replace K14 := Lib.hid (K14.out.belowS hbd)
      replace K6 := Lib.hid (K6.out.belowS hbd)
      replace K7 := Lib.hid (K7.out.belowS hbd)
      replace HTN := Lib.hid (HTN.out.below hbd)
      replace O9 := Lib.hid (ownsRow_below O9.out hbd)
      replace O10 := Lib.hid (ownsRow_below O10.out hbd)
      clear hbd hg17 hk17 hp17 hs17 HMK b1 b2
      have HLT' := HLT.out
      have q14a := K14.out.cellV (i := 0) (v := .map (some kb)) rfl
      have q14b := K14.out.cellV (i := 1) (v := .map (some ub)) rfl
      have q17 := K17.out.cellV (i := 0) (v := .map mp') rfl
      have q6a := K6.out.cellV (i := 0) (v := .map mk) rfl
      have q6b := K6.out.cellV (i := 1) (v := .map mu) rfl
      have q7 := K7.out.cellV (i := 0) (v := .map mp) rfl
      have f6a := K6.out.frozen 0
      have f6b := K6.out.frozen 1
      have f7 := K7.out.frozen 0
      have l6 := K6.out.lt
      have l7 := K7.out.lt
      have hL6 := HL6.out
      have hL7 := HL7.out
      have hg14 := HG14.out
      have hg17 := HG17.out
      have hxc := HXC.out
      have hx5 := HX5.out
      have ne1 : w1.heap.size ≠ w2.heap.size := by omega
      have ne2 : g14 ≠ w1.heap.size := by omega
      have ne3 : g14 ≠ w2.heap.size := by omega
      have ne4 : g17 ≠ w1.heap.size := by omega
      have ne5 : g17 ≠ w2.heap.size := by omega
      go_upto_region 18 with fail
      go_region
      have HSK := Lib.hid (show ∀ d ∈ l.take (k + 1), d.sh = [] from fun d hd => HSH.out d (List.mem_of_mem_take hd))
      obtain ⟨W9, hW9⟩ : ∃ W9, (((wc.setCell ⟨w1.heap.size, 0, none⟩ (.map (some kb))).setCell ⟨w1.heap.size, 1, none⟩ (.map (some ub))).setCell ⟨w2.heap.size, 0, none⟩ (.map mp')).drew = W9 := ⟨_, rfl⟩
      have xMN := mn_start K6.out K7.out ne1 HTN.out HPN.out HSN.out HSK.out hW9
      have x2 := (((K2.out.far (p := ⟨w1.heap.size, 0, none⟩) (by show _ ≠ _; simp only; omega) (.map (some kb))).far (p := ⟨w1.heap.size, 1, none⟩) (by show _ ≠ _; simp only; omega) (.map (some ub))).far (p := ⟨w2.heap.size, 0, none⟩) (by show _ ≠ _; simp only; omega) (.map mp')).drewT
      have x3 := (((K3.out.far (p := ⟨w1.heap.size, 0, none⟩) (by show _ ≠ _; simp only; omega) (.map (some kb))).far (p := ⟨w1.heap.size, 1, none⟩) (by show _ ≠ _; simp only; omega) (.map (some ub))).far (p := ⟨w2.heap.size, 0, none⟩) (by show _ ≠ _; simp only; omega) (.map mp')).drewT
      have x12 := (((K12.out.far (p := ⟨w1.heap.size, 0, none⟩) (by show _ ≠ _; simp only; omega) (.map (some kb))).far (p := ⟨w1.heap.size, 1, none⟩) (by show _ ≠ _; simp only; omega) (.map (some ub))).far (p := ⟨w2.heap.size, 0, none⟩) (by show _ ≠ _; simp only; omega) (.map mp')).drewT
      have x9 := ownsRow_below (own_far (own_far (own_far O9.out (p := ⟨w1.heap.size, 0, none⟩) (by show w1.heap.size < _; omega) (.map (some kb))) (p := ⟨w1.heap.size, 1, none⟩) (by show w1.heap.size < _; omega) (.map (some ub))) (p := ⟨w2.heap.size, 0, none⟩) (by show w2.heap.size < _; omega) (.map mp')) (bre _).drew
      have x10 := ownsRow_below (own_far (own_far (own_far O10.out (p := ⟨w1.heap.size, 0, none⟩) (by show w1.heap.size < _; omega) (.map (some kb))) (p := ⟨w1.heap.size, 1, none⟩) (by show w1.heap.size < _; omega) (.map (some ub))) (p := ⟨w2.heap.size, 0, none⟩) (by show w2.heap.size < _; omega) (.map mp')) (bre _).drew
      have xB := (bset (p := ⟨w2.heap.size, 0, none⟩) (bset (p := ⟨w1.heap.size, 1, none⟩) (bset (p := ⟨w1.heap.size, 0, none⟩) HB.out (by show w.heap.size ≤ w1.heap.size; omega) (.map (some kb))) (by show w.heap.size ≤ w1.heap.size; omega) (.map (some ub))) (by show w.heap.size ≤ w2.heap.size; omega) (.map mp')).drew
      have xsz : wc.heap.size ≤ W9.heap.size := by rw [← hW9]; simp
      rw [hW9] at x2 x3 x12 x9 x10 xB ⊢
      have HMN := Lib.hid xMN
      replace K2 := Lib.hid x2
      replace K3 := Lib.hid x3
      replace K12 := Lib.hid x12
      replace O9 := Lib.hid x9
      replace O10 := Lib.hid x10
      replace HB := Lib.hid xB
      have HSZ := Lib.hid xsz
      clear HLT' q6a q6b q7 hx5 hxc q14a q14b q17 f6a f6b f7 l6 l7 hL6 hL7 hg14 hg17 ne2 ne3 ne4 ne5 ne1 xMN x2 x3 x12 x9 x10 xB xsz hW9 K6 K7 K14 K17 HTN HPN HSN
      have HISA := Lib.hid (show isAt l (k + 1) = (fM && isAt l p) from by rw [← HFM.out]; exact isAt_succ HUP.out HD.out HPW.out)
      obtain ⟨bv, hbv⟩ : ∃ bv, isAt l (k + 1) = bv := ⟨_, rfl⟩
      have HBV := Lib.hid hbv
      clear hbv
      obtain ⟨b10, o10, rfl, hl10, hc10⟩ := (Rd.of_own O10.out).2 (by omega)
      have e10 := hc10 p _ (BL_at (isL_at hpk))
      have HLO := Lib.hid (show X2.heap.size ≤ W9.heap.size by have h1 := own_ge O10.out b10 rfl; omega)
      have p0 : (0 : Int) ≤ (p : Int) := by omega
      have p1 : (p : Int) < (k : Int) + 1 := by omega
      have HBLS := Lib.hid (show BL (isL l k) ++ [.bool bv] = BL (isL l (k + 1)) by rw [isL_succ, HBV.out]; simp [BL])
      clear hc10 hl10
      go_upto_region 19 with fail
      go_cut [10] from 110 (fun s10 wx => ∃ A c o, s10 = .slice A (k + 1 + 1) c ∧ wx.ownsRow X2.heap.size 4 1 (.slice A (k + 1 + 1) c) (k + 1 + 1) (BL (isL l (k + 1))) ∧ (W9.alloc o).grownBy wx (Value.slice (some ⟨b10, o10, none⟩) (k + 1) c10).ownBlock)
      case first =>
        as_aux_lemma =>
          have b1 := K12.out.cellV (i := 1) (v := .bool fM) rfl
          have hisa := HISA.out
          rw [HBV.out] at hisa
          cases fM with
          | true =>
            rw [Bool.true_and] at hisa
            rw [← hisa] at e10
            clear hisa
            go_wp2_with (at_builtin; refine wpList_append_own_at _ rfl _ _ 199 rfl X2.heap.size 4 j0 _ 1 1 Tryz.underlying199 hj0 hy0 hy1 hy2 rfl (by decide) _ _ _ rfl (O10.out.alloc _) ⟨W9.heap.size, 0, none⟩ 1 1 [.bool bv] rfl rfl (cell_one_new _ _ _) (by simp [Value.oneCell']) (by simp only [maxLen]; omega) (by omega) (by have := HLO.out; simp; omega) ?_; intro v' w4 hown' hgrow _ _; obtain ⟨A', c', rfl, _⟩ := own_form hown'; have HOW := Lib.hid hown'; have HGW := Lib.hid hgrow; clear hown' hgrow)
            go_meet
            exact ⟨A', c', _, rfl, by rw [← HBLS.out]; exact HOW.out, HGW.out⟩
          | false =>
            rw [Bool.false_and] at hisa
            subst hisa
            go_wp2_with (at_builtin; refine wpList_append_own_at _ rfl _ _ 199 rfl X2.heap.size 4 j0 _ 1 1 Tryz.underlying199 hj0 hy0 hy1 hy2 rfl (by decide) _ _ _ rfl (O10.out.alloc _) ⟨W9.heap.size, 0, none⟩ 1 1 [.bool false] rfl rfl (cell_one_new _ _ _) (by simp [Value.oneCell']) (by simp only [maxLen]; omega) (by omega) (by have := HLO.out; simp; omega) ?_; intro v' w4 hown' hgrow _ _; obtain ⟨A', c', rfl, _⟩ := own_form hown'; have HOW := Lib.hid hown'; have HGW := Lib.hid hgrow; clear hown' hgrow)
            go_meet
            exact ⟨A', c', _, rfl, by rw [← HBLS.out]; exact HOW.out, HGW.out⟩
      obtain ⟨A11, c11, oc, rfl, ho11, hg11⟩ := hcut
      have xMN := HMN.out.app O10.out hg11 (fun g e => by have h1 := HGS.out g e; have h2 := HX5.out; omega) (by have := HLT.out; omega) (by have := HLT.out; omega) HSK.out
      have x2 := (K2.out.alloc oc).grown hg11 (fun e => by have h1 := own_ge O10.out _ e.symm; have h2 := HLT.out; omega)
      have x3 := (K3.out.alloc oc).grown hg11 (fun e => by have h1 := own_ge O10.out _ e.symm; have h2 := HLT.out; omega)
      have x9 := (O9.out.alloc oc).kept hg11 (own_apart O9.out O10.out (by decide))
      have xB := (bal HB.out oc).grown hg11 (bal HB.out oc).size (fun q e => by have h1 := own_ge O10.out q e; have h2 := HLT.out; omega)
      have xsz := hg11.size
      obtain ⟨b11, o11, rfl, hl11, hc11⟩ := (Rd.of_own ho11).2 (by omega)
      have e11 := hc11 (k + 1) _ (BL_at (isL_at (Nat.le_refl _)))
      rw [HBV.out] at e11
      replace HMN := Lib.hid xMN
      replace K2 := Lib.hid x2
      replace K3 := Lib.hid x3
      replace O9 := Lib.hid x9
      replace O10 := Lib.hid ho11
      replace HB := Lib.hid xB
      replace HLO := Lib.hid (show X2.heap.size ≤ wc.heap.size by have h1 := own_ge ho11 b11 rfl; omega)
      clear xMN x2 x3 x9 xB xsz hg11 ho11 hc11 K12 e10 hl11
      have HSU := Lib.hid (shL_succ (l := l) k)
      cases bv with
      | true =>
        have HSU2 := Lib.hid (show shL l (k + 1) = shL l k ++ [idW (k : Int)] by rw [HSU.out, HBV.out]; rfl)
        go_wp2_with fail
        refine (id37_s (k + 1) (k : Int) (by omega) _ (by omega)).mono ?_
        rintro e w5 ⟨rfl, hb5⟩
        replace HMN := Lib.hid (HMN.out.below hb5)
        replace K2 := Lib.hid (K2.out.belowS hb5)
        replace K3 := Lib.hid (K3.out.belowS hb5)
        replace O9 := Lib.hid (ownsRow_below O9.out hb5)
        replace O10 := Lib.hid (ownsRow_below O10.out hb5)
        replace HB := Lib.hid (bstep HB.out hb5)
        replace HLO := Lib.hid (Nat.le_trans HLO.out hb5.size)
        have hsl := shL_len (l := l) k
        clear hb5 e11
        go_wp2_with (at_builtin; refine wpList_append_own_at _ rfl _ _ 40 rfl X2.heap.size 49 i0 _ 1 4 Tryz.underlying40 hi0 hz0 hz1 hz2 rfl (by decide) _ _ _ rfl (O9.out.alloc _) ⟨w5.heap.size, 0, none⟩ 1 1 [.int .u32 (idW (k : Int))] rfl rfl (cell_one_new _ _ _) (by simp [Value.oneCell']) (by simp only [maxLen]; omega) (by omega) (by have := HLO.out; simp; omega) ?_; intro v' w6 hown' hgrow _ _; have HOW := Lib.hid hown'; have HGW := Lib.hid hgrow; clear hown' hgrow)
        have yMN := HMN.out.app O9.out HGW.out (fun g e => by have h1 := HGR.out g e; have h2 := HX5.out; omega) (by have := HLT.out; omega) (by have := HLT.out; omega) HSK.out
        have y2 := (K2.out.alloc _).grown HGW.out (fun e => by have h1 := own_ge O9.out _ e.symm; have h2 := HLT.out; omega)
        have y3 := (K3.out.alloc _).grown HGW.out (fun e => by have h1 := own_ge O9.out _ e.symm; have h2 := HLT.out; omega)
        have y10 := (O10.out.alloc (.cells #[.int .u32 (idW (k : Int))] 49)).kept HGW.out (own_apart O10.out O9.out (by decide))
        have yB := (bal HB.out _).grown HGW.out (bal HB.out _).size (fun q e => by have h1 := own_ge O9.out q e; have h2 := HLT.out; omega)
        have y9 := HOW.out
        rw [show U32 (shL l k) ++ [.int .u32 (idW (k : Int))] = U32 (shL l (k + 1)) by rw [HSU2.out]; simp [U32], show (shL l k).length + 1 = (shL l (k + 1)).length by rw [HSU2.out]; simp] at y9
        go_roundw
        case rel => exact ⟨k + 1, some kb, some ub, mp', nk', fk', bs', by go_num, by omega, yMN.done y9 y10, ⟨y2, y3⟩, yB⟩
        case measure => simp [intOf]; omega
      | false =>
        have HSU2 := Lib.hid (show shL l (k + 1) = shL l k by rw [HSU.out, HBV.out]; exact List.append_nil _)
        go_wp2_with fail
        go_roundw
        case rel => exact ⟨k + 1, some kb, some ub, mp', nk', fk', bs', by go_num, by omega, HMN.out.done (by rw [HSU2.out]; exact O9.out) O10.out, ⟨K2.out, K3.out⟩, HB.out⟩
        case measure => simp [intOf]; omega
    · obtain rfl : k = n := by omega
      have k1 : ¬ (k : Int) < (k : Int) := by omega
      go_upto_region 23 with fail
      have htk : l.take k = l := List.take_of_length_le (by rw [HLL.out]; exact Nat.le_refl _)
      have hm := HMK.out
      have K6 := Lib.hid hm.k6
      have K7 := Lib.hid hm.k7
      have ht := hm.tree
      have hsn := hm.scene
      rw [htk] at ht hsn
      have HTF := Lib.hid ht
      have HSC := Lib.hid hsn
      have HPL := Lib.hid hm.place
      have HO9 := Lib.hid (show IdsOwn wr X2.heap.size (.slice A9 (shL l k).length c9) (shL l k) from hm.own9)
      clear htk hm ht hsn HMK
      have hlt := HLT.out
      have hll := HLL.out
      have HBW := Lib.hid (show Below w.heap.size w wr.drew from (HB.out).drew)
      have KA902 := Lib.hid ((K2.out).belowS (bre wr).drew)
      have HL902 := Lib.hid (show w.heap.size ≤ w.heap.size from Nat.le_refl _)
      have KA903 := Lib.hid ((K3.out).belowS (bre wr).drew)
      have HL903 := Lib.hid (show w.heap.size ≤ (w.heap.size + 1) from Nat.le_succ _)
      have HN902_903 := Lib.hid (show w.heap.size ≠ (w.heap.size + 1) by omega)
      replace K6 := Lib.hid (K6.out.belowS (bre wr).drew)
      replace K7 := Lib.hid (K7.out.belowS (bre wr).drew)
      replace HTF := Lib.hid (HTF.out.below (bre wr).drew)
      replace HO9 := Lib.hid (HO9.out.below (bre wr).drew)
      refine wp_region_noPanic ?_
      refine wp_region_held_drew (S := (fun w' => w'.cell? ⟨w1.heap.size, 0, none⟩ = some (.map mk) ∧ w'.cell? ⟨w1.heap.size, 1, none⟩ = some (.map mu) ∧ w'.cell? ⟨w2.heap.size, 0, none⟩ = some (.map mp))) (by kernel_rfl) ?_ (fun hHeld => ?_)
      · (try dsimp only)
        exact ⟨K6.out.cellV (i := 0) rfl, K6.out.cellV (i := 1) rfl, K7.out.cellV (i := 0) rfl⟩
      refine Tr.take_at 0 105 (.agg #[.map mk, .map mu]) rfl rfl (by kernel_rfl) (by kernel_rfl) (by kernel_rfl) (fun _ _ _ h => h) (Or.inl ⟨by rfl, ?_⟩) (by assumption) ?_
      · intro W0 hSw
        (try dsimp only at hSw)
        go_simp
      simp only [List.set_cons_zero, List.set_cons_succ]
      refine Tr.take_at 1 106 (.agg #[.map mk, .map mu]) rfl rfl (by kernel_rfl) (by kernel_rfl) (by kernel_rfl) (fun _ _ _ h => h) (Or.inl ⟨by rfl, ?_⟩) (by assumption) ?_
      · intro W0 hSw
        (try dsimp only at hSw)
        go_simp
      simp only [List.set_cons_zero, List.set_cons_succ]
      refine Tr.take_at 2 107 (.agg #[.map mp]) rfl rfl (by kernel_rfl) (by kernel_rfl) (by kernel_rfl) (fun _ _ _ h => h) (Or.inl ⟨by rfl, ?_⟩) (by assumption) ?_
      · intro W0 hSw
        (try dsimp only at hSw)
        go_simp
      simp only [List.set_cons_zero, List.set_cons_succ]
      refine Tr.take_at 4 109 (.slice A9 (shL l k).length c9) rfl rfl (by kernel_rfl) (by kernel_rfl) (by kernel_rfl) (fun _ _ _ h => h) (Or.inl ⟨by rfl, ?_⟩) (by assumption) ?_
      · intro W0 hSw
        (try dsimp only at hSw)
        go_simp
      simp only [List.set_cons_zero, List.set_cons_succ]
      refine wpAnyH_ready (rs := [3]) (by kernel_rfl) (by simp) ?_
      refine AllReadyH.cons rfl (fun K hK => ?_) AllReadyH.nil
      go_simp
      refine (seenG_of (RW := 8) (RH := 8) (l := l) (ns := nodesW l) (bs := bs) (fk := fk) (nk := nk) (n := k + 1) wr.drew HTF.out (HPL.out.below (bre wr).drew) (HSC.out.below (bre wr).drew) (nodesW_ok HUP.out) (fun _ h => h) HDW.out (by rw [nodesW_len]; omega) (by decide)).mono ?_
      rintro e wc3 ⟨v, og, rfl, hse, hbA⟩
      obtain ⟨Av, nv, cv, mv, rfl⟩ := hse.form
      have HSE := Lib.hid hse
      clear hse
      replace HBW := Lib.hid (bstep HBW.out hbA)
      replace KA902 := Lib.hid (KA902.out.belowS hbA)
      replace KA903 := Lib.hid (KA903.out.belowS hbA)
      replace K6 := Lib.hid (K6.out.belowS hbA)
      replace K7 := Lib.hid (K7.out.belowS hbA)
      replace HTF := Lib.hid (HTF.out.below hbA)
      replace HO9 := Lib.hid (HO9.out.below hbA)
      clear hbA
      go_simp
      refine hK.out _ _ ?_ (fun hHeld => ?_)
      · (try dsimp only)
        exact ⟨K6.out.cellV (i := 0) rfl, K6.out.cellV (i := 1) rfl, K7.out.cellV (i := 0) rfl⟩
      clear hK K
      refine wpAnyH_ready (rs := [5]) (by kernel_rfl) (by simp) ?_
      refine AllReadyH.cons rfl (fun K hK => ?_) AllReadyH.nil
      refine Tr.wanted_plain rfl ?_
      refine store_mid0 rfl 34 _ _ rfl (w.heap.size) 0 #[.map mk, .map mu] (by rfl) (by rfl) (by have h := there_blk KA902.out; exact h) Tryz.sizeTr (by simp [Value.oneCell']) ?_
      have xK := blk_puts2 (.map mk) (.map mu) KA902.out
      have xB := bsets HBW.out HL902.out (#[.map mk, .map mu] : Array Value).toList 0
      have xA903 := KA903.out.farCells (HN902_903.out.symm) (#[.map mk, .map mu] : Array Value).toList 0
      have xK6 := (show Blk (World.setCells (wc3) (w.heap.size) 0 (#[.map mk, .map mu] : Array Value).toList) w1.heap.size 34 _ from K6.out.farCells (by show _ ≠ _; omega) _ _)
      have xK7 := (show Blk (World.setCells (wc3) (w.heap.size) 0 (#[.map mk, .map mu] : Array Value).toList) w2.heap.size 37 _ from K7.out.farCells (by show _ ≠ _; omega) _ _)
      have xHTF := (show TreeIs (World.setCells (wc3) (w.heap.size) 0 (#[.map mk, .map mu] : Array Value).toList) (.agg #[.map mk, .map mu]) (nodesW l) mk mu nk fk from (HTF.out.setBlk KA902.out (maps_no _ _) 0 (.map mk)).setBlk (KA902.out.set_ 0 (.map mk)) (maps_no _ _) 1 (.map mu))
      have xHO9 := (show IdsOwn (World.setCells (wc3) (w.heap.size) 0 (#[.map mk, .map mu] : Array Value).toList) X2.heap.size _ _ from own_far (own_far (show World.ownsRow _ _ _ _ _ _ _ from HO9.out) (p := ⟨w.heap.size, 0, none⟩) (by show w.heap.size < _; omega) (.map mk)) (p := ⟨w.heap.size, 1, none⟩) (by show w.heap.size < _; omega) (.map mu))
      have xHSE := (show SeenG (World.setCells (wc3) (w.heap.size) 0 (#[.map mk, .map mu] : Array Value).toList) _ 8 8 _ _ _ from (HSE.out.setNo KA902.out (blk_noI KA902.out (maps_no2 _ _)) 0 (.map mk)).setNo (KA902.out.set_ 0 (.map mk)) (blk_noI (KA902.out.set_ 0 (.map mk)) (maps_no2 _ _)) 1 (.map mu))
      obtain ⟨wS5, hwS⟩ : ∃ wS, World.setCells wc3 (w.heap.size) 0 (#[.map mk, .map mu] : Array Value).toList = wS := ⟨_, rfl⟩
      rw [hwS] at xK xB xA903 xK6 xK7 xHTF xHO9 xHSE ⊢
      replace HBW := Lib.hid xB
      replace KA902 := Lib.hid xK
      replace KA903 := Lib.hid xA903
      replace K6 := Lib.hid xK6
      replace K7 := Lib.hid xK7
      replace HTF := Lib.hid xHTF
      replace HO9 := Lib.hid xHO9
      replace HSE := Lib.hid xHSE
      clear hwS xK xB xA903 xK6 xK7 xHTF xHO9 xHSE
      refine hK.out _ _ ?_ (fun hHeld => ?_)
      · (try dsimp only)
        exact ⟨K6.out.cellV (i := 0) rfl, K6.out.cellV (i := 1) rfl, K7.out.cellV (i := 0) rfl⟩
      clear hK K
      refine wpAnyH_ready (rs := [6]) (by kernel_rfl) (by simp) ?_
      refine AllReadyH.cons rfl (fun K hK => ?_) AllReadyH.nil
      refine Tr.wanted_plain rfl ?_
      refine store_mid0 rfl 43 _ _ rfl ((w.heap.size + 1)) 0 #[.slice Av nv cv, .map mv] (by rfl) (by rfl) (by have h := there_blk KA903.out; exact h) Tryz.sizeVw (by simp [Value.oneCell']) ?_
      have xK := blk_puts2 (.slice Av nv cv) (.map mv) KA903.out
      have xB := bsets HBW.out HL903.out (#[.slice Av nv cv, .map mv] : Array Value).toList 0
      have xA902 := KA902.out.farCells (HN902_903.out) (#[.slice Av nv cv, .map mv] : Array Value).toList 0
      have xK6 := (show Blk (World.setCells (wS5) ((w.heap.size + 1)) 0 (#[.slice Av nv cv, .map mv] : Array Value).toList) w1.heap.size 34 _ from K6.out.farCells (by show _ ≠ _; omega) _ _)
      have xK7 := (show Blk (World.setCells (wS5) ((w.heap.size + 1)) 0 (#[.slice Av nv cv, .map mv] : Array Value).toList) w2.heap.size 37 _ from K7.out.farCells (by show _ ≠ _; omega) _ _)
      have xHTF := (show TreeIs (World.setCells (wS5) ((w.heap.size + 1)) 0 (#[.slice Av nv cv, .map mv] : Array Value).toList) (.agg #[.map mk, .map mu]) (nodesW l) mk mu nk fk from (HTF.out.setBlk KA903.out (view_no _ _ _ _) 0 (.slice Av nv cv)).setBlk (KA903.out.set_ 0 (.slice Av nv cv)) (view_no _ _ _ _) 1 (.map mv))
      have xHO9 := (show IdsOwn (World.setCells (wS5) ((w.heap.size + 1)) 0 (#[.slice Av nv cv, .map mv] : Array Value).toList) X2.heap.size _ _ from own_far (own_far (show World.ownsRow _ _ _ _ _ _ _ from HO9.out) (p := ⟨(w.heap.size + 1), 0, none⟩) (by show (w.heap.size + 1) < _; omega) (.slice Av nv cv)) (p := ⟨(w.heap.size + 1), 1, none⟩) (by show (w.heap.size + 1) < _; omega) (.map mv))
      have xHSE := (show SeenG (World.setCells (wS5) ((w.heap.size + 1)) 0 (#[.slice Av nv cv, .map mv] : Array Value).toList) _ 8 8 _ _ _ from (HSE.out.setNo KA903.out (blk_noI KA903.out (view_no2 _ _ _ _)) 0 (.slice Av nv cv)).setNo (KA903.out.set_ 0 (.slice Av nv cv)) (blk_noI (KA903.out.set_ 0 (.slice Av nv cv)) (view_no2 _ _ _ _)) 1 (.map mv))
      obtain ⟨wS6, hwS⟩ : ∃ wS, World.setCells wS5 ((w.heap.size + 1)) 0 (#[.slice Av nv cv, .map mv] : Array Value).toList = wS := ⟨_, rfl⟩
      rw [hwS] at xK xB xA902 xK6 xK7 xHTF xHO9 xHSE ⊢
      replace HBW := Lib.hid xB
      replace KA903 := Lib.hid xK
      replace KA902 := Lib.hid xA902
      replace K6 := Lib.hid xK6
      replace K7 := Lib.hid xK7
      replace HTF := Lib.hid xHTF
      replace HO9 := Lib.hid xHO9
      replace HSE := Lib.hid xHSE
      clear hwS xK xB xA902 xK6 xK7 xHTF xHO9 xHSE
      refine hK.out _ _ ?_ (fun hHeld => ?_)
      · (try dsimp only)
        exact ⟨K6.out.cellV (i := 0) rfl, K6.out.cellV (i := 1) rfl, K7.out.cellV (i := 0) rfl⟩
      clear hK K
      refine Tr.take_at 7 4 (.slice A9 (shL l k).length c9) rfl rfl (by kernel_rfl) (by kernel_rfl) (by kernel_rfl) (fun _ _ _ h => h) (Or.inl ⟨by rfl, ?_⟩) (by assumption) ?_
      · intro W0 hSw
        (try dsimp only at hSw)
        go_simp
      simp only [List.set_cons_zero, List.set_cons_succ]
      refine Tr.take_at 8 5 (.bool true) rfl rfl (by kernel_rfl) (by kernel_rfl) (by kernel_rfl) (fun _ _ _ h => h) (Or.inl ⟨by rfl, ?_⟩) (by assumption) ?_
      · intro W0 hSw
        (try dsimp only at hSw)
        go_simp
      simp only [List.set_cons_zero, List.set_cons_succ]
      refine wpAnyH_done (by kernel_rfl) ?_ _
      refine NoPanic.normal ?_
      have r0 := KA902.out.cellV (i := 0) (v := .map mk) rfl
      have r1 := KA902.out.cellV (i := 1) (v := .map mu) rfl
      have r2 := KA903.out.cellV (i := 0) (v := .slice Av nv cv) rfl
      have r3 := KA903.out.cellV (i := 1) (v := .map mv) rfl
      repeat (first | go_values | go_skip | go_guarded | go_step | go_upon)
      refine bodyPost_ret (v := .tuple #[.agg #[.map mk, .map mu], .agg #[.slice Av nv cv, .map mv], .slice A9 (shL l k).length c9, .bool true]) (by simp [results, Tryz.results62, go_sem, r0, r1, r2, r3]) rfl ⟨mk, mu, nk, fk, _, og, .slice A9 (shL l k).length c9, rfl, HTF.out, HSE.out, own_lower HO9.out (by omega), HBW.out⟩
end Go.Proofs.YtbkkecijcijhdaaGreat
end
