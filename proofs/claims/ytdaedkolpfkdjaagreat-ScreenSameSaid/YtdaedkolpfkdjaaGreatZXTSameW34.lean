/-
  The walk of ScreenSame.
-/
import Derived.Test.YtdaedkolpfkdjaaGreatZX30
import Derived.Test.YtdaedkolpfkdjaaGreatZX33
import Derived.Test.YtdaedkolpfkdjaaGreatZX34
import Derived.Test.YtdaedkolpfkdjaaGreatZX35
section
namespace Go.Proofs.YtdaedkolpfkdjaaGreat
open Go.RowKit Go.Maps Go.Shelf

/-- a view tells the window at a place. -/
theorem SeenG.atP {w : World} {v : Value} {RW RH : Nat} {ns : Nodes} {bx : Int → Option VB} {og : Int → Int × Int} (h : SeenG w v RW RH ns bx og) (hn : TreeOk ns) (x y : Int) (hxy : rectP RW RH x y = true) :
 Calls Tryz.prog 50 #[v, .int .i64 x, .int .i64 y] w fun e w' => e = .returned (.tuple #[.int .u32 (topN ns bx x y), .bool true]) ∧ Below w.heap.size w w' := by
 obtain ⟨A, n, c, mv, nm, f, hv⟩ := h.is
 have := vat_any x y hv
 have e : (ordW ns bx 1).find? (showB (esN ns bx (rectP RW RH)) x y) = some (topN ns bx x y) := by
  have e1 : showB (esN ns bx (rectP RW RH)) x y = fun i => decide (i = topN ns bx x y) := funext fun i => by rw [show_at hn, hxy, Bool.true_and]
  rw [e1]
  cases hf : (ordW ns bx 1).find? (fun i => decide (i = topN ns bx x y)) with
  | none =>
   have h9 := List.find?_eq_none.1 hf _ (top_ord hn x y)
   simp at h9
  | some i =>
   have h9 : i = topN ns bx x y := by simpa using List.find?_some hf
   rw [h9]
 rw [e] at this
 exact this
set_option maxRecDepth 100000 in
set_option maxHeartbeats 8000000 in
theorem screenSame_any (A : Option Addr) (n c : Nat) (ps : List PN34) (w : World) (hn : n ≤ maxLen) (hr : RdP34 w A n ps) (hok : ∀ p ∈ ps, p.ok) :
 Calls Tryz.prog 10 #[.slice A n c] w fun e w' => e = .returned (.bool true) ∧ Below w.heap.size w w' := by
 go_enter Tryz.func10, Tryz.ntmps10
 go_wp2_with fail
 refine (make34_any A n c ps _ hn hr hok).mono ?_
 rintro e w1 ⟨ok, m1, m2, m3, m4, A0, n0, c0, rfl, hm, hb1⟩
 have HM0 := Lib.hid hm
 have ha := bal (bre w1) (.cells #[.map m1, .map m2, .map m3, .map m4, .slice A0 n0 c0] 70)
 have xk := Blk.new w1 70 #[.map m1, .map m2, .map m3, .map m4, .slice A0 n0 c0]
 have HB := Lib.hid (bstep hb1 ha)
 clear hm hb1
 cases ok with
 | false =>
  clear ha xk HM0
  as_aux_lemma =>
   go_wp2_with (go_at_call 34; refine (awake34_any _).mono ?_; rintro e w9 ⟨rfl, hb9⟩; have HB9 := Lib.hid (bstep HB.out hb9); clear hb9)
   go_ret
   exact ⟨rfl, HB9.out⟩
 | true =>
  obtain ⟨l, mk, mu, mp, mc, AL, cL, RW, RH, hmade⟩ := HM0.out rfl
  obtain ⟨rfl, rfl, rfl, rfl, rfl, rfl, rfl⟩ := hmade.form
  have hm2 := hmade.below ha
  clear HM0 hmade ha
  have hbz := HB.out
  go_upto_region 4 with fail
  obtain ⟨g1, hg1⟩ : ∃ g, w1.heap.size = g := ⟨_, rfl⟩
  obtain ⟨X1, hX1⟩ : ∃ X, w1.alloc (.cells #[.map m1, .map m2, .map m3, .map m4, .slice A0 l.length c0] 70) = X := ⟨_, rfl⟩
  rw [hX1] at hm2 xk hbz ⊢
  rw [hg1] at xk ⊢
  have HM := Lib.hid hm2
  have KM := Lib.hid xk
  replace HB := Lib.hid hbz
  clear hm2 xk hbz hX1 hg1
  have q0 := KM.out.cellV (i := 0) (v := .map m1) rfl
  have q1 := KM.out.cellV (i := 1) (v := .map m2) rfl
  have q2 := KM.out.cellV (i := 2) (v := .map m3) rfl
  go_wp2_with fail
  refine (view34 HM.out hok).mono ?_
  rintro e w3 ⟨Av, nv, cv, mv, og, rfl, hse, hb3⟩
  have HSE := Lib.hid hse
  replace HM := Lib.hid (HM.out.below hb3)
  replace KM := Lib.hid (KM.out.belowS hb3)
  replace HB := Lib.hid (bstep HB.out hb3)
  clear hse hb3 q0 q1 q2
  have ha := bal (bre w3) (.cells #[.slice Av nv cv, .map mv] 52)
  have xk := Blk.new w3 52 #[.slice Av nv cv, .map mv]
  have z := bstep HB.out ha
  have z0 := HM.out.below ha
  have z1 := KM.out.belowS ha
  have z2 := HSE.out.below ha
  clear ha
  go_upto_region 5 with fail
  obtain ⟨g2, hg⟩ : ∃ g, w3.heap.size = g := ⟨_, rfl⟩
  obtain ⟨X3, hX⟩ : ∃ X, w3.alloc (.cells #[.slice Av nv cv, .map mv] 52) = X := ⟨_, rfl⟩
  rw [hX] at z xk z0 z1 z2 ⊢
  rw [hg] at xk ⊢
  replace HB := Lib.hid z
  have KV := Lib.hid xk
  replace HM := Lib.hid z0
  replace KM := Lib.hid z1
  replace HSE := Lib.hid z2
  clear z xk hX hg z0 z1 z2
  obtain ⟨rt, hr0, hrW, hrH, hrS, hRb⟩ := HM.out.rootIs
  obtain ⟨b, off, rfl, hbl, hcl⟩ := HM.out.recs.2 (by have := HM.out.few; omega)
  have y3 := hcl 0 rt hr0 3 _ rfl
  have y4 := hcl 0 rt hr0 4 _ rfl
  simp only [Nat.zero_mul, Nat.add_zero] at y3 y4
  rw [hrW] at y3
  rw [hrH] at y4
  have hl0 : (0 : Int) < (l.length : Int) := by have := HM.out.few; omega
  have q4 := KM.out.cellV (i := 4) (v := .slice (some ⟨b, off, none⟩) l.length c0) rfl
  have HRB := Lib.hid hRb
  clear hr0 hrW hrH hrS hbl hcl
  go_region
  have zz := bre X3
  have hbd : Below X3.heap.size X3 X3.drew := zz.drew
  replace HM := Lib.hid (HM.out.below hbd)
  replace KM := Lib.hid (KM.out.belowS hbd)
  replace HSE := Lib.hid (HSE.out.below hbd)
  replace KV := Lib.hid (KV.out.belowS hbd)
  replace HB := Lib.hid (bstep HB.out hbd)
  clear zz hbd y3 y4 q4
  obtain ⟨X4, hX4⟩ : ∃ X, X3.drew = X := ⟨_, rfl⟩
  have y0 := HM.out
  have y1 := KM.out
  have y2 := HSE.out
  have y3 := KV.out
  have y4 := HB.out
  rw [hX4] at y0 y1 y2 y3 y4 ⊢
  replace HM := Lib.hid y0
  replace KM := Lib.hid y1
  replace HSE := Lib.hid y2
  replace KV := Lib.hid y3
  replace HB := Lib.hid y4
  clear hX4 y0 y1 y2 y3 y4
  have q3 := KM.out.cellV (i := 3) (v := .map m4) rfl
  have v0 := KV.out.cellV (i := 0) (v := .slice Av nv cv) rfl
  have v1 := KV.out.cellV (i := 1) (v := .map mv) rfl
  go_wp2_with fail
  refine (show34 HM.out HSE.out (W := RW) (H := RH) (by have := HRB.out; omega) (by have := HRB.out; omega)).mono ?_
  rintro e w5 ⟨Ag, cg, px, rfl, hrg, hcg, hpx, hb5⟩
  have HRG := Lib.hid hrg
  have HPX := Lib.hid hpx
  replace HM := Lib.hid (HM.out.below hb5)
  replace KM := Lib.hid (KM.out.belowS hb5)
  replace HSE := Lib.hid (HSE.out.below hb5)
  replace KV := Lib.hid (KV.out.belowS hb5)
  replace HB := Lib.hid (bstep HB.out hb5)
  clear hrg hcg hpx hb5 q3 v0 v1
  have ha := bal (bre w5) (.cells #[.int .i64 RW, .int .i64 RH, .slice Ag (RW * RH) cg] 75)
  have xk := Blk.new w5 75 #[.int .i64 RW, .int .i64 RH, .slice Ag (RW * RH) cg]
  have z := bstep HB.out ha
  have z0 := HM.out.below ha
  have z1 := KM.out.belowS ha
  have z2 := HSE.out.below ha
  have z3 := KV.out.belowS ha
  have z4 := HRG.out.below ha
  clear ha
  go_upto_region 9 with fail
  obtain ⟨g3, hg⟩ : ∃ g, w5.heap.size = g := ⟨_, rfl⟩
  obtain ⟨X5, hX⟩ : ∃ X, w5.alloc (.cells #[.int .i64 RW, .int .i64 RH, .slice Ag (RW * RH) cg] 75) = X := ⟨_, rfl⟩
  rw [hX] at z xk z0 z1 z2 z3 z4 ⊢
  rw [hg] at xk ⊢
  replace HB := Lib.hid z
  have KG := Lib.hid xk
  replace HM := Lib.hid z0
  replace KM := Lib.hid z1
  replace HSE := Lib.hid z2
  replace KV := Lib.hid z3
  replace HRG := Lib.hid z4
  clear z xk hX hg z0 z1 z2 z3 z4
  have hmul : RW * RH ≤ 16384 := Gr.mul_le_128 (by have := HRB.out; omega) (by have := HRB.out; omega)
  have m0 : (RW : Int) * (RH : Int) = ((RW * RH : Nat) : Int) := (Int.natCast_mul _ _).symm
  obtain ⟨N, hN⟩ : ∃ N, RW * RH = N := ⟨_, rfl⟩
  have HN := Lib.hid hN
  rw [hN] at m0 hmul
  have t0 : IntKind.i64.wrap ((RW : Int) * (RH : Int)) = (N : Int) := by rw [m0]; exact IntWalk.i64_in _ (by omega)
  clear m0 hN
  go_wp2_with fail
  go_loopw [54, 10, 11, 12, 13, 14] (fun i _ _ _ _ _ wr => ∃ k : Nat, i = .int .i64 k ∧ k ≤ N ∧ Below X5.heap.size X5 wr) (fun i _ _ _ _ _ _ => N - (intOf i).toNat)
  case atStart => exact ⟨0, rfl, by omega, bre X5⟩
  case round =>
   obtain ⟨k, rfl, hk, hB⟩ := hrel
   have HBX := Lib.hid hB
   clear hB
   by_cases hlt : k < N
   ·
    obtain ⟨r, hr0⟩ : ∃ r : Nat, k % RW = r := ⟨_, rfl⟩
    obtain ⟨d, hd0⟩ : ∃ d : Nat, k / RW = d := ⟨_, rfl⟩
    have hRW1 : 1 ≤ RW := by have := HRB.out; omega
    have hrl : r < RW := by rw [← hr0]; exact Nat.mod_lt _ (by omega)
    have hdH : d < RH := by rw [← hd0]; exact Nat.div_lt_of_lt_mul (by rw [HN.out]; exact hlt)
    have hRb2 := HRB.out
    have t1 : (k : Int).tmod (RW : Int) = (r : Int) := by rw [Int.tmod_eq_emod_of_nonneg (by omega), ← hr0]; exact (Int.natCast_emod k RW).symm
    have t2 : (k : Int).tdiv (RW : Int) = (d : Int) := by rw [Int.tdiv_eq_ediv_of_nonneg (by omega), ← hd0]; exact (Int.natCast_ediv k RW).symm
    have t3 : IntKind.i64.wrap (r : Int) = (r : Int) := IntWalk.i64_in _ (by omega)
    have t4 : IntKind.i64.wrap (d : Int) = (d : Int) := IntWalk.i64_in _ (by omega)
    have z3 : ¬ (RW : Int) = 0 := by omega
    have z4 : ¬ RW = 0 := by omega
    have hxy : rectP (RW : Int) (RH : Int) (r : Int) (d : Int) = true := (rectP_iff _ _).2 (by omega)
    have HXY := Lib.hid hxy
    have hwho : topN (nodesW (dws l)) (bxS RW RH (dws l)) (r : Int) (d : Int) = whoD l RW RH (r : Int) (d : Int) := by
     unfold whoD
     rw [hxy, if_pos rfl]
     have e1 := atD_root (RW := RW) (RH := RH) HM.out.up.upOk (r : Int) (d : Int)
     rw [show topI l (r : Int) (d : Int) - 1 = atD (dws l) (F34 l) (-1) (r : Int) (d : Int) from by unfold topI; omega]
     exact e1.symm
    have HEQ := Lib.hid (HPX.out.2 r d hrl hdH)
    obtain ⟨pz, hpz⟩ : ∃ z, pixD l RW RH (r : Int) (d : Int) = z := ⟨_, rfl⟩
    have HPZ := Lib.hid hpz
    obtain ⟨wz, hwz⟩ : ∃ z, whoD l RW RH (r : Int) (d : Int) = z := ⟨_, rfl⟩
    have HWZ := Lib.hid hwz
    rw [hwz] at hwho
    have HWH := Lib.hid hwho
    have k1 : (k : Int) < (N : Int) := by omega
    have k0 : (0 : Int) ≤ (k : Int) := by omega
    clear hr0 hd0 hpz hwz hwho hxy hRb2
    go_upto_region 12 with fail
    go_cut [11, 12] from 57 to 103 (fun s11 s12 wx => s11 = .int .u8 pz ∧ s12 = .int .u32 wz ∧ Below X5.heap.size X5 wx)
    case first =>
     as_aux_lemma =>
      have HBW := Lib.hid (show Below wr.heap.size wr wr.drew from (bre wr).drew)
      have KW := Lib.hid (fun (W' : World) (h : Below wr.heap.size wr W') => show (fun w' => w'.cell? ⟨g1, 0, none⟩ = some (.map m1) ∧ w'.cell? ⟨g1, 1, none⟩ = some (.map m2) ∧ w'.cell? ⟨g1, 2, none⟩ = some (.map m3) ∧ w'.cell? ⟨g1, 3, none⟩ = some (.map m4)) W' from ⟨(KM.out.belowS (bstep HBX.out h)).cellV (i := 0) rfl, (KM.out.belowS (bstep HBX.out h)).cellV (i := 1) rfl, (KM.out.belowS (bstep HBX.out h)).cellV (i := 2) rfl, (KM.out.belowS (bstep HBX.out h)).cellV (i := 3) rfl⟩)
      refine wp_region_noPanic ?_
      refine wp_region_held_drew (S := (fun w' => w'.cell? ⟨g1, 0, none⟩ = some (.map m1) ∧ w'.cell? ⟨g1, 1, none⟩ = some (.map m2) ∧ w'.cell? ⟨g1, 2, none⟩ = some (.map m3) ∧ w'.cell? ⟨g1, 3, none⟩ = some (.map m4))) (by kernel_rfl) ?_ (fun _ => ?_)
      ·
       (try dsimp only)
       exact ⟨(KM.out.belowS (bstep HBX.out HBW.out)).cellV (i := 0) rfl, (KM.out.belowS (bstep HBX.out HBW.out)).cellV (i := 1) rfl, (KM.out.belowS (bstep HBX.out HBW.out)).cellV (i := 2) rfl, (KM.out.belowS (bstep HBX.out HBW.out)).cellV (i := 3) rfl⟩
      refine Tr.take_at 0 58 (.pointer (some ⟨g1, 0, none⟩)) rfl rfl (by kernel_rfl) (by kernel_rfl) (by kernel_rfl) (fun _ _ _ h => h) (Or.inl ⟨by rfl, ?_⟩) (by assumption) ?_
      ·
       intro W0 hSw
       (try dsimp only at hSw)
       go_simp
      simp only [List.set_cons_zero, List.set_cons_succ]
      refine Tr.take_at 1 59 (.agg #[.map m1, .map m2]) rfl rfl (by kernel_rfl) (by kernel_rfl) (by kernel_rfl) (fun _ _ _ h => h) (Or.inl ⟨by rfl, ?_⟩) (by assumption) ?_
      ·
       intro W0 hSw
       (try dsimp only at hSw)
       go_simp
      simp only [List.set_cons_zero, List.set_cons_succ]
      refine Tr.take_at 2 60 (.pointer (some ⟨g1, 2, none⟩)) rfl rfl (by kernel_rfl) (by kernel_rfl) (by kernel_rfl) (fun _ _ _ h => h) (Or.inl ⟨by rfl, ?_⟩) (by assumption) ?_
      ·
       intro W0 hSw
       (try dsimp only at hSw)
       go_simp
      simp only [List.set_cons_zero, List.set_cons_succ]
      refine Tr.take_at 3 61 (.agg #[.map m3]) rfl rfl (by kernel_rfl) (by kernel_rfl) (by kernel_rfl) (fun _ _ _ h => h) (Or.inl ⟨by rfl, ?_⟩) (by assumption) ?_
      ·
       intro W0 hSw
       (try dsimp only at hSw)
       go_simp
      simp only [List.set_cons_zero, List.set_cons_succ]
      refine Tr.take_at 4 62 (.pointer (some ⟨g1, 3, none⟩)) rfl rfl (by kernel_rfl) (by kernel_rfl) (by kernel_rfl) (fun _ _ _ h => h) (Or.inl ⟨by rfl, ?_⟩) (by assumption) ?_
      ·
       intro W0 hSw
       (try dsimp only at hSw)
       go_simp
      simp only [List.set_cons_zero, List.set_cons_succ]
      refine Tr.take_at 5 63 (.agg #[.map m4]) rfl rfl (by kernel_rfl) (by kernel_rfl) (by kernel_rfl) (fun _ _ _ h => h) (Or.inl ⟨by rfl, ?_⟩) (by assumption) ?_
      ·
       intro W0 hSw
       (try dsimp only at hSw)
       go_simp
      simp only [List.set_cons_zero, List.set_cons_succ]
      refine Tr.take_at 6 64 (.int .i64 k) rfl rfl (by kernel_rfl) (by kernel_rfl) (by kernel_rfl) (fun _ _ _ h => h) (Or.inl ⟨by rfl, ?_⟩) (by assumption) ?_
      ·
       intro W0 hSw
       (try dsimp only at hSw)
       go_simp
      simp only [List.set_cons_zero, List.set_cons_succ]
      refine Tr.take_at 7 65 (.int .i64 RW) rfl rfl (by kernel_rfl) (by kernel_rfl) (by kernel_rfl) (fun _ _ _ h => h) (Or.inl ⟨by rfl, ?_⟩) (by assumption) ?_
      ·
       intro W0 hSw
       (try dsimp only at hSw)
       go_simp
      simp only [List.set_cons_zero, List.set_cons_succ]
      refine Tr.take_at 8 66 (.int .i64 r) rfl rfl (by kernel_rfl) (by kernel_rfl) (by kernel_rfl) (fun _ _ _ h => h) (Or.inl ⟨by rfl, ?_⟩) (by assumption) ?_
      ·
       intro W0 hSw
       (try dsimp only at hSw)
       go_simp
      simp only [List.set_cons_zero, List.set_cons_succ]
      refine Tr.take_at 9 67 (.int .i64 k) rfl rfl (by kernel_rfl) (by kernel_rfl) (by kernel_rfl) (fun _ _ _ h => h) (Or.inl ⟨by rfl, ?_⟩) (by assumption) ?_
      ·
       intro W0 hSw
       (try dsimp only at hSw)
       go_simp
      simp only [List.set_cons_zero, List.set_cons_succ]
      refine Tr.take_at 10 68 (.int .i64 RW) rfl rfl (by kernel_rfl) (by kernel_rfl) (by kernel_rfl) (fun _ _ _ h => h) (Or.inl ⟨by rfl, ?_⟩) (by assumption) ?_
      ·
       intro W0 hSw
       (try dsimp only at hSw)
       go_simp
      simp only [List.set_cons_zero, List.set_cons_succ]
      refine Tr.take_at 11 69 (.int .i64 d) rfl rfl (by kernel_rfl) (by kernel_rfl) (by kernel_rfl) (fun _ _ _ h => h) (Or.inl ⟨by rfl, ?_⟩) (by assumption) ?_
      ·
       intro W0 hSw
       (try dsimp only at hSw)
       go_simp
      simp only [List.set_cons_zero, List.set_cons_succ]
      refine wpAnyH_ready (rs := [12]) (by kernel_rfl) (by simp) ?_
      refine AllReadyH.cons rfl (fun K hK => ?_) AllReadyH.nil; go_simp
      refine (look34 (HM.out.below (bstep HBX.out HBW.out)) hok (r : Int) (d : Int)).mono ?_
      rintro e wc7 ⟨rfl, hbA⟩
      rw [HPZ.out, HWZ.out]
      replace HBW := Lib.hid (bstep HBW.out hbA); clear hbA; go_simp
      refine hK.out _ _ (KW.out _ HBW.out) (fun _ => ?_); clear hK K
      refine Tr.take_at 13 57 (.tuple #[.int .u8 pz, .int .u32 wz]) rfl rfl (by kernel_rfl) (by kernel_rfl) (by kernel_rfl) (fun _ _ _ h => h) (Or.inl ⟨by rfl, ?_⟩) (by assumption) ?_
      ·
       intro W0 hSw
       (try dsimp only at hSw)
       go_simp
      simp only [List.set_cons_zero, List.set_cons_succ]
      refine Tr.take_at 14 71 (.int .u8 pz) rfl rfl (by kernel_rfl) (by kernel_rfl) (by kernel_rfl) (fun _ _ _ h => h) (Or.inl ⟨by rfl, ?_⟩) (by assumption) ?_
      ·
       intro W0 hSw
       (try dsimp only at hSw)
       go_simp
      simp only [List.set_cons_zero, List.set_cons_succ]
      refine Tr.take_at 15 72 (.int .u32 wz) rfl rfl (by kernel_rfl) (by kernel_rfl) (by kernel_rfl) (fun _ _ _ h => h) (Or.inl ⟨by rfl, ?_⟩) (by assumption) ?_
      ·
       intro W0 hSw
       (try dsimp only at hSw)
       go_simp
      simp only [List.set_cons_zero, List.set_cons_succ]
      refine Tr.take_at 16 11 (.int .u8 pz) rfl rfl (by kernel_rfl) (by kernel_rfl) (by kernel_rfl) (fun _ _ _ h => h) (Or.inl ⟨by rfl, ?_⟩) (by assumption) ?_
      ·
       intro W0 hSw
       (try dsimp only at hSw)
       go_simp
      simp only [List.set_cons_zero, List.set_cons_succ]
      refine Tr.take_at 17 12 (.int .u32 wz) rfl rfl (by kernel_rfl) (by kernel_rfl) (by kernel_rfl) (fun _ _ _ h => h) (Or.inl ⟨by rfl, ?_⟩) (by assumption) ?_
      ·
       intro W0 hSw
       (try dsimp only at hSw)
       go_simp
      simp only [List.set_cons_zero, List.set_cons_succ]
      refine wpAnyH_done (by kernel_rfl) ?_ _
      refine NoPanic.normal ?_
      go_wp2_with fail
      go_meet
      exact ⟨rfl, rfl, bstep HBX.out HBW.out⟩
    obtain ⟨rfl, rfl, hbc⟩ := hcut
    replace HBX := Lib.hid hbc
    clear hbc
    go_upto_region 13 with fail
    go_cut [13, 14] from 73 to 103 (fun s13 s14 wx => s13 = .int .u32 wz ∧ s14 = .bool true ∧ Below X5.heap.size X5 wx)
    case first =>
     as_aux_lemma =>
      have HBW := Lib.hid (show Below wc.heap.size wc wc.drew from (bre wc).drew)
      have KW := Lib.hid (fun (W' : World) (h : Below wc.heap.size wc W') => show (fun w' => w'.cell? ⟨g2, 0, none⟩ = some (.slice Av nv cv) ∧ w'.cell? ⟨g2, 1, none⟩ = some (.map mv)) W' from ⟨(KV.out.belowS (bstep HBX.out h)).cellV (i := 0) rfl, (KV.out.belowS (bstep HBX.out h)).cellV (i := 1) rfl⟩)
      refine wp_region_noPanic ?_
      refine wp_region_held_drew (S := (fun w' => w'.cell? ⟨g2, 0, none⟩ = some (.slice Av nv cv) ∧ w'.cell? ⟨g2, 1, none⟩ = some (.map mv))) (by kernel_rfl) ?_ (fun _ => ?_)
      ·
       (try dsimp only)
       exact ⟨(KV.out.belowS (bstep HBX.out HBW.out)).cellV (i := 0) rfl, (KV.out.belowS (bstep HBX.out HBW.out)).cellV (i := 1) rfl⟩
      refine Tr.take_at 0 74 (.agg #[.slice Av nv cv, .map mv]) rfl rfl (by kernel_rfl) (by kernel_rfl) (by kernel_rfl) (fun _ _ _ h => h) (Or.inl ⟨by rfl, ?_⟩) (by assumption) ?_
      ·
       intro W0 hSw
       (try dsimp only at hSw)
       go_simp
      simp only [List.set_cons_zero, List.set_cons_succ]
      refine Tr.take_at 1 75 (.int .i64 k) rfl rfl (by kernel_rfl) (by kernel_rfl) (by kernel_rfl) (fun _ _ _ h => h) (Or.inl ⟨by rfl, ?_⟩) (by assumption) ?_
      ·
       intro W0 hSw
       (try dsimp only at hSw)
       go_simp
      simp only [List.set_cons_zero, List.set_cons_succ]
      refine Tr.take_at 2 76 (.int .i64 RW) rfl rfl (by kernel_rfl) (by kernel_rfl) (by kernel_rfl) (fun _ _ _ h => h) (Or.inl ⟨by rfl, ?_⟩) (by assumption) ?_
      ·
       intro W0 hSw
       (try dsimp only at hSw)
       go_simp
      simp only [List.set_cons_zero, List.set_cons_succ]
      refine Tr.take_at 3 77 (.int .i64 r) rfl rfl (by kernel_rfl) (by kernel_rfl) (by kernel_rfl) (fun _ _ _ h => h) (Or.inl ⟨by rfl, ?_⟩) (by assumption) ?_
      ·
       intro W0 hSw
       (try dsimp only at hSw)
       go_simp
      simp only [List.set_cons_zero, List.set_cons_succ]
      refine Tr.take_at 4 78 (.int .i64 k) rfl rfl (by kernel_rfl) (by kernel_rfl) (by kernel_rfl) (fun _ _ _ h => h) (Or.inl ⟨by rfl, ?_⟩) (by assumption) ?_
      ·
       intro W0 hSw
       (try dsimp only at hSw)
       go_simp
      simp only [List.set_cons_zero, List.set_cons_succ]
      refine Tr.take_at 5 79 (.int .i64 RW) rfl rfl (by kernel_rfl) (by kernel_rfl) (by kernel_rfl) (fun _ _ _ h => h) (Or.inl ⟨by rfl, ?_⟩) (by assumption) ?_
      ·
       intro W0 hSw
       (try dsimp only at hSw)
       go_simp
      simp only [List.set_cons_zero, List.set_cons_succ]
      refine Tr.take_at 6 80 (.int .i64 d) rfl rfl (by kernel_rfl) (by kernel_rfl) (by kernel_rfl) (fun _ _ _ h => h) (Or.inl ⟨by rfl, ?_⟩) (by assumption) ?_
      ·
       intro W0 hSw
       (try dsimp only at hSw)
       go_simp
      simp only [List.set_cons_zero, List.set_cons_succ]
      refine wpAnyH_ready (rs := [7]) (by kernel_rfl) (by simp) ?_
      refine AllReadyH.cons rfl (fun K hK => ?_) AllReadyH.nil; go_simp
      refine ((HSE.out.below (bstep HBX.out HBW.out)).atP (nodesW_ok HM.out.up.upOk) (r : Int) (d : Int) HXY.out).mono ?_
      rintro e wc7 ⟨rfl, hbA⟩
      rw [HWH.out]
      replace HBW := Lib.hid (bstep HBW.out hbA); clear hbA; go_simp
      refine hK.out _ _ (KW.out _ HBW.out) (fun _ => ?_); clear hK K
      refine Tr.take_at 8 73 (.tuple #[.int .u32 wz, .bool true]) rfl rfl (by kernel_rfl) (by kernel_rfl) (by kernel_rfl) (fun _ _ _ h => h) (Or.inl ⟨by rfl, ?_⟩) (by assumption) ?_
      ·
       intro W0 hSw
       (try dsimp only at hSw)
       go_simp
      simp only [List.set_cons_zero, List.set_cons_succ]
      refine Tr.take_at 9 82 (.int .u32 wz) rfl rfl (by kernel_rfl) (by kernel_rfl) (by kernel_rfl) (fun _ _ _ h => h) (Or.inl ⟨by rfl, ?_⟩) (by assumption) ?_
      ·
       intro W0 hSw
       (try dsimp only at hSw)
       go_simp
      simp only [List.set_cons_zero, List.set_cons_succ]
      refine Tr.take_at 10 83 (.bool true) rfl rfl (by kernel_rfl) (by kernel_rfl) (by kernel_rfl) (fun _ _ _ h => h) (Or.inl ⟨by rfl, ?_⟩) (by assumption) ?_
      ·
       intro W0 hSw
       (try dsimp only at hSw)
       go_simp
      simp only [List.set_cons_zero, List.set_cons_succ]
      refine Tr.take_at 11 13 (.int .u32 wz) rfl rfl (by kernel_rfl) (by kernel_rfl) (by kernel_rfl) (fun _ _ _ h => h) (Or.inl ⟨by rfl, ?_⟩) (by assumption) ?_
      ·
       intro W0 hSw
       (try dsimp only at hSw)
       go_simp
      simp only [List.set_cons_zero, List.set_cons_succ]
      refine Tr.take_at 12 14 (.bool true) rfl rfl (by kernel_rfl) (by kernel_rfl) (by kernel_rfl) (fun _ _ _ h => h) (Or.inl ⟨by rfl, ?_⟩) (by assumption) ?_
      ·
       intro W0 hSw
       (try dsimp only at hSw)
       go_simp
      simp only [List.set_cons_zero, List.set_cons_succ]
      refine wpAnyH_done (by kernel_rfl) ?_ _
      refine NoPanic.normal ?_
      go_wp2_with fail
      go_meet
      exact ⟨rfl, rfl, bstep HBX.out HBW.out⟩
    obtain ⟨rfl, rfl, hbc⟩ := hcut
    replace HBX := Lib.hid hbc
    clear hbc
    go_upto_region 14 with fail
    have HBW := Lib.hid (show Below wc.heap.size wc wc.drew from (bre wc).drew)
    have KW := Lib.hid (fun (W' : World) (h : Below wc.heap.size wc W') => show (fun w' => w'.cell? ⟨g3, 0, none⟩ = some (.int .i64 RW) ∧ w'.cell? ⟨g3, 1, none⟩ = some (.int .i64 RH) ∧ w'.cell? ⟨g3, 2, none⟩ = some (.slice Ag (RW * RH) cg)) W' from ⟨(KG.out.belowS (bstep HBX.out h)).cellV (i := 0) rfl, (KG.out.belowS (bstep HBX.out h)).cellV (i := 1) rfl, (KG.out.belowS (bstep HBX.out h)).cellV (i := 2) rfl⟩)
    refine wp_region_noPanic ?_
    refine wp_region_held_drew (S := (fun w' => w'.cell? ⟨g3, 0, none⟩ = some (.int .i64 RW) ∧ w'.cell? ⟨g3, 1, none⟩ = some (.int .i64 RH) ∧ w'.cell? ⟨g3, 2, none⟩ = some (.slice Ag (RW * RH) cg))) (by kernel_rfl) ?_ (fun _ => ?_)
    ·
     (try dsimp only)
     exact ⟨(KG.out.belowS (bstep HBX.out HBW.out)).cellV (i := 0) rfl, (KG.out.belowS (bstep HBX.out HBW.out)).cellV (i := 1) rfl, (KG.out.belowS (bstep HBX.out HBW.out)).cellV (i := 2) rfl⟩
    refine Tr.take_at 0 84 (.agg #[.int .i64 RW, .int .i64 RH, .slice Ag (RW * RH) cg]) rfl rfl (by kernel_rfl) (by kernel_rfl) (by kernel_rfl) (fun _ _ _ h => h) (Or.inl ⟨by rfl, ?_⟩) (by assumption) ?_
    ·
     intro W0 hSw
     (try dsimp only at hSw)
     go_simp
    simp only [List.set_cons_zero, List.set_cons_succ]
    refine Tr.take_at 1 85 (.int .i64 k) rfl rfl (by kernel_rfl) (by kernel_rfl) (by kernel_rfl) (fun _ _ _ h => h) (Or.inl ⟨by rfl, ?_⟩) (by assumption) ?_
    ·
     intro W0 hSw
     (try dsimp only at hSw)
     go_simp
    simp only [List.set_cons_zero, List.set_cons_succ]
    refine Tr.take_at 2 86 (.int .i64 RW) rfl rfl (by kernel_rfl) (by kernel_rfl) (by kernel_rfl) (fun _ _ _ h => h) (Or.inl ⟨by rfl, ?_⟩) (by assumption) ?_
    ·
     intro W0 hSw
     (try dsimp only at hSw)
     go_simp
    simp only [List.set_cons_zero, List.set_cons_succ]
    refine Tr.take_at 3 87 (.int .i64 r) rfl rfl (by kernel_rfl) (by kernel_rfl) (by kernel_rfl) (fun _ _ _ h => h) (Or.inl ⟨by rfl, ?_⟩) (by assumption) ?_
    ·
     intro W0 hSw
     (try dsimp only at hSw)
     go_simp
    simp only [List.set_cons_zero, List.set_cons_succ]
    refine Tr.take_at 4 88 (.int .i64 k) rfl rfl (by kernel_rfl) (by kernel_rfl) (by kernel_rfl) (fun _ _ _ h => h) (Or.inl ⟨by rfl, ?_⟩) (by assumption) ?_
    ·
     intro W0 hSw
     (try dsimp only at hSw)
     go_simp
    simp only [List.set_cons_zero, List.set_cons_succ]
    refine Tr.take_at 5 89 (.int .i64 RW) rfl rfl (by kernel_rfl) (by kernel_rfl) (by kernel_rfl) (fun _ _ _ h => h) (Or.inl ⟨by rfl, ?_⟩) (by assumption) ?_
    ·
     intro W0 hSw
     (try dsimp only at hSw)
     go_simp
    simp only [List.set_cons_zero, List.set_cons_succ]
    refine Tr.take_at 6 90 (.int .i64 d) rfl rfl (by kernel_rfl) (by kernel_rfl) (by kernel_rfl) (fun _ _ _ h => h) (Or.inl ⟨by rfl, ?_⟩) (by assumption) ?_
    ·
     intro W0 hSw
     (try dsimp only at hSw)
     go_simp
    simp only [List.set_cons_zero, List.set_cons_succ]
    refine Tr.take_at 8 92 (.int .u8 pz) rfl rfl (by kernel_rfl) (by kernel_rfl) (by kernel_rfl) (fun _ _ _ h => h) (Or.inl ⟨by rfl, ?_⟩) (by assumption) ?_
    ·
     intro W0 hSw
     (try dsimp only at hSw)
     go_simp
    simp only [List.set_cons_zero, List.set_cons_succ]
    refine wpAnyH_ready (rs := [7]) (by kernel_rfl) (by simp) ?_
    refine AllReadyH.cons rfl (fun K hK => ?_) AllReadyH.nil; go_simp
    refine (Gr.at_any RW RH px (r : Int) (d : Int) Ag (RW * RH) cg _ rfl (by omega) (by omega) (HRG.out.below (bstep HBX.out HBW.out))).mono ?_
    rintro e wc7 ⟨rfl, hbA⟩
    rw [HEQ.out, HPZ.out]
    replace HBW := Lib.hid (bstep HBW.out hbA); clear hbA; go_simp
    refine hK.out _ _ (KW.out _ HBW.out) (fun _ => ?_); clear hK K
    refine Tr.take_at 9 93 (.bool false) rfl rfl (by kernel_rfl) (by kernel_rfl) (by kernel_rfl) (fun _ _ _ h => h) (Or.inl ⟨by rfl, ?_⟩) (by assumption) ?_
    ·
     intro W0 hSw
     (try dsimp only at hSw)
     go_simp
    simp only [List.set_cons_zero, List.set_cons_succ]
    refine Tr.take_at 10 94 (.bool false) rfl rfl (by kernel_rfl) (by kernel_rfl) (by kernel_rfl) (fun _ _ _ h => h) (Or.inl ⟨by rfl, ?_⟩) (by assumption) ?_
    ·
     intro W0 hSw
     (try dsimp only at hSw)
     go_simp
    simp only [List.set_cons_zero, List.set_cons_succ]
    refine Tr.take_at 11 95 (.int .u32 wz) rfl rfl (by kernel_rfl) (by kernel_rfl) (by kernel_rfl) (fun _ _ _ h => h) (Or.inl ⟨by rfl, ?_⟩) (by assumption) ?_
    ·
     intro W0 hSw
     (try dsimp only at hSw)
     go_simp
    simp only [List.set_cons_zero, List.set_cons_succ]
    refine Tr.take_at 12 96 (.int .u32 wz) rfl rfl (by kernel_rfl) (by kernel_rfl) (by kernel_rfl) (fun _ _ _ h => h) (Or.inl ⟨by rfl, ?_⟩) (by assumption) ?_
    ·
     intro W0 hSw
     (try dsimp only at hSw)
     go_simp
    simp only [List.set_cons_zero, List.set_cons_succ]
    refine Tr.take_at 13 97 (.bool false) rfl rfl (by kernel_rfl) (by kernel_rfl) (by kernel_rfl) (fun _ _ _ h => h) (Or.inl ⟨by rfl, ?_⟩) (by assumption) ?_
    ·
     intro W0 hSw
     (try dsimp only at hSw)
     go_simp
    simp only [List.set_cons_zero, List.set_cons_succ]
    refine Tr.take_at 14 98 (.bool false) rfl rfl (by kernel_rfl) (by kernel_rfl) (by kernel_rfl) (fun _ _ _ h => h) (Or.inl ⟨by rfl, ?_⟩) (by assumption) ?_
    ·
     intro W0 hSw
     (try dsimp only at hSw)
     go_simp
    simp only [List.set_cons_zero, List.set_cons_succ]
    refine Tr.take_at 15 99 (.bool false) rfl rfl (by kernel_rfl) (by kernel_rfl) (by kernel_rfl) (fun _ _ _ h => h) (Or.inl ⟨by rfl, ?_⟩) (by assumption) ?_
    ·
     intro W0 hSw
     (try dsimp only at hSw)
     go_simp
    simp only [List.set_cons_zero, List.set_cons_succ]
    refine Tr.take_at 16 100 (.bool true) rfl rfl (by kernel_rfl) (by kernel_rfl) (by kernel_rfl) (fun _ _ _ h => h) (Or.inl ⟨by rfl, ?_⟩) (by assumption) ?_
    ·
     intro W0 hSw
     (try dsimp only at hSw)
     go_simp
    simp only [List.set_cons_zero, List.set_cons_succ]
    refine Tr.take_at 17 101 (.bool false) rfl rfl (by kernel_rfl) (by kernel_rfl) (by kernel_rfl) (fun _ _ _ h => h) (Or.inl ⟨by rfl, ?_⟩) (by assumption) ?_
    ·
     intro W0 hSw
     (try dsimp only at hSw)
     go_simp
    simp only [List.set_cons_zero, List.set_cons_succ]
    refine Tr.take_at 18 102 (.bool false) rfl rfl (by kernel_rfl) (by kernel_rfl) (by kernel_rfl) (fun _ _ _ h => h) (Or.inl ⟨by rfl, ?_⟩) (by assumption) ?_
    ·
     intro W0 hSw
     (try dsimp only at hSw)
     go_simp
    simp only [List.set_cons_zero, List.set_cons_succ]
    refine wpAnyH_done (by kernel_rfl) ?_ _
    refine NoPanic.normal ?_
    go_wp2_with fail
    go_roundw
    case rel => exact ⟨k + 1, by go_num, by omega, bstep HBX.out HBW.out⟩
    case measure => simp [intOf]; omega
   ·
    obtain rfl : k = N := by omega
    have k1 : ¬ (k : Int) < (k : Int) := by omega
    replace HM := Lib.hid (HM.out.below HBX.out)
    replace KM := Lib.hid (KM.out.belowS HBX.out)
    replace HSE := Lib.hid (HSE.out.below HBX.out)
    replace KV := Lib.hid (KV.out.belowS HBX.out)
    replace HRG := Lib.hid (HRG.out.below HBX.out)
    replace KG := Lib.hid (KG.out.belowS HBX.out)
    replace HB := Lib.hid (bstep HB.out HBX.out)
    have q0 := KM.out.cellV (i := 0) (v := .map m1) rfl
    have q1 := KM.out.cellV (i := 1) (v := .map m2) rfl
    have q2 := KM.out.cellV (i := 2) (v := .map m3) rfl
    have q3 := KM.out.cellV (i := 3) (v := .map m4) rfl
    go_wp2_with fail
    refine (look34 HM.out hok (RW : Int) 0).mono ?_
    rintro e w7 ⟨rfl, hb7⟩
    have hno : whoD l RW RH (RW : Int) 0 = 0 := by
     unfold whoD
     rw [if_neg (fun hh => by have := (rectP_iff _ _).1 hh; omega)]
    rw [hno]
    replace HB := Lib.hid (bstep HB.out hb7)
    clear hb7 hno q0 q1 q2 q3
    go_wp2_with (go_at_call 34; refine (awake34_any _).mono ?_; rintro e w9 ⟨rfl, hb9⟩; have HB9 := Lib.hid (bstep HB.out hb9); clear hb9)
    go_ret
    exact ⟨rfl, HB9.out⟩
end Go.Proofs.YtdaedkolpfkdjaaGreat
end
