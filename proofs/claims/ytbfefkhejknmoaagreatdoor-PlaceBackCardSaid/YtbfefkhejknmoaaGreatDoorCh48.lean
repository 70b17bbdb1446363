/-
  The walk of the law PlaceBack.
-/
import Derived.Test.YtbfefkhejknmoaaGreatDoorCh47
namespace Go.Proofs.YtbfefkhejknmoaaGreatDoor
open Go.RowKit Go.Shelf

theorem okPair_get {a c : Option BX} (h : okPair a c) : c.isSome = a.isSome ∧ ((c.getD zBX).X = (a.getD zBX).X ∨ (c.getD zBX).X = (a.getD zBX).X - 1) ∧ ((c.getD zBX).Y = (a.getD zBX).Y ∨ (c.getD zBX).Y = (a.getD zBX).Y - 1) ∧ (c.getD zBX).W = (a.getD zBX).W ∧ (c.getD zBX).H = (a.getD zBX).H ∧ (c.getD zBX).M = (a.getD zBX).M := by
  rcases h with ⟨rfl, rfl⟩ | ⟨k, k', rfl, rfl, h1, h2, h3, h4, h5⟩
  · exact ⟨rfl, .inl rfl, .inl rfl, rfl, rfl, rfl⟩
  · exact ⟨rfl, h1, h2, h3, h4, h5⟩
theorem okBs_get {bs : Bxs} (h : okBs bs) (x : Int) : (-32768 ≤ ((bs x).getD zBX).X ∧ ((bs x).getD zBX).X ≤ 32767) ∧ (-32768 ≤ ((bs x).getD zBX).Y ∧ ((bs x).getD zBX).Y ≤ 32767) := by
  cases e : bs x with
  | none => exact ⟨by decide, by decide⟩
  | some b => exact ⟨(h x b e).1, (h x b e).2.1⟩

set_option maxRecDepth 100000 in
set_option maxHeartbeats 8000000 in
theorem pback_any (x : WN) (id : Int) (r : RC) (UL : List Int) (L : List DB) (w : World) (hg : GivenW w x UL L) (hid : 0 ≤ id ∧ id ≤ 4294967295) (hH : Halves w) :
    Calls Tryz.prog 3 #[x.v, .int .u32 id, .agg #[.int .i64 r.X, .int .i64 r.Y, .int .i64 r.W, .int .i64 r.H]] w fun e w' => e = .returned (.bool true) ∧ Below w.heap.size w w' := by
  have hw0 := hH.1
  obtain ⟨W, H, U, nu, cu, A, nl, cl⟩ := x
  have hxv : (⟨W, H, U, nu, cu, A, nl, cl⟩ : WN).v = .agg #[.int .i64 W, .int .i64 H, .slice U nu cu, .slice A nl cl] := rfl
  rw [hxv]
  have HXV := Lib.hid hxv
  have HB := Lib.hid (bal (bal (bre w) (.cells #[.int .i64 W, .int .i64 H, .slice U nu cu, .slice A nl cl] 25)) (.cells #[.int .i64 r.X, .int .i64 r.Y, .int .i64 r.W, .int .i64 r.H] 29))
  have HG := Lib.hid (hg.below HB.out)
  have HH := Lib.hid (hH.below HB.out hw0)
  have K3 := Lib.hid ((Blk.new w 25 #[.int .i64 W, .int .i64 H, .slice U nu cu, .slice A nl cl]).alloc (.cells #[.int .i64 r.X, .int .i64 r.Y, .int .i64 r.W, .int .i64 r.H] 29))
  have K5 := Lib.hid (blk_new2 w (.cells #[.int .i64 W, .int .i64 H, .slice U nu cu, .slice A nl cl] 25) 29 #[.int .i64 r.X, .int .i64 r.Y, .int .i64 r.W, .int .i64 r.H])
  clear hg hH hxv
  go_enter Tryz.func3, Tryz.ntmps3
  go_wp2_with fail
  with_reducible refine (awake_any _ HH.out).mono ?_
  rintro e w1 ⟨rfl, hb1⟩
  replace HG := Lib.hid (HG.out.below hb1)
  replace K3 := Lib.hid (K3.out.belowS hb1)
  replace K5 := Lib.hid (K5.out.belowS hb1)
  have HHx := HH.out.below hb1 (Nat.lt_of_lt_of_le hw0 HB.out.size)
  replace HH := Lib.hid HHx
  replace HB := Lib.hid (bstep HB.out hb1)
  clear hb1 HHx
  have p0 := K3.out.cellV (i := 0) (v := .int .i64 W) rfl
  have p1 := K3.out.cellV (i := 1) (v := .int .i64 H) rfl
  have p2 := K3.out.cellV (i := 2) (v := .slice U nu cu) rfl
  have p3 := K3.out.cellV (i := 3) (v := .slice A nl cl) rfl
  go_wp2_with fail
  rw [← HXV.out]
  refine (few_any _ L _ HG.out.list HG.out.nl).mono ?_
  rintro e w2 ⟨rfl, hb2⟩
  clear p0 p1 p2 p3
  replace HG := Lib.hid (HG.out.below hb2)
  replace K3 := Lib.hid (K3.out.belowS hb2)
  replace K5 := Lib.hid (K5.out.belowS hb2)
  replace HB := Lib.hid (bstep HB.out hb2)
  have HHx := HH.out.below hb2 (Nat.lt_of_le_of_lt (Nat.zero_le _) K3.out.lt |> fun _ => by have := HH.out.1; exact this)
  replace HH := Lib.hid HHx
  clear hb2 HHx
  cases hf : fewB L
  ·
    go_wp2_with fail
    go_ret
    exact ⟨rfl, HB.out⟩
  have HF := Lib.hid hf
  clear hf
  have p0 := K3.out.cellV (i := 0) (v := .int .i64 W) rfl
  have p1 := K3.out.cellV (i := 1) (v := .int .i64 H) rfl
  have p2 := K3.out.cellV (i := 2) (v := .slice U nu cu) rfl
  have p3 := K3.out.cellV (i := 3) (v := .slice A nl cl) rfl
  go_wp2_with fail
  rw [← HXV.out]
  refine (built_few _ UL L _ HG.out HF.out).mono ?_
  rintro e w3 ⟨mk, mu, mp, An, nn, cn, Al, cq, ns, n, bs, l, nk, fk, rfl, hat, hl, hn71, hb3⟩
  have HAT := Lib.hid hat
  clear p0 p1 p2 p3 hat hl
  replace K3 := Lib.hid (K3.out.belowS hb3)
  replace K5 := Lib.hid (K5.out.belowS hb3)
  replace HB := Lib.hid (bstep HB.out hb3)
  have HHx := HH.out.below hb3 HH.out.1
  replace HH := Lib.hid HHx
  clear hb3 HHx HG
  go_upto_region 6 with fail
  have hba : Below w3.heap.size w3 ((w3.alloc (.cells #[.map mk, .map mu] 35)).alloc (.cells #[.map mp] 38)) := bal (bal (bre w3) _) _
  have xHB := bstep HB.out hba
  have xHAT := HAT.out.below hba
  have xK3 := K3.out.belowS hba
  have xK5 := K5.out.belowS hba
  have xHH := HH.out.below hba HH.out.1
  have xK7 := (Blk.new w3 35 #[.map mk, .map mu]).alloc (.cells #[.map mp] 38)
  have xK8 := blk_new2 w3 (.cells #[.map mk, .map mu] 35) 38 #[.map mp]
  obtain ⟨X3, hX3⟩ : ∃ X3, (w3.alloc (.cells #[.map mk, .map mu] 35)).alloc (.cells #[.map mp] 38) = X3 := ⟨_, rfl⟩
  rw [hX3] at xHB xHAT xK3 xK5 xHH xK7 xK8 ⊢
  replace HB := Lib.hid xHB
  replace HAT := Lib.hid xHAT
  replace K3 := Lib.hid xK3
  replace K5 := Lib.hid xK5
  replace HH := Lib.hid xHH
  have K7 := Lib.hid xK7
  have K8 := Lib.hid xK8
  clear hba hX3 xHB xHAT xK3 xK5 xHH xK7 xK8
  have hn1000 : n ≤ 1000 := by omega
  have p8 := K8.out.cellV (i := 0) (v := .map mp) rfl
  go_wp2_with fail
  with_reducible refine (box_any _ n bs id _ hid HAT.out.place).mono ?_
  rintro e w4 ⟨rfl, hb4⟩
  obtain ⟨b0, hb0⟩ : ∃ b0, (bs id).getD zBX = b0 := ⟨_, rfl⟩
  obtain ⟨s, hs⟩ : ∃ s, (bs id).isSome = s := ⟨_, rfl⟩
  rw [hb0, hs]
  unfold BX.v
  have HB0 := Lib.hid hb0
  have HS := Lib.hid hs
  clear hb0 hs p8
  replace HH := Lib.hid (HH.out.below hb4 HH.out.1)
  replace K3 := Lib.hid (K3.out.belowS hb4)
  replace K5 := Lib.hid (K5.out.belowS hb4)
  replace HB := Lib.hid (bstep HB.out hb4)
  replace HAT := Lib.hid (HAT.out.below hb4)
  replace K7 := Lib.hid (K7.out.belowS hb4)
  replace K8 := Lib.hid (K8.out.belowS hb4)
  clear hb4
  go_upto_region 7 with fail
  have xHH := HH.out.below (bal (bre w4) (.cells #[.int .i64 b0.X, .int .i64 b0.Y, .int .i64 b0.W, .int .i64 b0.H, .bool b0.M, .int .i64 b0.G, .int .i64 b0.B, .bool b0.S, .slice b0.A b0.n b0.c] 46)) HH.out.1
  have hba : Below w4.heap.size w4 (w4.alloc (.cells #[.int .i64 b0.X, .int .i64 b0.Y, .int .i64 b0.W, .int .i64 b0.H, .bool b0.M, .int .i64 b0.G, .int .i64 b0.B, .bool b0.S, .slice b0.A b0.n b0.c] 46)) := bal (bre w4) (.cells #[.int .i64 b0.X, .int .i64 b0.Y, .int .i64 b0.W, .int .i64 b0.H, .bool b0.M, .int .i64 b0.G, .int .i64 b0.B, .bool b0.S, .slice b0.A b0.n b0.c] 46)
  have xK3 := K3.out.belowS hba
  have xK5 := K5.out.belowS hba
  have xHB := bstep HB.out hba
  have xHAT := HAT.out.below hba
  have xK7 := K7.out.belowS hba
  have xK8 := K8.out.belowS hba
  have xK12 := Blk.new w4 46 #[.int .i64 b0.X, .int .i64 b0.Y, .int .i64 b0.W, .int .i64 b0.H, .bool b0.M, .int .i64 b0.G, .int .i64 b0.B, .bool b0.S, .slice b0.A b0.n b0.c]
  obtain ⟨X4, hX4⟩ : ∃ X4, w4.alloc (.cells #[.int .i64 b0.X, .int .i64 b0.Y, .int .i64 b0.W, .int .i64 b0.H, .bool b0.M, .int .i64 b0.G, .int .i64 b0.B, .bool b0.S, .slice b0.A b0.n b0.c] 46) = X4 := ⟨_, rfl⟩
  rw [hX4] at xHH xK3 xK5 xHB xHAT xK7 xK8 xK12 ⊢
  replace K3 := Lib.hid xK3
  replace K5 := Lib.hid xK5
  replace HB := Lib.hid xHB
  replace HAT := Lib.hid xHAT
  replace K7 := Lib.hid xK7
  replace K8 := Lib.hid xK8
  replace HH := Lib.hid xHH
  have K12 := Lib.hid xK12
  clear hba hX4 xHH xK3 xK5 xHB xHAT xK7 xK8 xK12
  have p0 := K8.out.cellV (i := 0) (v := .map mp) rfl
  have q0 := K7.out.cellV (i := 0) (v := .map mk) rfl
  have q1 := K7.out.cellV (i := 1) (v := .map mu) rfl
  have s0 := K5.out.cellV (i := 0) (v := .int .i64 r.X) rfl
  have s1 := K5.out.cellV (i := 1) (v := .int .i64 r.Y) rfl
  have s2 := K5.out.cellV (i := 2) (v := .int .i64 r.W) rfl
  have s3 := K5.out.cellV (i := 3) (v := .int .i64 r.H) rfl
  go_wp2_with fail
  refine (resize_any (.agg #[.map mp]) (.agg #[.map mk, .map mu]) n bs ns mk mu nk fk id r _ hid HAT.out.place hn1000 HAT.out.tree HAT.out.tok HAT.out.rel.ok HH.out).mono ?_
  rintro e w5 ⟨pv5, rfl, hp5, hb5⟩
  obtain ⟨mq, rfl, hmq⟩ := hp5
  have HP5 := Lib.hid (show PlaceIs w5 (.agg #[.map mq]) n (resBs bs ns id r) from ⟨mq, rfl, hmq⟩)
  obtain ⟨rc, hrc⟩ : ∃ rc, resC bs ns id r = rc := ⟨_, rfl⟩
  rw [hrc]
  have HRC := Lib.hid hrc
  clear hrc hmq p0 q0 q1 s0 s1 s2 s3
  replace HH := Lib.hid (HH.out.below hb5 HH.out.1)
  replace K3 := Lib.hid (K3.out.belowS hb5)
  replace K5 := Lib.hid (K5.out.belowS hb5)
  replace HB := Lib.hid (bstep HB.out hb5)
  replace HAT := Lib.hid (HAT.out.below hb5)
  replace K7 := Lib.hid (K7.out.belowS hb5)
  replace K8 := Lib.hid (K8.out.belowS hb5)
  replace K12 := Lib.hid (K12.out.belowS hb5)
  clear hb5
  go_upto_region 8 with fail
  have xHH := HH.out.below (bal (bre w5) (.cells #[.map mq] 38)) HH.out.1
  have hba : Below w5.heap.size w5 (w5.alloc (.cells #[.map mq] 38)) := bal (bre w5) (.cells #[.map mq] 38)
  have xK3 := K3.out.belowS hba
  have xK5 := K5.out.belowS hba
  have xHB := bstep HB.out hba
  have xHAT := HAT.out.below hba
  have xK7 := K7.out.belowS hba
  have xK8 := K8.out.belowS hba
  have xK12 := K12.out.belowS hba
  have xHP5 := HP5.out.below hba
  have xK14 := Blk.new w5 38 #[.map mq]
  obtain ⟨X5, hX5⟩ : ∃ X5, w5.alloc (.cells #[.map mq] 38) = X5 := ⟨_, rfl⟩
  rw [hX5] at xHH xK3 xK5 xHB xHAT xK7 xK8 xK12 xHP5 xK14 ⊢
  replace K3 := Lib.hid xK3
  replace K5 := Lib.hid xK5
  replace HB := Lib.hid xHB
  replace HAT := Lib.hid xHAT
  replace K7 := Lib.hid xK7
  replace K8 := Lib.hid xK8
  replace K12 := Lib.hid xK12
  replace HP5 := Lib.hid xHP5
  replace HH := Lib.hid xHH
  have K14 := Lib.hid xK14
  clear hba hX5 xHH xK3 xK5 xHB xHAT xK7 xK8 xK12 xHP5 xK14
  cases s
  · go_wp2_with fail
    go_ret
    exact ⟨rfl, HB.out⟩
  by_cases hrz : rc = 0
  rotate_left
  · have d1 : (rc != 0) = true := by simp [hrz]
    go_wp2_with fail
    go_ret
    exact ⟨rfl, HB.out⟩
  obtain rfl : rc = 0 := hrz
  as_aux_lemma =>
    have HBI := Lib.hid (show bs id = some b0 by
      have h1 := HS.out
      have h2 := HB0.out
      cases hb : bs id with
      | none => rw [hb] at h1; cases h1
      | some b => rw [hb] at h2; exact congrArg some h2)
    have p0 := K14.out.cellV (i := 0) (v := .map mq) rfl
    have q0 := K7.out.cellV (i := 0) (v := .map mk) rfl
    have q1 := K7.out.cellV (i := 1) (v := .map mu) rfl
    have s0 := K12.out.cellV (i := 0) (v := .int .i64 b0.X) rfl
    have s1 := K12.out.cellV (i := 1) (v := .int .i64 b0.Y) rfl
    have s2 := K12.out.cellV (i := 2) (v := .int .i64 b0.W) rfl
    have s3 := K12.out.cellV (i := 3) (v := .int .i64 b0.H) rfl
    go_wp2_with fail
    refine (resize_any (.agg #[.map mq]) (.agg #[.map mk, .map mu]) n (resBs bs ns id r) ns mk mu nk fk id ⟨b0.X, b0.Y, b0.W, b0.H⟩ _ hid HP5.out hn1000 HAT.out.tree HAT.out.tok (resBs_ok HAT.out.rel.ok HRC.out) HH.out).mono ?_
    rintro e w6 ⟨pv6, rfl, hp6, hb6⟩
    obtain ⟨ms, rfl, hms⟩ := hp6
    have HP6 := Lib.hid (show PlaceIs w6 (.agg #[.map ms]) n (resBs (resBs bs ns id r) ns id (rcOf b0)) from ⟨ms, rfl, hms⟩)
    have hpc := pb_code HAT.out.tok HBI.out HAT.out.rel.ok HRC.out
    obtain ⟨fc, hfc⟩ : ∃ fc, resC (resBs bs ns id r) ns id (rcOf b0) = fc := ⟨_, rfl⟩
    have hfc' : resC (resBs bs ns id r) ns id ⟨b0.X, b0.Y, b0.W, b0.H⟩ = fc := hfc
    rw [hfc']
    rw [hfc] at hpc
    have HFC := Lib.hid hfc
    clear hfc hfc' hms p0 q0 q1 s0 s1 s2 s3
    replace HH := Lib.hid (HH.out.below hb6 HH.out.1)
    replace K3 := Lib.hid (K3.out.belowS hb6)
    replace K5 := Lib.hid (K5.out.belowS hb6)
    replace HB := Lib.hid (bstep HB.out hb6)
    replace HAT := Lib.hid (HAT.out.below hb6)
    replace K7 := Lib.hid (K7.out.belowS hb6)
    replace K8 := Lib.hid (K8.out.belowS hb6)
    replace K12 := Lib.hid (K12.out.belowS hb6)
    replace HP5 := Lib.hid (HP5.out.below hb6)
    replace K14 := Lib.hid (K14.out.belowS hb6)
    clear hb6
    go_upto_region 11 with fail
    have xHH := HH.out.below (bal (bre w6) (.cells #[.map ms] 38)) HH.out.1
    have hba : Below w6.heap.size w6 (w6.alloc (.cells #[.map ms] 38)) := bal (bre w6) (.cells #[.map ms] 38)
    have xK3 := K3.out.belowS hba
    have xK5 := K5.out.belowS hba
    have xHB := bstep HB.out hba
    have xHAT := HAT.out.below hba
    have xK7 := K7.out.belowS hba
    have xK8 := K8.out.belowS hba
    have xK12 := K12.out.belowS hba
    have xHP5 := HP5.out.below hba
    have xK14 := K14.out.belowS hba
    have xHP6 := HP6.out.below hba
    have xK16 := Blk.new w6 38 #[.map ms]
    obtain ⟨X6, hX6⟩ : ∃ X6, w6.alloc (.cells #[.map ms] 38) = X6 := ⟨_, rfl⟩
    rw [hX6] at xHH xK3 xK5 xHB xHAT xK7 xK8 xK12 xHP5 xK14 xHP6 xK16 ⊢
    replace K3 := Lib.hid xK3
    replace K5 := Lib.hid xK5
    replace HB := Lib.hid xHB
    replace HAT := Lib.hid xHAT
    replace K7 := Lib.hid xK7
    replace K8 := Lib.hid xK8
    replace K12 := Lib.hid xK12
    replace HP5 := Lib.hid xHP5
    replace K14 := Lib.hid xK14
    replace HP6 := Lib.hid xHP6
    replace HH := Lib.hid xHH
    have K16 := Lib.hid xK16
    clear hba hX6 xHH xK3 xK5 xHB xHAT xK7 xK8 xK12 xHP5 xK14 xHP6 xK16
    rcases hpc with rfl | rfl
    rotate_left
    · go_wp2_with fail
      go_ret
      exact ⟨rfl, HB.out⟩
    have p0 := K16.out.cellV (i := 0) (v := .map ms) rfl
    have HSF := Lib.hid (pb_self HAT.out.tok HBI.out HRC.out HFC.out)
    go_wp2_with fail
    with_reducible refine (box_any _ n _ id _ hid HP6.out).mono ?_
    rintro e w7 ⟨rfl, hb7⟩
    rw [HSF.out]
    simp only [Option.getD_some, Option.isSome_some]
    unfold BX.v
    clear p0
    replace HH := Lib.hid (HH.out.below hb7 HH.out.1)
    replace K3 := Lib.hid (K3.out.belowS hb7)
    replace K5 := Lib.hid (K5.out.belowS hb7)
    replace HB := Lib.hid (bstep HB.out hb7)
    replace HAT := Lib.hid (HAT.out.below hb7)
    replace K7 := Lib.hid (K7.out.belowS hb7)
    replace K8 := Lib.hid (K8.out.belowS hb7)
    replace K12 := Lib.hid (K12.out.belowS hb7)
    replace HP5 := Lib.hid (HP5.out.below hb7)
    replace K14 := Lib.hid (K14.out.belowS hb7)
    replace HP6 := Lib.hid (HP6.out.below hb7)
    replace K16 := Lib.hid (K16.out.belowS hb7)
    clear hb7
    go_upto_region 14 with fail
    have xHH := HH.out.below (bal (bre w7) (.cells #[.int .i64 b0.X, .int .i64 b0.Y, .int .i64 b0.W, .int .i64 b0.H, .bool b0.M, .int .i64 b0.G, .int .i64 b0.B, .bool b0.S, .slice b0.A b0.n b0.c] 46)) HH.out.1
    have hba : Below w7.heap.size w7 (w7.alloc (.cells #[.int .i64 b0.X, .int .i64 b0.Y, .int .i64 b0.W, .int .i64 b0.H, .bool b0.M, .int .i64 b0.G, .int .i64 b0.B, .bool b0.S, .slice b0.A b0.n b0.c] 46)) := bal (bre w7) (.cells #[.int .i64 b0.X, .int .i64 b0.Y, .int .i64 b0.W, .int .i64 b0.H, .bool b0.M, .int .i64 b0.G, .int .i64 b0.B, .bool b0.S, .slice b0.A b0.n b0.c] 46)
    have xK3 := K3.out.belowS hba
    have xK5 := K5.out.belowS hba
    have xHB := bstep HB.out hba
    have xHAT := HAT.out.below hba
    have xK7 := K7.out.belowS hba
    have xK8 := K8.out.belowS hba
    have xK12 := K12.out.belowS hba
    have xHP5 := HP5.out.below hba
    have xK14 := K14.out.belowS hba
    have xHP6 := HP6.out.below hba
    have xK16 := K16.out.belowS hba
    have xK18 := Blk.new w7 46 #[.int .i64 b0.X, .int .i64 b0.Y, .int .i64 b0.W, .int .i64 b0.H, .bool b0.M, .int .i64 b0.G, .int .i64 b0.B, .bool b0.S, .slice b0.A b0.n b0.c]
    obtain ⟨X7, hX7⟩ : ∃ X7, w7.alloc (.cells #[.int .i64 b0.X, .int .i64 b0.Y, .int .i64 b0.W, .int .i64 b0.H, .bool b0.M, .int .i64 b0.G, .int .i64 b0.B, .bool b0.S, .slice b0.A b0.n b0.c] 46) = X7 := ⟨_, rfl⟩
    rw [hX7] at xHH xK3 xK5 xHB xHAT xK7 xK8 xK12 xHP5 xK14 xHP6 xK16 xK18 ⊢
    replace K3 := Lib.hid xK3
    replace K5 := Lib.hid xK5
    replace HB := Lib.hid xHB
    replace HAT := Lib.hid xHAT
    replace K7 := Lib.hid xK7
    replace K8 := Lib.hid xK8
    replace K12 := Lib.hid xK12
    replace HP5 := Lib.hid xHP5
    replace K14 := Lib.hid xK14
    replace HP6 := Lib.hid xHP6
    replace K16 := Lib.hid xK16
    replace HH := Lib.hid xHH
    have K18 := Lib.hid xK18
    clear hba hX7 xHH xK3 xK5 xHB xHAT xK7 xK8 xK12 xHP5 xK14 xHP6 xK16 xK18
    have p0 := K18.out.cellV (i := 0) (v := .int .i64 b0.X) rfl
    have p1 := K18.out.cellV (i := 1) (v := .int .i64 b0.Y) rfl
    have p2 := K18.out.cellV (i := 2) (v := .int .i64 b0.W) rfl
    have p3 := K18.out.cellV (i := 3) (v := .int .i64 b0.H) rfl
    have s0 := K12.out.cellV (i := 0) (v := .int .i64 b0.X) rfl
    have s1 := K12.out.cellV (i := 1) (v := .int .i64 b0.Y) rfl
    have s2 := K12.out.cellV (i := 2) (v := .int .i64 b0.W) rfl
    have s3 := K12.out.cellV (i := 3) (v := .int .i64 b0.H) rfl
    go_upto_region 16 with fail
    clear p0 p1 p2 p3 s0 s1 s2 s3
    have q0 := K7.out.cellV (i := 0) (v := .map mk) rfl
    have q1 := K7.out.cellV (i := 1) (v := .map mu) rfl
    go_wp2_with fail
    with_reducible refine (kids_any _ ns mk mu nk fk id _ hid HAT.out.tree).mono ?_
    rintro e w8 ⟨u, rfl, hou, hb8⟩
    obtain ⟨Ak, ck, rfl, hck⟩ := own_form hou
    have HOU := Lib.hid (Rd.of_own hou)
    have hkl := kids_len HAT.out.tree.few id
    have HLO := Lib.hid (show ∀ x ∈ kidsOf ns id, 0 ≤ x ∧ x ≤ 4294967295 from fun x hx => kids_ok HAT.out.tree.ok hx)
    have HKN := Lib.hid (show ∀ x ∈ kidsOf ns id, okPair (bs x) (resBs (resBs bs ns id r) ns id (rcOf b0) x) from fun x hx => pb_kid HAT.out.tok HBI.out HRC.out HFC.out hx)
    have HBO := Lib.hid HAT.out.rel.ok
    obtain ⟨sbs, hsbs⟩ : ∃ sbs, resBs (resBs bs ns id r) ns id (rcOf b0) = sbs := ⟨_, rfl⟩
    have hkn := HKN.out
    have hp6 := HP6.out
    rw [hsbs] at hkn hp6
    replace HKN := Lib.hid hkn
    replace HP6 := Lib.hid hp6
    clear hkn hp6 hou q0 q1 HSF hsbs
    replace HH := Lib.hid (HH.out.below hb8 HH.out.1)
    replace K3 := Lib.hid (K3.out.belowS hb8)
    replace K5 := Lib.hid (K5.out.belowS hb8)
    replace HB := Lib.hid (bstep HB.out hb8)
    replace HAT := Lib.hid (HAT.out.below hb8)
    replace K7 := Lib.hid (K7.out.belowS hb8)
    replace K8 := Lib.hid (K8.out.belowS hb8)
    replace K12 := Lib.hid (K12.out.belowS hb8)
    replace HP5 := Lib.hid (HP5.out.below hb8)
    replace K14 := Lib.hid (K14.out.belowS hb8)
    replace HP6 := Lib.hid (HP6.out.below hb8)
    replace K16 := Lib.hid (K16.out.belowS hb8)
    replace K18 := Lib.hid (K18.out.belowS hb8)
    clear hb8
    obtain ⟨kl, hkls⟩ : ∃ kl, kidsOf ns id = kl := ⟨_, rfl⟩
    have h1 := HOU.out
    have h2 := HLO.out
    have h3 := HKN.out
    rw [hkls] at h1 h2 h3 hkl hck ⊢
    replace HOU := Lib.hid h1
    replace HLO := Lib.hid h2
    replace HKN := Lib.hid h3
    clear h1 h2 h3 hkls
    obtain ⟨n', hn'⟩ : ∃ n', kl.length = n' := ⟨_, rfl⟩
    have h1 := HOU.out
    rw [hn'] at h1 hkl hck ⊢
    replace HOU := Lib.hid h1
    have HN' := Lib.hid hn'
    clear h1 hn'
    go_wp2_with fail
    as_aux_lemma =>
      go_loopw [21] (fun i wr => ∃ k : Nat, i = .int .i64 k ∧ k ≤ n' ∧ Below w8.heap.size w8 wr) (fun i _ => n' - (intOf i).toNat)
      case atStart => exact ⟨0, rfl, by omega, bre w8⟩
      case round =>
        obtain ⟨k, rfl, hk, hbw⟩ := hrel
        replace HP6 := Lib.hid (HP6.out.below hbw)
        replace HB := Lib.hid (bstep HB.out hbw)
        replace HAT := Lib.hid (HAT.out.below hbw)
        replace K8 := Lib.hid (K8.out.belowS hbw)
        replace K16 := Lib.hid (K16.out.belowS hbw)
        replace HOU := Lib.hid (HOU.out.below hbw)
        have HBW8 := Lib.hid hbw
        clear hbw
        as_aux_lemma =>
          by_cases hlt : k < n'
          ·
            obtain ⟨x, hx⟩ : ∃ x, kl[k]? = some x := ⟨_, List.getElem?_eq_getElem (by rw [HN'.out]; exact hlt)⟩
            have hxm := List.mem_of_getElem? hx
            have hxb := HLO.out x hxm
            have hop := HKN.out x hxm
            have k1 : (k : Int) < (n' : Int) := by omega
            have k0 : (0 : Int) ≤ (k : Int) := by omega
            obtain ⟨bo, off, rfl, hbl, hcl⟩ := HOU.out.2 (by omega)
            have hcell := hcl k _ (U32_at hx)
            have HCELL := Lib.hid hcell
            clear hx hcl hcell hxm
            obtain ⟨ka, hka⟩ : ∃ ka, (bs x).getD zBX = ka := ⟨_, rfl⟩
            obtain ⟨kc, hkc⟩ : ∃ kc, (sbs x).getD zBX = kc := ⟨_, rfl⟩
            obtain ⟨sa, hsa⟩ : ∃ sa, (bs x).isSome = sa := ⟨_, rfl⟩
            have hpair := okPair_get hop
            have hbnd := okBs_get HBO.out x
            rw [hka, hkc, hsa] at hpair
            rw [hka] at hbnd
            obtain ⟨hsc, hpX, hpY, hpW, hpH, hpM⟩ := hpair
            have HKA := Lib.hid hka
            have HKC := Lib.hid hkc
            have HSA := Lib.hid hsa
            have HSC := Lib.hid hsc
            have HPW := Lib.hid hpW
            have HPH := Lib.hid hpH
            have HPM := Lib.hid hpM
            clear hop hka hkc hsa hsc hpW hpH hpM
            go_upto_region 20 with fail
            have HBW := Lib.hid (show Below wr.heap.size wr wr.drew from (bre wr).drew)
            have HBOB := Lib.hid (block_lt_of_cell HCELL.out)
            go_cut [22, 23] (fun sb so wx => ∃ g : Nat, sb = .pointer (some ⟨g, 0, none⟩) ∧ so = .bool sa ∧ Blk wx g 46 #[.int .i64 ka.X, .int .i64 ka.Y, .int .i64 ka.W, .int .i64 ka.H, .bool ka.M, .int .i64 ka.G, .int .i64 ka.B, .bool ka.S, .slice ka.A ka.n ka.c] ∧ Below wr.heap.size wr wx)
            case first =>
              refine wp_region_noPanic ?_
              refine wp_region_held_drew (S := (fun w' => w'.cell? ⟨w3.heap.size + 1, 0, none⟩ = some (.map mp) ∧ w'.cell? ⟨bo, off + k, none⟩ = some (.int .u32 x))) (by kernel_rfl) ?_ (fun hHeld => ?_)
              · (try dsimp only)
                exact ⟨(K8.out.belowS HBW.out).cellV (i := 0) rfl, (HBW.out.cell (p := ⟨bo, off + k, none⟩) HBOB.out).trans HCELL.out⟩
              refine Tr.take_at 0 125 (.agg #[.map mp]) rfl rfl (by kernel_rfl) (by kernel_rfl) (by kernel_rfl) (fun _ _ _ h => h) (Or.inl ⟨by rfl, ?_⟩) (by assumption) ?_
              · intro W0 hSw
                (try dsimp only at hSw)
                go_simp
              simp only [List.set_cons_zero, List.set_cons_succ]
              refine Tr.take_at 1 126 (.slice (some ⟨bo, off, none⟩) n' ck) rfl rfl (by kernel_rfl) (by kernel_rfl) (by kernel_rfl) (fun _ _ _ h => h) (Or.inl ⟨by rfl, ?_⟩) (by assumption) ?_
              · intro W0 hSw
                (try dsimp only at hSw)
                go_simp
              simp only [List.set_cons_zero, List.set_cons_succ]
              refine Tr.take_at 2 127 (.int .i64 (k : Int)) rfl rfl (by kernel_rfl) (by kernel_rfl) (by kernel_rfl) (fun _ _ _ h => h) (Or.inl ⟨by rfl, ?_⟩) (by assumption) ?_
              · intro W0 hSw
                (try dsimp only at hSw)
                go_simp
              simp only [List.set_cons_zero, List.set_cons_succ]
              refine Tr.take_at 3 128 (.pointer (some ⟨bo, off + k, none⟩)) rfl rfl (by kernel_rfl) (by kernel_rfl) (by kernel_rfl) (fun _ _ _ h => h) (Or.inl ⟨by rfl, ?_⟩) (by assumption) ?_
              · intro W0 hSw
                (try dsimp only at hSw)
                go_simp
              simp only [List.set_cons_zero, List.set_cons_succ]
              refine Tr.take_at 4 129 (.int .u32 x) rfl rfl (by kernel_rfl) (by kernel_rfl) (by kernel_rfl) (fun _ _ _ h => h) (Or.inl ⟨by rfl, ?_⟩) (by assumption) ?_
              · intro W0 hSw
                (try dsimp only at hSw)
                go_simp
              simp only [List.set_cons_zero, List.set_cons_succ]
              refine wpAnyH_ready (rs := [5, 9]) (by kernel_rfl) (by simp) ?_
              refine AllReadyH.cons rfl (fun K hK => ?_) (AllReadyH.cons rfl (fun K hK => ?_) AllReadyH.nil)
              ·
                go_simp
                refine (box_any (.agg #[.map mp]) n bs x _ hxb (HAT.out.place.below HBW.out)).mono ?_
                rintro e wA ⟨rfl, hbA⟩
                rw [HKA.out, HSA.out]
                unfold BX.v
                replace HBW := Lib.hid (bstep HBW.out hbA)
                clear hbA
                go_simp
                refine hK.out _ _ ?_ (fun hHeld => ?_)
                · (try dsimp only)
                  exact ⟨(K8.out.belowS HBW.out).cellV (i := 0) rfl, (HBW.out.cell (p := ⟨bo, off + k, none⟩) HBOB.out).trans HCELL.out⟩
                clear hK K
                refine Tr.take_at 6 124 (.tuple #[.agg #[.int .i64 ka.X, .int .i64 ka.Y, .int .i64 ka.W, .int .i64 ka.H, .bool ka.M, .int .i64 ka.G, .int .i64 ka.B, .bool ka.S, .slice ka.A ka.n ka.c], .bool sa]) rfl rfl (by kernel_rfl) (by kernel_rfl) (by kernel_rfl) (fun _ _ _ h => h) (Or.inl ⟨by rfl, ?_⟩) (by assumption) ?_
                · intro W0 hSw
                  (try dsimp only at hSw)
                  go_simp
                simp only [List.set_cons_zero, List.set_cons_succ]
                refine Tr.take_at 7 131 (.agg #[.int .i64 ka.X, .int .i64 ka.Y, .int .i64 ka.W, .int .i64 ka.H, .bool ka.M, .int .i64 ka.G, .int .i64 ka.B, .bool ka.S, .slice ka.A ka.n ka.c]) rfl rfl (by kernel_rfl) (by kernel_rfl) (by kernel_rfl) (fun _ _ _ h => h) (Or.inl ⟨by rfl, ?_⟩) (by assumption) ?_
                · intro W0 hSw
                  (try dsimp only at hSw)
                  go_simp
                simp only [List.set_cons_zero, List.set_cons_succ]
                refine Tr.take_at 8 132 (.bool sa) rfl rfl (by kernel_rfl) (by kernel_rfl) (by kernel_rfl) (fun _ _ _ h => h) (Or.inl ⟨by rfl, ?_⟩) (by assumption) ?_
                · intro W0 hSw
                  (try dsimp only at hSw)
                  go_simp
                simp only [List.set_cons_zero, List.set_cons_succ]
                refine wpAnyH_ready (rs := [9]) (by kernel_rfl) (by simp) ?_
                refine AllReadyH.cons rfl (fun K hK => ?_) AllReadyH.nil
                go_simp
                have K22 := Lib.hid (show Blk (wA.alloc (.cells #[.int .i64 0, .int .i64 0, .int .i64 0, .int .i64 0, .bool false, .int .i64 0, .int .i64 0, .bool false, .slice none 0 0] 46)) (wA.heap.size) 46 #[.int .i64 0, .int .i64 0, .int .i64 0, .int .i64 0, .bool false, .int .i64 0, .int .i64 0, .bool false, .slice none 0 0] from Blk.new wA 46 #[.int .i64 0, .int .i64 0, .int .i64 0, .int .i64 0, .bool false, .int .i64 0, .int .i64 0, .bool false, .slice none 0 0])
                have HL22 := Lib.hid (show wr.heap.size ≤ wA.heap.size from HBW.out.size)
                replace HBW := Lib.hid (bal HBW.out (.cells #[.int .i64 0, .int .i64 0, .int .i64 0, .int .i64 0, .bool false, .int .i64 0, .int .i64 0, .bool false, .slice none 0 0] 46))
                refine hK.out _ _ ?_ (fun hHeld => ?_)
                · (try dsimp only)
                  exact ⟨(K8.out.belowS HBW.out).cellV (i := 0) rfl, (HBW.out.cell (p := ⟨bo, off + k, none⟩) HBOB.out).trans HCELL.out⟩
                clear hK K
                refine wpAnyH_ready (rs := [10]) (by kernel_rfl) (by simp) ?_
                refine AllReadyH.cons rfl (fun K hK => ?_) AllReadyH.nil
                refine Tr.wanted_plain rfl ?_
                refine store_mid0 rfl 46 _ _ rfl (wA.heap.size) 0 #[.int .i64 ka.X, .int .i64 ka.Y, .int .i64 ka.W, .int .i64 ka.H, .bool ka.M, .int .i64 ka.G, .int .i64 ka.B, .bool ka.S, .slice ka.A ka.n ka.c] (by rfl) (by rfl) (by have h := there_blk K22.out; exact h) Tryz.sizeBx (by simp [Value.oneCell']) ?_
                have xK := blk_puts9 (.int .i64 ka.X) (.int .i64 ka.Y) (.int .i64 ka.W) (.int .i64 ka.H) (.bool ka.M) (.int .i64 ka.G) (.int .i64 ka.B) (.bool ka.S) (.slice ka.A ka.n ka.c) K22.out
                have xB := bsets HBW.out HL22.out (#[.int .i64 ka.X, .int .i64 ka.Y, .int .i64 ka.W, .int .i64 ka.H, .bool ka.M, .int .i64 ka.G, .int .i64 ka.B, .bool ka.S, .slice ka.A ka.n ka.c] : Array Value).toList 0
                obtain ⟨wS, hwS⟩ : ∃ wS, World.setCells (wA.alloc (.cells #[.int .i64 0, .int .i64 0, .int .i64 0, .int .i64 0, .bool false, .int .i64 0, .int .i64 0, .bool false, .slice none 0 0] 46)) (wA.heap.size) 0 (#[.int .i64 ka.X, .int .i64 ka.Y, .int .i64 ka.W, .int .i64 ka.H, .bool ka.M, .int .i64 ka.G, .int .i64 ka.B, .bool ka.S, .slice ka.A ka.n ka.c] : Array Value).toList = wS := ⟨_, rfl⟩
                rw [hwS] at xK xB ⊢
                replace HBW := Lib.hid xB
                replace K22 := Lib.hid xK
                clear xB xK hwS
                refine hK.out _ _ ?_ (fun hHeld => ?_)
                · (try dsimp only)
                  exact ⟨(K8.out.belowS HBW.out).cellV (i := 0) rfl, (HBW.out.cell (p := ⟨bo, off + k, none⟩) HBOB.out).trans HCELL.out⟩
                clear hK K
                refine Tr.take_at 11 23 (.bool sa) rfl rfl (by kernel_rfl) (by kernel_rfl) (by kernel_rfl) (fun _ _ _ h => h) (Or.inl ⟨by rfl, ?_⟩) (by assumption) ?_
                · intro W0 hSw
                  (try dsimp only at hSw)
                  go_simp
                simp only [List.set_cons_zero, List.set_cons_succ]
                refine wpAnyH_done (by kernel_rfl) ?_ _
                refine NoPanic.normal ?_
                go_wp2_with fail
                go_meet
                exact ⟨_, rfl, rfl, K22.out, HBW.out⟩
              ·
                go_simp
                have K22 := Lib.hid (show Blk (wr.drew.alloc (.cells #[.int .i64 0, .int .i64 0, .int .i64 0, .int .i64 0, .bool false, .int .i64 0, .int .i64 0, .bool false, .slice none 0 0] 46)) (wr.heap.size) 46 #[.int .i64 0, .int .i64 0, .int .i64 0, .int .i64 0, .bool false, .int .i64 0, .int .i64 0, .bool false, .slice none 0 0] from Blk.new wr.drew 46 #[.int .i64 0, .int .i64 0, .int .i64 0, .int .i64 0, .bool false, .int .i64 0, .int .i64 0, .bool false, .slice none 0 0])
                have HL22 := Lib.hid (show wr.heap.size ≤ wr.heap.size from HBW.out.size)
                replace HBW := Lib.hid (bal HBW.out (.cells #[.int .i64 0, .int .i64 0, .int .i64 0, .int .i64 0, .bool false, .int .i64 0, .int .i64 0, .bool false, .slice none 0 0] 46))
                refine hK.out _ _ ?_ (fun hHeld => ?_)
                · (try dsimp only)
                  exact ⟨(K8.out.belowS HBW.out).cellV (i := 0) rfl, (HBW.out.cell (p := ⟨bo, off + k, none⟩) HBOB.out).trans HCELL.out⟩
                clear hK K
                refine wpAnyH_ready (rs := [5]) (by kernel_rfl) (by simp) ?_
                refine AllReadyH.cons rfl (fun K hK => ?_) AllReadyH.nil
                go_simp
                refine (box_any (.agg #[.map mp]) n bs x _ hxb (HAT.out.place.below HBW.out)).mono ?_
                rintro e wA ⟨rfl, hbA⟩
                rw [HKA.out, HSA.out]
                unfold BX.v
                replace HBW := Lib.hid (bstep HBW.out hbA)
                replace K22 := Lib.hid (K22.out.belowS hbA)
                clear hbA
                go_simp
                refine hK.out _ _ ?_ (fun hHeld => ?_)
                · (try dsimp only)
                  exact ⟨(K8.out.belowS HBW.out).cellV (i := 0) rfl, (HBW.out.cell (p := ⟨bo, off + k, none⟩) HBOB.out).trans HCELL.out⟩
                clear hK K
                refine Tr.take_at 6 124 (.tuple #[.agg #[.int .i64 ka.X, .int .i64 ka.Y, .int .i64 ka.W, .int .i64 ka.H, .bool ka.M, .int .i64 ka.G, .int .i64 ka.B, .bool ka.S, .slice ka.A ka.n ka.c], .bool sa]) rfl rfl (by kernel_rfl) (by kernel_rfl) (by kernel_rfl) (fun _ _ _ h => h) (Or.inl ⟨by rfl, ?_⟩) (by assumption) ?_
                · intro W0 hSw
                  (try dsimp only at hSw)
                  go_simp
                simp only [List.set_cons_zero, List.set_cons_succ]
                refine Tr.take_at 7 131 (.agg #[.int .i64 ka.X, .int .i64 ka.Y, .int .i64 ka.W, .int .i64 ka.H, .bool ka.M, .int .i64 ka.G, .int .i64 ka.B, .bool ka.S, .slice ka.A ka.n ka.c]) rfl rfl (by kernel_rfl) (by kernel_rfl) (by kernel_rfl) (fun _ _ _ h => h) (Or.inl ⟨by rfl, ?_⟩) (by assumption) ?_
                · intro W0 hSw
                  (try dsimp only at hSw)
                  go_simp
                simp only [List.set_cons_zero, List.set_cons_succ]
                refine Tr.take_at 8 132 (.bool sa) rfl rfl (by kernel_rfl) (by kernel_rfl) (by kernel_rfl) (fun _ _ _ h => h) (Or.inl ⟨by rfl, ?_⟩) (by assumption) ?_
                · intro W0 hSw
                  (try dsimp only at hSw)
                  go_simp
                simp only [List.set_cons_zero, List.set_cons_succ]
                refine wpAnyH_ready (rs := [10]) (by kernel_rfl) (by simp) ?_
                refine AllReadyH.cons rfl (fun K hK => ?_) AllReadyH.nil
                refine Tr.wanted_plain rfl ?_
                refine store_mid0 rfl 46 _ _ rfl (wr.heap.size) 0 #[.int .i64 ka.X, .int .i64 ka.Y, .int .i64 ka.W, .int .i64 ka.H, .bool ka.M, .int .i64 ka.G, .int .i64 ka.B, .bool ka.S, .slice ka.A ka.n ka.c] (by rfl) (by rfl) (by have h := there_blk K22.out; exact h) Tryz.sizeBx (by simp [Value.oneCell']) ?_
                have xK := blk_puts9 (.int .i64 ka.X) (.int .i64 ka.Y) (.int .i64 ka.W) (.int .i64 ka.H) (.bool ka.M) (.int .i64 ka.G) (.int .i64 ka.B) (.bool ka.S) (.slice ka.A ka.n ka.c) K22.out
                have xB := bsets HBW.out HL22.out (#[.int .i64 ka.X, .int .i64 ka.Y, .int .i64 ka.W, .int .i64 ka.H, .bool ka.M, .int .i64 ka.G, .int .i64 ka.B, .bool ka.S, .slice ka.A ka.n ka.c] : Array Value).toList 0
                obtain ⟨wS, hwS⟩ : ∃ wS, World.setCells (wA) (wr.heap.size) 0 (#[.int .i64 ka.X, .int .i64 ka.Y, .int .i64 ka.W, .int .i64 ka.H, .bool ka.M, .int .i64 ka.G, .int .i64 ka.B, .bool ka.S, .slice ka.A ka.n ka.c] : Array Value).toList = wS := ⟨_, rfl⟩
                rw [hwS] at xK xB ⊢
                replace HBW := Lib.hid xB
                replace K22 := Lib.hid xK
                clear xB xK hwS
                refine hK.out _ _ ?_ (fun hHeld => ?_)
                · (try dsimp only)
                  exact ⟨(K8.out.belowS HBW.out).cellV (i := 0) rfl, (HBW.out.cell (p := ⟨bo, off + k, none⟩) HBOB.out).trans HCELL.out⟩
                clear hK K
                refine Tr.take_at 11 23 (.bool sa) rfl rfl (by kernel_rfl) (by kernel_rfl) (by kernel_rfl) (fun _ _ _ h => h) (Or.inl ⟨by rfl, ?_⟩) (by assumption) ?_
                · intro W0 hSw
                  (try dsimp only at hSw)
                  go_simp
                simp only [List.set_cons_zero, List.set_cons_succ]
                refine wpAnyH_done (by kernel_rfl) ?_ _
                refine NoPanic.normal ?_
                go_wp2_with fail
                go_meet
                exact ⟨_, rfl, rfl, K22.out, HBW.out⟩
            case rest =>
              obtain ⟨g22, rfl, rfl, k22, hb20⟩ := hcut
              as_aux_lemma =>
                have K22 := Lib.hid k22
                replace HP6 := Lib.hid (HP6.out.below hb20)
                replace HB := Lib.hid (bstep HB.out hb20)
                replace K16 := Lib.hid (K16.out.belowS hb20)
                replace HBW8 := Lib.hid (bstep HBW8.out hb20)
                replace HCELL := Lib.hid ((hb20.cell (p := ⟨bo, off + k, none⟩) (block_lt_of_cell HCELL.out)).trans HCELL.out)
                clear k22 hb20
                obtain ⟨wy, hwy⟩ : ∃ wy, wc = wy := ⟨_, rfl⟩
                subst hwy
                go_upto_region 21 with fail
                have HBW := Lib.hid (show Below wc.heap.size wc wc.drew from (bre wc).drew)
                have HBOB := Lib.hid (block_lt_of_cell HCELL.out)
                go_cut [24, 25] (fun sb so wx => ∃ g : Nat, sb = .pointer (some ⟨g, 0, none⟩) ∧ so = .bool sa ∧ Blk wx g 46 #[.int .i64 kc.X, .int .i64 kc.Y, .int .i64 kc.W, .int .i64 kc.H, .bool kc.M, .int .i64 kc.G, .int .i64 kc.B, .bool kc.S, .slice kc.A kc.n kc.c] ∧ Below wc.heap.size wc wx)
                case first =>
                  refine wp_region_noPanic ?_
                  refine wp_region_held_drew (S := (fun w' => w'.cell? ⟨w6.heap.size, 0, none⟩ = some (.map ms) ∧ w'.cell? ⟨bo, off + k, none⟩ = some (.int .u32 x))) (by kernel_rfl) ?_ (fun hHeld => ?_)
                  · (try dsimp only)
                    exact ⟨(K16.out.belowS HBW.out).cellV (i := 0) rfl, (HBW.out.cell (p := ⟨bo, off + k, none⟩) HBOB.out).trans HCELL.out⟩
                  refine Tr.take_at 0 134 (.agg #[.map ms]) rfl rfl (by kernel_rfl) (by kernel_rfl) (by kernel_rfl) (fun _ _ _ h => h) (Or.inl ⟨by rfl, ?_⟩) (by assumption) ?_
                  · intro W0 hSw
                    (try dsimp only at hSw)
                    go_simp
                  simp only [List.set_cons_zero, List.set_cons_succ]
                  refine Tr.take_at 1 135 (.slice (some ⟨bo, off, none⟩) n' ck) rfl rfl (by kernel_rfl) (by kernel_rfl) (by kernel_rfl) (fun _ _ _ h => h) (Or.inl ⟨by rfl, ?_⟩) (by assumption) ?_
                  · intro W0 hSw
                    (try dsimp only at hSw)
                    go_simp
                  simp only [List.set_cons_zero, List.set_cons_succ]
                  refine Tr.take_at 2 136 (.int .i64 (k : Int)) rfl rfl (by kernel_rfl) (by kernel_rfl) (by kernel_rfl) (fun _ _ _ h => h) (Or.inl ⟨by rfl, ?_⟩) (by assumption) ?_
                  · intro W0 hSw
                    (try dsimp only at hSw)
                    go_simp
                  simp only [List.set_cons_zero, List.set_cons_succ]
                  refine Tr.take_at 3 137 (.pointer (some ⟨bo, off + k, none⟩)) rfl rfl (by kernel_rfl) (by kernel_rfl) (by kernel_rfl) (fun _ _ _ h => h) (Or.inl ⟨by rfl, ?_⟩) (by assumption) ?_
                  · intro W0 hSw
                    (try dsimp only at hSw)
                    go_simp
                  simp only [List.set_cons_zero, List.set_cons_succ]
                  refine Tr.take_at 4 138 (.int .u32 x) rfl rfl (by kernel_rfl) (by kernel_rfl) (by kernel_rfl) (fun _ _ _ h => h) (Or.inl ⟨by rfl, ?_⟩) (by assumption) ?_
                  · intro W0 hSw
                    (try dsimp only at hSw)
                    go_simp
                  simp only [List.set_cons_zero, List.set_cons_succ]
                  refine wpAnyH_ready (rs := [5, 9]) (by kernel_rfl) (by simp) ?_
                  refine AllReadyH.cons rfl (fun K hK => ?_) (AllReadyH.cons rfl (fun K hK => ?_) AllReadyH.nil)
                  ·
                    go_simp
                    refine (box_any (.agg #[.map ms]) n sbs x _ hxb (HP6.out.below HBW.out)).mono ?_
                    rintro e wA ⟨rfl, hbA⟩
                    rw [HKC.out, HSC.out]
                    unfold BX.v
                    replace HBW := Lib.hid (bstep HBW.out hbA)
                    clear hbA
                    go_simp
                    refine hK.out _ _ ?_ (fun hHeld => ?_)
                    · (try dsimp only)
                      exact ⟨(K16.out.belowS HBW.out).cellV (i := 0) rfl, (HBW.out.cell (p := ⟨bo, off + k, none⟩) HBOB.out).trans HCELL.out⟩
                    clear hK K
                    refine Tr.take_at 6 133 (.tuple #[.agg #[.int .i64 kc.X, .int .i64 kc.Y, .int .i64 kc.W, .int .i64 kc.H, .bool kc.M, .int .i64 kc.G, .int .i64 kc.B, .bool kc.S, .slice kc.A kc.n kc.c], .bool sa]) rfl rfl (by kernel_rfl) (by kernel_rfl) (by kernel_rfl) (fun _ _ _ h => h) (Or.inl ⟨by rfl, ?_⟩) (by assumption) ?_
                    · intro W0 hSw
                      (try dsimp only at hSw)
                      go_simp
                    simp only [List.set_cons_zero, List.set_cons_succ]
                    refine Tr.take_at 7 140 (.agg #[.int .i64 kc.X, .int .i64 kc.Y, .int .i64 kc.W, .int .i64 kc.H, .bool kc.M, .int .i64 kc.G, .int .i64 kc.B, .bool kc.S, .slice kc.A kc.n kc.c]) rfl rfl (by kernel_rfl) (by kernel_rfl) (by kernel_rfl) (fun _ _ _ h => h) (Or.inl ⟨by rfl, ?_⟩) (by assumption) ?_
                    · intro W0 hSw
                      (try dsimp only at hSw)
                      go_simp
                    simp only [List.set_cons_zero, List.set_cons_succ]
                    refine Tr.take_at 8 141 (.bool sa) rfl rfl (by kernel_rfl) (by kernel_rfl) (by kernel_rfl) (fun _ _ _ h => h) (Or.inl ⟨by rfl, ?_⟩) (by assumption) ?_
                    · intro W0 hSw
                      (try dsimp only at hSw)
                      go_simp
                    simp only [List.set_cons_zero, List.set_cons_succ]
                    refine wpAnyH_ready (rs := [9]) (by kernel_rfl) (by simp) ?_
                    refine AllReadyH.cons rfl (fun K hK => ?_) AllReadyH.nil
                    go_simp
                    have K22 := Lib.hid (show Blk (wA.alloc (.cells #[.int .i64 0, .int .i64 0, .int .i64 0, .int .i64 0, .bool false, .int .i64 0, .int .i64 0, .bool false, .slice none 0 0] 46)) (wA.heap.size) 46 #[.int .i64 0, .int .i64 0, .int .i64 0, .int .i64 0, .bool false, .int .i64 0, .int .i64 0, .bool false, .slice none 0 0] from Blk.new wA 46 #[.int .i64 0, .int .i64 0, .int .i64 0, .int .i64 0, .bool false, .int .i64 0, .int .i64 0, .bool false, .slice none 0 0])
                    have HL22 := Lib.hid (show wc.heap.size ≤ wA.heap.size from HBW.out.size)
                    replace HBW := Lib.hid (bal HBW.out (.cells #[.int .i64 0, .int .i64 0, .int .i64 0, .int .i64 0, .bool false, .int .i64 0, .int .i64 0, .bool false, .slice none 0 0] 46))
                    refine hK.out _ _ ?_ (fun hHeld => ?_)
                    · (try dsimp only)
                      exact ⟨(K16.out.belowS HBW.out).cellV (i := 0) rfl, (HBW.out.cell (p := ⟨bo, off + k, none⟩) HBOB.out).trans HCELL.out⟩
                    clear hK K
                    refine wpAnyH_ready (rs := [10]) (by kernel_rfl) (by simp) ?_
                    refine AllReadyH.cons rfl (fun K hK => ?_) AllReadyH.nil
                    refine Tr.wanted_plain rfl ?_
                    refine store_mid0 rfl 46 _ _ rfl (wA.heap.size) 0 #[.int .i64 kc.X, .int .i64 kc.Y, .int .i64 kc.W, .int .i64 kc.H, .bool kc.M, .int .i64 kc.G, .int .i64 kc.B, .bool kc.S, .slice kc.A kc.n kc.c] (by rfl) (by rfl) (by have h := there_blk K22.out; exact h) Tryz.sizeBx (by simp [Value.oneCell']) ?_
                    have xK := blk_puts9 (.int .i64 kc.X) (.int .i64 kc.Y) (.int .i64 kc.W) (.int .i64 kc.H) (.bool kc.M) (.int .i64 kc.G) (.int .i64 kc.B) (.bool kc.S) (.slice kc.A kc.n kc.c) K22.out
                    have xB := bsets HBW.out HL22.out (#[.int .i64 kc.X, .int .i64 kc.Y, .int .i64 kc.W, .int .i64 kc.H, .bool kc.M, .int .i64 kc.G, .int .i64 kc.B, .bool kc.S, .slice kc.A kc.n kc.c] : Array Value).toList 0
                    obtain ⟨wS, hwS⟩ : ∃ wS, World.setCells (wA.alloc (.cells #[.int .i64 0, .int .i64 0, .int .i64 0, .int .i64 0, .bool false, .int .i64 0, .int .i64 0, .bool false, .slice none 0 0] 46)) (wA.heap.size) 0 (#[.int .i64 kc.X, .int .i64 kc.Y, .int .i64 kc.W, .int .i64 kc.H, .bool kc.M, .int .i64 kc.G, .int .i64 kc.B, .bool kc.S, .slice kc.A kc.n kc.c] : Array Value).toList = wS := ⟨_, rfl⟩
                    rw [hwS] at xK xB ⊢
                    replace HBW := Lib.hid xB
                    replace K22 := Lib.hid xK
                    clear xB xK hwS
                    refine hK.out _ _ ?_ (fun hHeld => ?_)
                    · (try dsimp only)
                      exact ⟨(K16.out.belowS HBW.out).cellV (i := 0) rfl, (HBW.out.cell (p := ⟨bo, off + k, none⟩) HBOB.out).trans HCELL.out⟩
                    clear hK K
                    refine Tr.take_at 11 25 (.bool sa) rfl rfl (by kernel_rfl) (by kernel_rfl) (by kernel_rfl) (fun _ _ _ h => h) (Or.inl ⟨by rfl, ?_⟩) (by assumption) ?_
                    · intro W0 hSw
                      (try dsimp only at hSw)
                      go_simp
                    simp only [List.set_cons_zero, List.set_cons_succ]
                    refine wpAnyH_done (by kernel_rfl) ?_ _
                    refine NoPanic.normal ?_
                    go_wp2_with fail
                    go_meet
                    exact ⟨_, rfl, rfl, K22.out, HBW.out⟩
                  ·
                    go_simp
                    have K22 := Lib.hid (show Blk (wc.drew.alloc (.cells #[.int .i64 0, .int .i64 0, .int .i64 0, .int .i64 0, .bool false, .int .i64 0, .int .i64 0, .bool false, .slice none 0 0] 46)) (wc.heap.size) 46 #[.int .i64 0, .int .i64 0, .int .i64 0, .int .i64 0, .bool false, .int .i64 0, .int .i64 0, .bool false, .slice none 0 0] from Blk.new wc.drew 46 #[.int .i64 0, .int .i64 0, .int .i64 0, .int .i64 0, .bool false, .int .i64 0, .int .i64 0, .bool false, .slice none 0 0])
                    have HL22 := Lib.hid (show wc.heap.size ≤ wc.heap.size from HBW.out.size)
                    replace HBW := Lib.hid (bal HBW.out (.cells #[.int .i64 0, .int .i64 0, .int .i64 0, .int .i64 0, .bool false, .int .i64 0, .int .i64 0, .bool false, .slice none 0 0] 46))
                    refine hK.out _ _ ?_ (fun hHeld => ?_)
                    · (try dsimp only)
                      exact ⟨(K16.out.belowS HBW.out).cellV (i := 0) rfl, (HBW.out.cell (p := ⟨bo, off + k, none⟩) HBOB.out).trans HCELL.out⟩
                    clear hK K
                    refine wpAnyH_ready (rs := [5]) (by kernel_rfl) (by simp) ?_
                    refine AllReadyH.cons rfl (fun K hK => ?_) AllReadyH.nil
                    go_simp
                    refine (box_any (.agg #[.map ms]) n sbs x _ hxb (HP6.out.below HBW.out)).mono ?_
                    rintro e wA ⟨rfl, hbA⟩
                    rw [HKC.out, HSC.out]
                    unfold BX.v
                    replace HBW := Lib.hid (bstep HBW.out hbA)
                    replace K22 := Lib.hid (K22.out.belowS hbA)
                    clear hbA
                    go_simp
                    refine hK.out _ _ ?_ (fun hHeld => ?_)
                    · (try dsimp only)
                      exact ⟨(K16.out.belowS HBW.out).cellV (i := 0) rfl, (HBW.out.cell (p := ⟨bo, off + k, none⟩) HBOB.out).trans HCELL.out⟩
                    clear hK K
                    refine Tr.take_at 6 133 (.tuple #[.agg #[.int .i64 kc.X, .int .i64 kc.Y, .int .i64 kc.W, .int .i64 kc.H, .bool kc.M, .int .i64 kc.G, .int .i64 kc.B, .bool kc.S, .slice kc.A kc.n kc.c], .bool sa]) rfl rfl (by kernel_rfl) (by kernel_rfl) (by kernel_rfl) (fun _ _ _ h => h) (Or.inl ⟨by rfl, ?_⟩) (by assumption) ?_
                    · intro W0 hSw
                      (try dsimp only at hSw)
                      go_simp
                    simp only [List.set_cons_zero, List.set_cons_succ]
                    refine Tr.take_at 7 140 (.agg #[.int .i64 kc.X, .int .i64 kc.Y, .int .i64 kc.W, .int .i64 kc.H, .bool kc.M, .int .i64 kc.G, .int .i64 kc.B, .bool kc.S, .slice kc.A kc.n kc.c]) rfl rfl (by kernel_rfl) (by kernel_rfl) (by kernel_rfl) (fun _ _ _ h => h) (Or.inl ⟨by rfl, ?_⟩) (by assumption) ?_
                    · intro W0 hSw
                      (try dsimp only at hSw)
                      go_simp
                    simp only [List.set_cons_zero, List.set_cons_succ]
                    refine Tr.take_at 8 141 (.bool sa) rfl rfl (by kernel_rfl) (by kernel_rfl) (by kernel_rfl) (fun _ _ _ h => h) (Or.inl ⟨by rfl, ?_⟩) (by assumption) ?_
                    · intro W0 hSw
                      (try dsimp only at hSw)
                      go_simp
                    simp only [List.set_cons_zero, List.set_cons_succ]
                    refine wpAnyH_ready (rs := [10]) (by kernel_rfl) (by simp) ?_
                    refine AllReadyH.cons rfl (fun K hK => ?_) AllReadyH.nil
                    refine Tr.wanted_plain rfl ?_
                    refine store_mid0 rfl 46 _ _ rfl (wc.heap.size) 0 #[.int .i64 kc.X, .int .i64 kc.Y, .int .i64 kc.W, .int .i64 kc.H, .bool kc.M, .int .i64 kc.G, .int .i64 kc.B, .bool kc.S, .slice kc.A kc.n kc.c] (by rfl) (by rfl) (by have h := there_blk K22.out; exact h) Tryz.sizeBx (by simp [Value.oneCell']) ?_
                    have xK := blk_puts9 (.int .i64 kc.X) (.int .i64 kc.Y) (.int .i64 kc.W) (.int .i64 kc.H) (.bool kc.M) (.int .i64 kc.G) (.int .i64 kc.B) (.bool kc.S) (.slice kc.A kc.n kc.c) K22.out
                    have xB := bsets HBW.out HL22.out (#[.int .i64 kc.X, .int .i64 kc.Y, .int .i64 kc.W, .int .i64 kc.H, .bool kc.M, .int .i64 kc.G, .int .i64 kc.B, .bool kc.S, .slice kc.A kc.n kc.c] : Array Value).toList 0
                    obtain ⟨wS, hwS⟩ : ∃ wS, World.setCells (wA) (wc.heap.size) 0 (#[.int .i64 kc.X, .int .i64 kc.Y, .int .i64 kc.W, .int .i64 kc.H, .bool kc.M, .int .i64 kc.G, .int .i64 kc.B, .bool kc.S, .slice kc.A kc.n kc.c] : Array Value).toList = wS := ⟨_, rfl⟩
                    rw [hwS] at xK xB ⊢
                    replace HBW := Lib.hid xB
                    replace K22 := Lib.hid xK
                    clear xB xK hwS
                    refine hK.out _ _ ?_ (fun hHeld => ?_)
                    · (try dsimp only)
                      exact ⟨(K16.out.belowS HBW.out).cellV (i := 0) rfl, (HBW.out.cell (p := ⟨bo, off + k, none⟩) HBOB.out).trans HCELL.out⟩
                    clear hK K
                    refine Tr.take_at 11 25 (.bool sa) rfl rfl (by kernel_rfl) (by kernel_rfl) (by kernel_rfl) (fun _ _ _ h => h) (Or.inl ⟨by rfl, ?_⟩) (by assumption) ?_
                    · intro W0 hSw
                      (try dsimp only at hSw)
                      go_simp
                    simp only [List.set_cons_zero, List.set_cons_succ]
                    refine wpAnyH_done (by kernel_rfl) ?_ _
                    refine NoPanic.normal ?_
                    go_wp2_with fail
                    go_meet
                    exact ⟨_, rfl, rfl, K22.out, HBW.out⟩
                case rest =>
                  obtain ⟨g24, rfl, rfl, k24, hb21⟩ := hcut
                  as_aux_lemma =>
                    have K24 := Lib.hid k24
                    replace K22 := Lib.hid (K22.out.belowS hb21)
                    replace HB := Lib.hid (bstep HB.out hb21)
                    replace HBW8 := Lib.hid (bstep HBW8.out hb21)
                    clear k24 hb21
                    have y0 := K22.out.cellV (i := 0) (v := .int .i64 ka.X) rfl
                    have y1 := K22.out.cellV (i := 1) (v := .int .i64 ka.Y) rfl
                    have y2 := K22.out.cellV (i := 2) (v := .int .i64 ka.W) rfl
                    have y3 := K22.out.cellV (i := 3) (v := .int .i64 ka.H) rfl
                    have y4 := K22.out.cellV (i := 4) (v := .bool ka.M) rfl
                    have z0 := K24.out.cellV (i := 0) (v := .int .i64 kc.X) rfl
                    have z1 := K24.out.cellV (i := 1) (v := .int .i64 kc.Y) rfl
                    have z2 := K24.out.cellV (i := 2) (v := .int .i64 kc.W) rfl
                    have z3 := K24.out.cellV (i := 3) (v := .int .i64 kc.H) rfl
                    have z4 := K24.out.cellV (i := 4) (v := .bool kc.M) rfl
                    have hpW := HPW.out
                    have hpH := HPH.out
                    have hpM := HPM.out
                    have t1 : ¬ ka.X < kc.X := by omega
                    have t2 : ¬ ka.Y < kc.Y := by omega
                    have t3 : ¬ kc.X < ka.X - 1 := by omega
                    have t4 : ¬ kc.Y < ka.Y - 1 := by omega
                    have t5 : (kc.W != ka.W) = false := by simp [hpW]
                    have t6 : (kc.H != ka.H) = false := by simp [hpH]
                    have t7 : (kc.M != ka.M) = false := by simp [hpM]
                    
                    go_wp2_with fail
                    
                    go_roundw
                    case rel => exact ⟨k + 1, by go_num, by omega, HBW8.out⟩
                    case measure => simp [intOf]; omega
          ·
            obtain rfl : k = n' := by omega
            have k1 : ¬ (k : Int) < (k : Int) := by omega
            go_wp2_with fail
            go_ret
            exact ⟨rfl, HB.out⟩

end Go.Proofs.YtbfefkhejknmoaaGreatDoor
