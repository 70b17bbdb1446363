/-
  The walk of the law PlaceMoves.
-/
import Derived.Test.YtbfefkhejknmoaaGreatDoorCh47
import Derived.Test.YtbfefkhejknmoaaGreatDoorPlaceMovesC1
namespace Go.Proofs.YtbfefkhejknmoaaGreatDoor
open Go.RowKit Go.Shelf

theorem Tryz.sizePt : (Tryz.prog.info? 59).map (·.size) = some 2 := by kernel_rfl
theorem run_neq_pt (w : World) (a b a' b' : Int) : (binOp .neq 59 (.agg #[.int .i64 a, .int .i64 b]) (.agg #[.int .i64 a', .int .i64 b'])).run Tryz.prog w = .ok (.bool (!(a == a' && b == b'))) w := by
  cases h1 : (a == a') <;> cases h2 : (b == b') <;> simp [go_sem, h1, h2]
theorem okBs_near {bs : Bxs} (h : okBs bs) : nearB bs := fun i b hb => by
  obtain ⟨h1, h2, _⟩ := h i b hb
  omega
theorem okBs_bd {bs : Bxs} (h : okBs bs) (x : Int) : (-32768 ≤ ((bs x).getD zBX).X ∧ ((bs x).getD zBX).X ≤ 32767) ∧ (-32768 ≤ ((bs x).getD zBX).Y ∧ ((bs x).getD zBX).Y ≤ 32767) := by
  cases e : bs x with
  | none => exact ⟨by decide, by decide⟩
  | some b => exact ⟨(h x b e).1, (h x b e).2.1⟩
/-- a window's places on the root, ahead and behind. -/
structure Orgs (bs bs' : Bxs) (ns : Nodes) (id dx dy x : Int) (st : Bool) (ox oy px py : Int) (a : Bool) : Prop where
  o1 : orgX ns bs x = ox
  o2 : orgY ns bs x = oy
  o3 : orgOk ns bs x = a
  p1 : orgX ns bs' x = px
  p2 : orgY ns bs' x = py
  p3 : orgOk ns bs' x = a
  bd : (-200000000 ≤ ox ∧ ox ≤ 200000000) ∧ -200000000 ≤ oy ∧ oy ≤ 200000000
  mv : a = true → px = ox + (if st then 0 else dx) ∧ py = oy + (if st then 0 else dy)
theorem orgs_of {bs bs' : Bxs} {ns : Nodes} {id dx dy x : Int} (h : TreeOk ns) (hn : ns.length ≤ 1000) (hnb : nearB bs) (hm : MoveOk bs bs' ns id dx dy x) (hx : hasN ns x = true) (hid : id ∈ pathN ns x) :
    Orgs bs bs' ns id dx dy x (stL bs id (pathN ns x) ((pathN ns x).length - 1)) (orgX ns bs x) (orgY ns bs x) (orgX ns bs' x) (orgY ns bs' x) (orgOk ns bs x) := by
  obtain ⟨h1, h2, h3⟩ := hm
  have hl := path_len h x
  have hs := sum_bd hnb (pathN ns x)
  have hok : orgOk ns bs' x = orgOk ns bs x := by unfold orgOk; rw [h1]
  rw [if_pos hid] at h2 h3
  refine ⟨rfl, rfl, rfl, rfl, rfl, hok, ?_, fun ha => ?_⟩
  · unfold orgX orgY
    cases orgOk ns bs x
    · simp
    · simp only [if_true]
      omega
  · rw [stL_all]
    unfold orgX orgY
    rw [hok, ha]
    simp only [if_true]
    exact ⟨h2, h3⟩
theorem stat_of {bs : Bxs} {x : Int} {kb : BX} {sk : Bool} (h1 : (bs x).getD zBX = kb) (h2 : (bs x).isSome = sk) : statB bs x = (sk && (kb.G == 10)) := by
  unfold statB
  cases h : bs x with
  | none => rw [h] at h2; subst h2; rfl
  | some k =>
    rw [h] at h1 h2
    simp only [Option.getD_some] at h1
    subst h1 h2
    by_cases e : k.G = 10 <;> simp [e]

attribute [local go_sem ↓] run_neq_pt
set_option maxRecDepth 100000 in
set_option maxHeartbeats 8000000 in
theorem pmove_any (x : WN) (id dx dy : Int) (UL : List Int) (L : List DB) (w : World) (hg : GivenW w x UL L) (hid : 0 ≤ id ∧ id ≤ 4294967295) (hdx : -32768 ≤ dx ∧ dx ≤ 32767) (hdy : -32768 ≤ dy ∧ dy ≤ 32767) (hH : Halves w) :
    Calls Tryz.prog 5 #[x.v, .int .u32 id, .int .i16 dx, .int .i16 dy] w fun e w' => e = .returned (.bool true) ∧ Below w.heap.size w w' := by
  have hw0 := hH.1
  obtain ⟨W, H, U, nu, cu, A, nl, cl⟩ := x
  have hxv : (⟨W, H, U, nu, cu, A, nl, cl⟩ : WN).v = .agg #[.int .i64 W, .int .i64 H, .slice U nu cu, .slice A nl cl] := rfl
  rw [hxv]
  have HXV := Lib.hid hxv
  have HB := Lib.hid (bal (bre w) (.cells #[.int .i64 W, .int .i64 H, .slice U nu cu, .slice A nl cl] 25))
  have HG := Lib.hid (hg.below HB.out)
  have HH := Lib.hid (hH.below HB.out hw0)
  have K4 := Lib.hid (Blk.new w 25 #[.int .i64 W, .int .i64 H, .slice U nu cu, .slice A nl cl])
  clear hg hH hxv
  go_enter Tryz.func5, Tryz.ntmps5
  go_wp2_with fail
  with_reducible refine (awake_any _ HH.out).mono ?_
  rintro e w1 ⟨rfl, hb1⟩
  replace HH := Lib.hid (HH.out.below hb1 HH.out.1)
  replace HG := Lib.hid (HG.out.below hb1)
  replace K4 := Lib.hid (K4.out.belowS hb1)
  replace HB := Lib.hid (bstep HB.out hb1)
  clear hb1
  have p0 := K4.out.cellV (i := 0) (v := .int .i64 W) rfl
  have p1 := K4.out.cellV (i := 1) (v := .int .i64 H) rfl
  have p2 := K4.out.cellV (i := 2) (v := .slice U nu cu) rfl
  have p3 := K4.out.cellV (i := 3) (v := .slice A nl cl) rfl
  go_wp2_with fail
  rw [← HXV.out]
  refine (few_any _ L _ HG.out.list HG.out.nl).mono ?_
  rintro e w2 ⟨rfl, hb2⟩
  clear p0 p1 p2 p3
  replace HH := Lib.hid (HH.out.below hb2 HH.out.1)
  replace HG := Lib.hid (HG.out.below hb2)
  replace K4 := Lib.hid (K4.out.belowS hb2)
  replace HB := Lib.hid (bstep HB.out hb2)
  clear hb2
  cases hf : fewB L
  · go_wp2_with fail
    go_ret
    exact ⟨rfl, HB.out⟩
  have HF := Lib.hid hf
  clear hf
  have p0 := K4.out.cellV (i := 0) (v := .int .i64 W) rfl
  have p1 := K4.out.cellV (i := 1) (v := .int .i64 H) rfl
  have p2 := K4.out.cellV (i := 2) (v := .slice U nu cu) rfl
  have p3 := K4.out.cellV (i := 3) (v := .slice A nl cl) rfl
  go_wp2_with fail
  rw [← HXV.out]
  refine (built_few _ UL L _ HG.out HF.out).mono ?_
  rintro e w3 ⟨mk, mu, mp, An, nn, cn, Al, cq, ns, n, bs, l, nk, fk, rfl, hat, hl, hn71, hb3⟩
  have HAT := Lib.hid hat
  clear p0 p1 p2 p3 hat hl
  replace HH := Lib.hid (HH.out.below hb3 HH.out.1)
  replace K4 := Lib.hid (K4.out.belowS hb3)
  replace HB := Lib.hid (bstep HB.out hb3)
  clear hb3 HG
  go_upto_region 6 with fail
  have hba : Below w3.heap.size w3 ((w3.alloc (.cells #[.map mk, .map mu] 35)).alloc (.cells #[.map mp] 38)) := bal (bal (bre w3) _) _
  have xHB := bstep HB.out hba
  have xHAT := HAT.out.below hba
  have xK4 := K4.out.belowS hba
  have xHH := HH.out.below hba HH.out.1
  have xK9 := (Blk.new w3 35 #[.map mk, .map mu]).alloc (.cells #[.map mp] 38)
  have xK10 := blk_new2 w3 (.cells #[.map mk, .map mu] 35) 38 #[.map mp]
  obtain ⟨X3, hX3⟩ : ∃ X3, (w3.alloc (.cells #[.map mk, .map mu] 35)).alloc (.cells #[.map mp] 38) = X3 := ⟨_, rfl⟩
  rw [hX3] at xHB xHAT xK4 xHH xK9 xK10 ⊢
  replace HB := Lib.hid xHB
  replace HAT := Lib.hid xHAT
  replace K4 := Lib.hid xK4
  replace HH := Lib.hid xHH
  have K9 := Lib.hid xK9
  have K10 := Lib.hid xK10
  clear hba hX3 xHB xHAT xK4 xHH xK9 xK10
  have hn1000 : n ≤ 1000 := by omega
  have p8 := K10.out.cellV (i := 0) (v := .map mp) rfl
  go_wp2_with fail
  with_reducible refine (box_any _ n bs id _ hid HAT.out.place).mono ?_
  rintro e w4 ⟨rfl, hb4⟩
  have hbd := okBs_bd HAT.out.rel.ok id
  obtain ⟨b0, hb0⟩ : ∃ b0, (bs id).getD zBX = b0 := ⟨_, rfl⟩
  obtain ⟨s, hs⟩ : ∃ s, (bs id).isSome = s := ⟨_, rfl⟩
  rw [hb0] at hbd
  rw [hb0, hs]
  unfold BX.v
  have HB0 := Lib.hid hb0
  have HS := Lib.hid hs
  clear hb0 hs p8
  replace HH := Lib.hid (HH.out.below hb4 HH.out.1)
  replace K4 := Lib.hid (K4.out.belowS hb4)
  replace HB := Lib.hid (bstep HB.out hb4)
  replace HAT := Lib.hid (HAT.out.below hb4)
  replace K9 := Lib.hid (K9.out.belowS hb4)
  replace K10 := Lib.hid (K10.out.belowS hb4)
  clear hb4
  go_upto_region 7 with fail
  have xHH := HH.out.below (bal (bre w4) (.cells #[.int .i64 b0.X, .int .i64 b0.Y, .int .i64 b0.W, .int .i64 b0.H, .bool b0.M, .int .i64 b0.G, .int .i64 b0.B, .bool b0.S, .slice b0.A b0.n b0.c] 46)) HH.out.1
  have hba : Below w4.heap.size w4 (w4.alloc (.cells #[.int .i64 b0.X, .int .i64 b0.Y, .int .i64 b0.W, .int .i64 b0.H, .bool b0.M, .int .i64 b0.G, .int .i64 b0.B, .bool b0.S, .slice b0.A b0.n b0.c] 46)) := bal (bre w4) (.cells #[.int .i64 b0.X, .int .i64 b0.Y, .int .i64 b0.W, .int .i64 b0.H, .bool b0.M, .int .i64 b0.G, .int .i64 b0.B, .bool b0.S, .slice b0.A b0.n b0.c] 46)
  have xK4 := K4.out.belowS hba
  have xHB := bstep HB.out hba
  have xHAT := HAT.out.below hba
  have xK9 := K9.out.belowS hba
  have xK10 := K10.out.belowS hba
  have xK14 := Blk.new w4 46 #[.int .i64 b0.X, .int .i64 b0.Y, .int .i64 b0.W, .int .i64 b0.H, .bool b0.M, .int .i64 b0.G, .int .i64 b0.B, .bool b0.S, .slice b0.A b0.n b0.c]
  obtain ⟨X4, hX4⟩ : ∃ X4, w4.alloc (.cells #[.int .i64 b0.X, .int .i64 b0.Y, .int .i64 b0.W, .int .i64 b0.H, .bool b0.M, .int .i64 b0.G, .int .i64 b0.B, .bool b0.S, .slice b0.A b0.n b0.c] 46) = X4 := ⟨_, rfl⟩
  rw [hX4] at xHH xK4 xHB xHAT xK9 xK10 xK14 ⊢
  replace K4 := Lib.hid xK4
  replace HB := Lib.hid xHB
  replace HAT := Lib.hid xHAT
  replace K9 := Lib.hid xK9
  replace K10 := Lib.hid xK10
  replace HH := Lib.hid xHH
  have K14 := Lib.hid xK14
  clear hba hX4 xHH xK4 xHB xHAT xK9 xK10 xK14
  have p0 := K10.out.cellV (i := 0) (v := .map mp) rfl
  have q0 := K9.out.cellV (i := 0) (v := .map mk) rfl
  have q1 := K9.out.cellV (i := 1) (v := .map mu) rfl
  have s0 := K14.out.cellV (i := 0) (v := .int .i64 b0.X) rfl
  have s1 := K14.out.cellV (i := 1) (v := .int .i64 b0.Y) rfl
  have s2 := K14.out.cellV (i := 2) (v := .int .i64 b0.W) rfl
  have s3 := K14.out.cellV (i := 3) (v := .int .i64 b0.H) rfl
  go_wp2_with fail
  refine (resize_any (.agg #[.map mp]) (.agg #[.map mk, .map mu]) n bs ns mk mu nk fk id ⟨b0.X + dx, b0.Y + dy, b0.W, b0.H⟩ _ hid HAT.out.place hn1000 HAT.out.tree HAT.out.tok HAT.out.rel.ok HH.out).mono ?_
  rintro e w5 ⟨pv5, rfl, hp5, hb5⟩
  obtain ⟨mq, rfl, hmq⟩ := hp5
  have HP5 := Lib.hid (show PlaceIs w5 (.agg #[.map mq]) n (resBs bs ns id ⟨b0.X + dx, b0.Y + dy, b0.W, b0.H⟩) from ⟨mq, rfl, hmq⟩)
  obtain ⟨rc, hrc⟩ : ∃ rc, resC bs ns id ⟨b0.X + dx, b0.Y + dy, b0.W, b0.H⟩ = rc := ⟨_, rfl⟩
  rw [hrc]
  have HRC := Lib.hid hrc
  clear hrc hmq p0 q0 q1 s0 s1 s2 s3
  replace HH := Lib.hid (HH.out.below hb5 HH.out.1)
  replace K4 := Lib.hid (K4.out.belowS hb5)
  replace HB := Lib.hid (bstep HB.out hb5)
  replace HAT := Lib.hid (HAT.out.below hb5)
  replace K9 := Lib.hid (K9.out.belowS hb5)
  replace K10 := Lib.hid (K10.out.belowS hb5)
  replace K14 := Lib.hid (K14.out.belowS hb5)
  clear hb5
  go_upto_region 8 with fail
  have xHH := HH.out.below (bal (bre w5) (.cells #[.map mq] 38)) HH.out.1
  have hba : Below w5.heap.size w5 (w5.alloc (.cells #[.map mq] 38)) := bal (bre w5) (.cells #[.map mq] 38)
  have xK4 := K4.out.belowS hba
  have xHB := bstep HB.out hba
  have xHAT := HAT.out.below hba
  have xK9 := K9.out.belowS hba
  have xK10 := K10.out.belowS hba
  have xK14 := K14.out.belowS hba
  have xHP5 := HP5.out.below hba
  have xK16 := Blk.new w5 38 #[.map mq]
  obtain ⟨X5, hX5⟩ : ∃ X5, w5.alloc (.cells #[.map mq] 38) = X5 := ⟨_, rfl⟩
  rw [hX5] at xHH xK4 xHB xHAT xK9 xK10 xK14 xHP5 xK16 ⊢
  replace K4 := Lib.hid xK4
  replace HB := Lib.hid xHB
  replace HAT := Lib.hid xHAT
  replace K9 := Lib.hid xK9
  replace K10 := Lib.hid xK10
  replace K14 := Lib.hid xK14
  replace HP5 := Lib.hid xHP5
  replace HH := Lib.hid xHH
  have K16 := Lib.hid xK16
  clear hba hX5 xHH xK4 xHB xHAT xK9 xK10 xK14 xHP5 xK16
  cases s
  · go_wp2_with fail
    go_ret
    exact ⟨rfl, HB.out⟩
  by_cases hrz : rc = 0
  rotate_left
  · have d1 : (rc != 0) = true := by simp [hrz]
    go_wp2_with fail
    go_ret
    exact ⟨rfl, HB.out⟩
  obtain rfl : rc = 0 := hrz
  as_aux_lemma =>
    have HBI := Lib.hid (show bs id = some b0 by
      have h1 := HS.out
      have h2 := HB0.out
      cases hb : bs id with
      | none => rw [hb] at h1; cases h1
      | some b => rw [hb] at h2; exact congrArg some h2)
    have hz := resC_zero HRC.out
    obtain ⟨_, _, _, hidn, _⟩ := hz
    have HMV := Lib.hid (show ∀ x ∈ belowAt ns id, (0 ≤ x ∧ x ≤ 4294967295) ∧ Orgs bs (resBs bs ns id ⟨b0.X + dx, b0.Y + dy, b0.W, b0.H⟩) ns id dx dy x (stL bs id (pathN ns x) ((pathN ns x).length - 1)) (orgX ns bs x) (orgY ns bs x) (orgX ns (resBs bs ns id ⟨b0.X + dx, b0.Y + dy, b0.W, b0.H⟩) x) (orgY ns (resBs bs ns id ⟨b0.X + dx, b0.Y + dy, b0.W, b0.H⟩) x) (orgOk ns bs x) ∧ hasN ns x = true from fun x hx => by
      have hxn := below_has HAT.out.tok hidn hx
      refine ⟨?_, orgs_of HAT.out.tok HAT.out.tree.few (okBs_near HAT.out.rel.ok) (pm_ok HAT.out.tok HBI.out HRC.out x hxn) hxn ((below_iff HAT.out.tok hidn x).1 hx), hxn⟩
      rcases hasN_iff.1 hxn with e | ⟨p, hp⟩
      · rw [e]; omega
      · exact (HAT.out.tree.ok _ (upOf_some hp)).1)
    have HNB' := Lib.hid (okBs_near (resBs_ok HAT.out.rel.ok HRC.out))
    have HNB := Lib.hid (okBs_near HAT.out.rel.ok)
    have HIDN := Lib.hid hidn
    obtain ⟨sbs, hsbs⟩ : ∃ sbs, resBs bs ns id ⟨b0.X + dx, b0.Y + dy, b0.W, b0.H⟩ = sbs := ⟨_, rfl⟩
    have h1 := HMV.out
    have h2 := HNB'.out
    have h3 := HP5.out
    rw [hsbs] at h1 h2 h3
    replace HMV := Lib.hid h1
    replace HNB' := Lib.hid h2
    replace HP5 := Lib.hid h3
    clear h1 h2 h3 hsbs hidn HRC HB0 HS K14 HBI hbd K4 HXV HF
    have q0 := K9.out.cellV (i := 0) (v := .map mk) rfl
    have q1 := K9.out.cellV (i := 1) (v := .map mu) rfl
    go_wp2_with fail
    with_reducible refine (below_any _ ns mk mu nk fk id _ hid HAT.out.tree HAT.out.tok).mono ?_
    rintro e w8 ⟨u, rfl, hou, hb8⟩
    obtain ⟨Ak, ck, rfl, hck⟩ := own_form hou
    have HOU := Lib.hid (Rd.of_own hou)
    have hbe : belowN ns id = belowAt ns id := by unfold belowN; rw [HIDN.out]; rfl
    have hkl := below_len HAT.out.tok HIDN.out
    have hfw := HAT.out.tree.few
    have h1 := HOU.out
    rw [hbe] at h1 hck ⊢
    replace HOU := Lib.hid h1
    clear h1 hou q0 q1 hbe
    replace HH := Lib.hid (HH.out.below hb8 HH.out.1)
    replace HB := Lib.hid (bstep HB.out hb8)
    replace HAT := Lib.hid (HAT.out.below hb8)
    replace K9 := Lib.hid (K9.out.belowS hb8)
    replace K10 := Lib.hid (K10.out.belowS hb8)
    replace HP5 := Lib.hid (HP5.out.below hb8)
    replace K16 := Lib.hid (K16.out.belowS hb8)
    clear hb8
    obtain ⟨kl, hkls⟩ : ∃ kl, belowAt ns id = kl := ⟨_, rfl⟩
    have h1 := HOU.out
    have h3 := HMV.out
    rw [hkls] at h1 h3 hkl hck ⊢
    replace HOU := Lib.hid h1
    replace HMV := Lib.hid h3
    clear h1 h3 hkls
    obtain ⟨n', hn'⟩ : ∃ n', kl.length = n' := ⟨_, rfl⟩
    have h1 := HOU.out
    rw [hn'] at h1 hkl hck ⊢
    replace HOU := Lib.hid h1
    have HN' := Lib.hid hn'
    clear h1 hn'
    go_wp2_with fail
    as_aux_lemma =>
      go_loopw [19] (fun i wr => ∃ k : Nat, i = .int .i64 k ∧ k ≤ n' ∧ Below w8.heap.size w8 wr) (fun i _ => n' - (intOf i).toNat)
      case atStart => exact ⟨0, rfl, by omega, bre w8⟩
      case round =>
        obtain ⟨k, rfl, hk, hbw⟩ := hrel
        replace HP5 := Lib.hid (HP5.out.below hbw)
        replace HB := Lib.hid (bstep HB.out hbw)
        replace HAT := Lib.hid (HAT.out.below hbw)
        replace K9 := Lib.hid (K9.out.belowS hbw)
        replace K10 := Lib.hid (K10.out.belowS hbw)
        replace K16 := Lib.hid (K16.out.belowS hbw)
        replace HOU := Lib.hid (HOU.out.below hbw)
        have HBW8 := Lib.hid hbw
        clear hbw HH
        as_aux_lemma =>
          by_cases hlt : k < n'
          ·
            obtain ⟨x, hx⟩ : ∃ x, kl[k]? = some x := ⟨_, List.getElem?_eq_getElem (by rw [HN'.out]; exact hlt)⟩
            have hxm := List.mem_of_getElem? hx
            obtain ⟨hxb, horg, hxn⟩ := HMV.out x hxm
            have k1 : (k : Int) < (n' : Int) := by omega
            have k0 : (0 : Int) ≤ (k : Int) := by omega
            obtain ⟨bo, off, rfl, hbl, hcl⟩ := HOU.out.2 (by omega)
            have hcell := hcl k _ (U32_at hx)
            have HCELL := Lib.hid hcell
            have HXN := Lib.hid hxn
            clear hx hcl hcell hxm hxn
            obtain ⟨st, hst⟩ : ∃ st, stL bs id (pathN ns x) ((pathN ns x).length - 1) = st := ⟨_, rfl⟩
            obtain ⟨ox, hox⟩ : ∃ ox, orgX ns bs x = ox := ⟨_, rfl⟩
            obtain ⟨oy, hoy⟩ : ∃ oy, orgY ns bs x = oy := ⟨_, rfl⟩
            obtain ⟨px, hpx⟩ : ∃ px, orgX ns sbs x = px := ⟨_, rfl⟩
            obtain ⟨py, hpy⟩ : ∃ py, orgY ns sbs x = py := ⟨_, rfl⟩
            obtain ⟨a, ha⟩ : ∃ a, orgOk ns bs x = a := ⟨_, rfl⟩
            rw [hst, hox, hoy, hpx, hpy, ha] at horg
            have HST := Lib.hid hst
            have HORG := Lib.hid horg
            have hobd := horg.bd
            clear hst hox hoy hpx hpy ha horg
            go_upto_region 14 with fail
            have HBW := Lib.hid (show Below wr.heap.size wr wr.drew from (bre wr).drew)
            have HBOB := Lib.hid (block_lt_of_cell HCELL.out)
            go_cut [20, 21] (fun sb so wx => ∃ g : Nat, sb = .pointer (some ⟨g, 0, none⟩) ∧ so = .bool a ∧ Blk wx g 59 #[.int .i64 ox, .int .i64 oy] ∧ Below wr.heap.size wr wx)
            case first =>
              refine wp_region_noPanic ?_
              refine wp_region_held_drew (S := (fun w' => w'.cell? ⟨w3.heap.size + 1, 0, none⟩ = some (.map mp) ∧ w'.cell? ⟨w3.heap.size, 0, none⟩ = some (.map mk) ∧ w'.cell? ⟨w3.heap.size, 1, none⟩ = some (.map mu) ∧ w'.cell? ⟨bo, off + k, none⟩ = some (.int .u32 x))) (by kernel_rfl) ?_ (fun hHeld => ?_)
              · (try dsimp only)
                exact ⟨(K10.out.belowS HBW.out).cellV (i := 0) rfl, (K9.out.belowS HBW.out).cellV (i := 0) rfl, (K9.out.belowS HBW.out).cellV (i := 1) rfl, (HBW.out.cell (p := ⟨bo, off + k, none⟩) HBOB.out).trans HCELL.out⟩
              refine Tr.take_at 0 87 (.agg #[.map mp]) rfl rfl (by kernel_rfl) (by kernel_rfl) (by kernel_rfl) (fun _ _ _ h => h) (Or.inl ⟨by rfl, ?_⟩) (by assumption) ?_
              · intro W0 hSw
                (try dsimp only at hSw)
                go_simp
              simp only [List.set_cons_zero, List.set_cons_succ]
              refine Tr.take_at 1 88 (.agg #[.map mk, .map mu]) rfl rfl (by kernel_rfl) (by kernel_rfl) (by kernel_rfl) (fun _ _ _ h => h) (Or.inl ⟨by rfl, ?_⟩) (by assumption) ?_
              · intro W0 hSw
                (try dsimp only at hSw)
                go_simp
              simp only [List.set_cons_zero, List.set_cons_succ]
              refine Tr.take_at 2 89 (.slice (some ⟨bo, off, none⟩) n' ck) rfl rfl (by kernel_rfl) (by kernel_rfl) (by kernel_rfl) (fun _ _ _ h => h) (Or.inl ⟨by rfl, ?_⟩) (by assumption) ?_
              · intro W0 hSw
                (try dsimp only at hSw)
                go_simp
              simp only [List.set_cons_zero, List.set_cons_succ]
              refine Tr.take_at 3 90 (.int .i64 (k : Int)) rfl rfl (by kernel_rfl) (by kernel_rfl) (by kernel_rfl) (fun _ _ _ h => h) (Or.inl ⟨by rfl, ?_⟩) (by assumption) ?_
              · intro W0 hSw
                (try dsimp only at hSw)
                go_simp
              simp only [List.set_cons_zero, List.set_cons_succ]
              refine Tr.take_at 4 91 (.pointer (some ⟨bo, off + k, none⟩)) rfl rfl (by kernel_rfl) (by kernel_rfl) (by kernel_rfl) (fun _ _ _ h => h) (Or.inl ⟨by rfl, ?_⟩) (by assumption) ?_
              · intro W0 hSw
                (try dsimp only at hSw)
                go_simp
              simp only [List.set_cons_zero, List.set_cons_succ]
              refine Tr.take_at 5 92 (.int .u32 x) rfl rfl (by kernel_rfl) (by kernel_rfl) (by kernel_rfl) (fun _ _ _ h => h) (Or.inl ⟨by rfl, ?_⟩) (by assumption) ?_
              · intro W0 hSw
                (try dsimp only at hSw)
                go_simp
              simp only [List.set_cons_zero, List.set_cons_succ]
              refine wpAnyH_ready (rs := [6, 10]) (by kernel_rfl) (by simp) ?_
              refine AllReadyH.cons rfl (fun K hK => ?_) (AllReadyH.cons rfl (fun K hK => ?_) AllReadyH.nil)
              ·
                go_simp
                refine (origin_any (.agg #[.map mp]) (.agg #[.map mk, .map mu]) n bs ns mk mu nk fk x _ hxb (HAT.out.place.below HBW.out) (HAT.out.tree.below HBW.out) HAT.out.tok HNB.out).mono ?_
                rintro e wA ⟨rfl, hbA⟩
                rw [HORG.out.o1, HORG.out.o2, HORG.out.o3]
                replace HBW := Lib.hid (bstep HBW.out hbA)
                clear hbA
                go_simp
                refine hK.out _ _ ?_ (fun hHeld => ?_)
                · (try dsimp only)
                  exact ⟨(K10.out.belowS HBW.out).cellV (i := 0) rfl, (K9.out.belowS HBW.out).cellV (i := 0) rfl, (K9.out.belowS HBW.out).cellV (i := 1) rfl, (HBW.out.cell (p := ⟨bo, off + k, none⟩) HBOB.out).trans HCELL.out⟩
                clear hK K
                refine Tr.take_at 7 86 (.tuple #[.agg #[.int .i64 ox, .int .i64 oy], .bool a]) rfl rfl (by kernel_rfl) (by kernel_rfl) (by kernel_rfl) (fun _ _ _ h => h) (Or.inl ⟨by rfl, ?_⟩) (by assumption) ?_
                · intro W0 hSw
                  (try dsimp only at hSw)
                  go_simp
                simp only [List.set_cons_zero, List.set_cons_succ]
                refine Tr.take_at 8 94 (.agg #[.int .i64 ox, .int .i64 oy]) rfl rfl (by kernel_rfl) (by kernel_rfl) (by kernel_rfl) (fun _ _ _ h => h) (Or.inl ⟨by rfl, ?_⟩) (by assumption) ?_
                · intro W0 hSw
                  (try dsimp only at hSw)
                  go_simp
                simp only [List.set_cons_zero, List.set_cons_succ]
                refine Tr.take_at 9 95 (.bool a) rfl rfl (by kernel_rfl) (by kernel_rfl) (by kernel_rfl) (fun _ _ _ h => h) (Or.inl ⟨by rfl, ?_⟩) (by assumption) ?_
                · intro W0 hSw
                  (try dsimp only at hSw)
                  go_simp
                simp only [List.set_cons_zero, List.set_cons_succ]
                refine wpAnyH_ready (rs := [10]) (by kernel_rfl) (by simp) ?_
                refine AllReadyH.cons rfl (fun K hK => ?_) AllReadyH.nil
                go_simp
                have K22 := Lib.hid (show Blk (wA.alloc (.cells #[.int .i64 0, .int .i64 0] 59)) (wA.heap.size) 59 #[.int .i64 0, .int .i64 0] from Blk.new wA 59 #[.int .i64 0, .int .i64 0])
                have HL22 := Lib.hid (show wr.heap.size ≤ wA.heap.size from HBW.out.size)
                replace HBW := Lib.hid (bal HBW.out (.cells #[.int .i64 0, .int .i64 0] 59))
                refine hK.out _ _ ?_ (fun hHeld => ?_)
                · (try dsimp only)
                  exact ⟨(K10.out.belowS HBW.out).cellV (i := 0) rfl, (K9.out.belowS HBW.out).cellV (i := 0) rfl, (K9.out.belowS HBW.out).cellV (i := 1) rfl, (HBW.out.cell (p := ⟨bo, off + k, none⟩) HBOB.out).trans HCELL.out⟩
                clear hK K
                refine wpAnyH_ready (rs := [11]) (by kernel_rfl) (by simp) ?_
                refine AllReadyH.cons rfl (fun K hK => ?_) AllReadyH.nil
                refine Tr.wanted_plain rfl ?_
                refine store_mid0 rfl 59 _ _ rfl (wA.heap.size) 0 #[.int .i64 ox, .int .i64 oy] (by rfl) (by rfl) (by have h := there_blk K22.out; exact h) Tryz.sizePt (by simp [Value.oneCell']) ?_
                have xK := blk_puts2 (.int .i64 ox) (.int .i64 oy) K22.out
                have xB := bsets HBW.out HL22.out (#[.int .i64 ox, .int .i64 oy] : Array Value).toList 0
                obtain ⟨wS, hwS⟩ : ∃ wS, World.setCells (wA.alloc (.cells #[.int .i64 0, .int .i64 0] 59)) (wA.heap.size) 0 (#[.int .i64 ox, .int .i64 oy] : Array Value).toList = wS := ⟨_, rfl⟩
                rw [hwS] at xK xB ⊢
                replace HBW := Lib.hid xB
                replace K22 := Lib.hid xK
                clear xB xK hwS
                refine hK.out _ _ ?_ (fun hHeld => ?_)
                · (try dsimp only)
                  exact ⟨(K10.out.belowS HBW.out).cellV (i := 0) rfl, (K9.out.belowS HBW.out).cellV (i := 0) rfl, (K9.out.belowS HBW.out).cellV (i := 1) rfl, (HBW.out.cell (p := ⟨bo, off + k, none⟩) HBOB.out).trans HCELL.out⟩
                clear hK K
                refine Tr.take_at 12 21 (.bool a) rfl rfl (by kernel_rfl) (by kernel_rfl) (by kernel_rfl) (fun _ _ _ h => h) (Or.inl ⟨by rfl, ?_⟩) (by assumption) ?_
                · intro W0 hSw
                  (try dsimp only at hSw)
                  go_simp
                simp only [List.set_cons_zero, List.set_cons_succ]
                refine wpAnyH_done (by kernel_rfl) ?_ _
                refine NoPanic.normal ?_
                go_wp2_with fail
                go_meet
                exact ⟨_, rfl, rfl, K22.out, HBW.out⟩
              ·
                go_simp
                have K22 := Lib.hid (show Blk (wr.drew.alloc (.cells #[.int .i64 0, .int .i64 0] 59)) (wr.heap.size) 59 #[.int .i64 0, .int .i64 0] from Blk.new wr.drew 59 #[.int .i64 0, .int .i64 0])
                have HL22 := Lib.hid (show wr.heap.size ≤ wr.heap.size from HBW.out.size)
                replace HBW := Lib.hid (bal HBW.out (.cells #[.int .i64 0, .int .i64 0] 59))
                refine hK.out _ _ ?_ (fun hHeld => ?_)
                · (try dsimp only)
                  exact ⟨(K10.out.belowS HBW.out).cellV (i := 0) rfl, (K9.out.belowS HBW.out).cellV (i := 0) rfl, (K9.out.belowS HBW.out).cellV (i := 1) rfl, (HBW.out.cell (p := ⟨bo, off + k, none⟩) HBOB.out).trans HCELL.out⟩
                clear hK K
                refine wpAnyH_ready (rs := [6]) (by kernel_rfl) (by simp) ?_
                refine AllReadyH.cons rfl (fun K hK => ?_) AllReadyH.nil
                go_simp
                refine (origin_any (.agg #[.map mp]) (.agg #[.map mk, .map mu]) n bs ns mk mu nk fk x _ hxb (HAT.out.place.below HBW.out) (HAT.out.tree.below HBW.out) HAT.out.tok HNB.out).mono ?_
                rintro e wA ⟨rfl, hbA⟩
                rw [HORG.out.o1, HORG.out.o2, HORG.out.o3]
                replace HBW := Lib.hid (bstep HBW.out hbA)
                replace K22 := Lib.hid (K22.out.belowS hbA)
                clear hbA
                go_simp
                refine hK.out _ _ ?_ (fun hHeld => ?_)
                · (try dsimp only)
                  exact ⟨(K10.out.belowS HBW.out).cellV (i := 0) rfl, (K9.out.belowS HBW.out).cellV (i := 0) rfl, (K9.out.belowS HBW.out).cellV (i := 1) rfl, (HBW.out.cell (p := ⟨bo, off + k, none⟩) HBOB.out).trans HCELL.out⟩
                clear hK K
                refine Tr.take_at 7 86 (.tuple #[.agg #[.int .i64 ox, .int .i64 oy], .bool a]) rfl rfl (by kernel_rfl) (by kernel_rfl) (by kernel_rfl) (fun _ _ _ h => h) (Or.inl ⟨by rfl, ?_⟩) (by assumption) ?_
                · intro W0 hSw
                  (try dsimp only at hSw)
                  go_simp
                simp only [List.set_cons_zero, List.set_cons_succ]
                refine Tr.take_at 8 94 (.agg #[.int .i64 ox, .int .i64 oy]) rfl rfl (by kernel_rfl) (by kernel_rfl) (by kernel_rfl) (fun _ _ _ h => h) (Or.inl ⟨by rfl, ?_⟩) (by assumption) ?_
                · intro W0 hSw
                  (try dsimp only at hSw)
                  go_simp
                simp only [List.set_cons_zero, List.set_cons_succ]
                refine Tr.take_at 9 95 (.bool a) rfl rfl (by kernel_rfl) (by kernel_rfl) (by kernel_rfl) (fun _ _ _ h => h) (Or.inl ⟨by rfl, ?_⟩) (by assumption) ?_
                · intro W0 hSw
                  (try dsimp only at hSw)
                  go_simp
                simp only [List.set_cons_zero, List.set_cons_succ]
                refine wpAnyH_ready (rs := [11]) (by kernel_rfl) (by simp) ?_
                refine AllReadyH.cons rfl (fun K hK => ?_) AllReadyH.nil
                refine Tr.wanted_plain rfl ?_
                refine store_mid0 rfl 59 _ _ rfl (wr.heap.size) 0 #[.int .i64 ox, .int .i64 oy] (by rfl) (by rfl) (by have h := there_blk K22.out; exact h) Tryz.sizePt (by simp [Value.oneCell']) ?_
                have xK := blk_puts2 (.int .i64 ox) (.int .i64 oy) K22.out
                have xB := bsets HBW.out HL22.out (#[.int .i64 ox, .int .i64 oy] : Array Value).toList 0
                obtain ⟨wS, hwS⟩ : ∃ wS, World.setCells (wA) (wr.heap.size) 0 (#[.int .i64 ox, .int .i64 oy] : Array Value).toList = wS := ⟨_, rfl⟩
                rw [hwS] at xK xB ⊢
                replace HBW := Lib.hid xB
                replace K22 := Lib.hid xK
                clear xB xK hwS
                refine hK.out _ _ ?_ (fun hHeld => ?_)
                · (try dsimp only)
                  exact ⟨(K10.out.belowS HBW.out).cellV (i := 0) rfl, (K9.out.belowS HBW.out).cellV (i := 0) rfl, (K9.out.belowS HBW.out).cellV (i := 1) rfl, (HBW.out.cell (p := ⟨bo, off + k, none⟩) HBOB.out).trans HCELL.out⟩
                clear hK K
                refine Tr.take_at 12 21 (.bool a) rfl rfl (by kernel_rfl) (by kernel_rfl) (by kernel_rfl) (fun _ _ _ h => h) (Or.inl ⟨by rfl, ?_⟩) (by assumption) ?_
                · intro W0 hSw
                  (try dsimp only at hSw)
                  go_simp
                simp only [List.set_cons_zero, List.set_cons_succ]
                refine wpAnyH_done (by kernel_rfl) ?_ _
                refine NoPanic.normal ?_
                go_wp2_with fail
                go_meet
                exact ⟨_, rfl, rfl, K22.out, HBW.out⟩
            case rest =>
              obtain ⟨g20, rfl, rfl, k20, hb20⟩ := hcut
              as_aux_lemma =>
                have K20 := Lib.hid k20
                replace HP5 := Lib.hid (HP5.out.below hb20)
                replace HAT := Lib.hid (HAT.out.below hb20)
                replace HB := Lib.hid (bstep HB.out hb20)
                replace K9 := Lib.hid (K9.out.belowS hb20)
                replace K10 := Lib.hid (K10.out.belowS hb20)
                replace K16 := Lib.hid (K16.out.belowS hb20)
                replace HBW8 := Lib.hid (bstep HBW8.out hb20)
                replace HCELL := Lib.hid ((hb20.cell (p := ⟨bo, off + k, none⟩) (block_lt_of_cell HCELL.out)).trans HCELL.out)
                clear k20 hb20
                go_upto_region 15 with fail
                have HBW := Lib.hid (show Below wc.heap.size wc wc.drew from (bre wc).drew)
                have HBOB := Lib.hid (block_lt_of_cell HCELL.out)
                go_cut [22, 23] (fun sb so wx => ∃ g : Nat, sb = .pointer (some ⟨g, 0, none⟩) ∧ so = .bool a ∧ Blk wx g 59 #[.int .i64 px, .int .i64 py] ∧ Below wc.heap.size wc wx)
                case first =>
                  refine wp_region_noPanic ?_
                  refine wp_region_held_drew (S := (fun w' => w'.cell? ⟨w5.heap.size, 0, none⟩ = some (.map mq) ∧ w'.cell? ⟨w3.heap.size, 0, none⟩ = some (.map mk) ∧ w'.cell? ⟨w3.heap.size, 1, none⟩ = some (.map mu) ∧ w'.cell? ⟨bo, off + k, none⟩ = some (.int .u32 x))) (by kernel_rfl) ?_ (fun hHeld => ?_)
                  · (try dsimp only)
                    exact ⟨(K16.out.belowS HBW.out).cellV (i := 0) rfl, (K9.out.belowS HBW.out).cellV (i := 0) rfl, (K9.out.belowS HBW.out).cellV (i := 1) rfl, (HBW.out.cell (p := ⟨bo, off + k, none⟩) HBOB.out).trans HCELL.out⟩
                  refine Tr.take_at 0 97 (.agg #[.map mq]) rfl rfl (by kernel_rfl) (by kernel_rfl) (by kernel_rfl) (fun _ _ _ h => h) (Or.inl ⟨by rfl, ?_⟩) (by assumption) ?_
                  · intro W0 hSw
                    (try dsimp only at hSw)
                    go_simp
                  simp only [List.set_cons_zero, List.set_cons_succ]
                  refine Tr.take_at 1 98 (.agg #[.map mk, .map mu]) rfl rfl (by kernel_rfl) (by kernel_rfl) (by kernel_rfl) (fun _ _ _ h => h) (Or.inl ⟨by rfl, ?_⟩) (by assumption) ?_
                  · intro W0 hSw
                    (try dsimp only at hSw)
                    go_simp
                  simp only [List.set_cons_zero, List.set_cons_succ]
                  refine Tr.take_at 2 99 (.slice (some ⟨bo, off, none⟩) n' ck) rfl rfl (by kernel_rfl) (by kernel_rfl) (by kernel_rfl) (fun _ _ _ h => h) (Or.inl ⟨by rfl, ?_⟩) (by assumption) ?_
                  · intro W0 hSw
                    (try dsimp only at hSw)
                    go_simp
                  simp only [List.set_cons_zero, List.set_cons_succ]
                  refine Tr.take_at 3 100 (.int .i64 (k : Int)) rfl rfl (by kernel_rfl) (by kernel_rfl) (by kernel_rfl) (fun _ _ _ h => h) (Or.inl ⟨by rfl, ?_⟩) (by assumption) ?_
                  · intro W0 hSw
                    (try dsimp only at hSw)
                    go_simp
                  simp only [List.set_cons_zero, List.set_cons_succ]
                  refine Tr.take_at 4 101 (.pointer (some ⟨bo, off + k, none⟩)) rfl rfl (by kernel_rfl) (by kernel_rfl) (by kernel_rfl) (fun _ _ _ h => h) (Or.inl ⟨by rfl, ?_⟩) (by assumption) ?_
                  · intro W0 hSw
                    (try dsimp only at hSw)
                    go_simp
                  simp only [List.set_cons_zero, List.set_cons_succ]
                  refine Tr.take_at 5 102 (.int .u32 x) rfl rfl (by kernel_rfl) (by kernel_rfl) (by kernel_rfl) (fun _ _ _ h => h) (Or.inl ⟨by rfl, ?_⟩) (by assumption) ?_
                  · intro W0 hSw
                    (try dsimp only at hSw)
                    go_simp
                  simp only [List.set_cons_zero, List.set_cons_succ]
                  refine wpAnyH_ready (rs := [6, 10]) (by kernel_rfl) (by simp) ?_
                  refine AllReadyH.cons rfl (fun K hK => ?_) (AllReadyH.cons rfl (fun K hK => ?_) AllReadyH.nil)
                  ·
                    go_simp
                    refine (origin_any (.agg #[.map mq]) (.agg #[.map mk, .map mu]) n sbs ns mk mu nk fk x _ hxb (HP5.out.below HBW.out) (HAT.out.tree.below HBW.out) HAT.out.tok HNB'.out).mono ?_
                    rintro e wA ⟨rfl, hbA⟩
                    rw [HORG.out.p1, HORG.out.p2, HORG.out.p3]
                    replace HBW := Lib.hid (bstep HBW.out hbA)
                    clear hbA
                    go_simp
                    refine hK.out _ _ ?_ (fun hHeld => ?_)
                    · (try dsimp only)
                      exact ⟨(K16.out.belowS HBW.out).cellV (i := 0) rfl, (K9.out.belowS HBW.out).cellV (i := 0) rfl, (K9.out.belowS HBW.out).cellV (i := 1) rfl, (HBW.out.cell (p := ⟨bo, off + k, none⟩) HBOB.out).trans HCELL.out⟩
                    clear hK K
                    refine Tr.take_at 7 96 (.tuple #[.agg #[.int .i64 px, .int .i64 py], .bool a]) rfl rfl (by kernel_rfl) (by kernel_rfl) (by kernel_rfl) (fun _ _ _ h => h) (Or.inl ⟨by rfl, ?_⟩) (by assumption) ?_
                    · intro W0 hSw
                      (try dsimp only at hSw)
                      go_simp
                    simp only [List.set_cons_zero, List.set_cons_succ]
                    refine Tr.take_at 8 104 (.agg #[.int .i64 px, .int .i64 py]) rfl rfl (by kernel_rfl) (by kernel_rfl) (by kernel_rfl) (fun _ _ _ h => h) (Or.inl ⟨by rfl, ?_⟩) (by assumption) ?_
                    · intro W0 hSw
                      (try dsimp only at hSw)
                      go_simp
                    simp only [List.set_cons_zero, List.set_cons_succ]
                    refine Tr.take_at 9 105 (.bool a) rfl rfl (by kernel_rfl) (by kernel_rfl) (by kernel_rfl) (fun _ _ _ h => h) (Or.inl ⟨by rfl, ?_⟩) (by assumption) ?_
                    · intro W0 hSw
                      (try dsimp only at hSw)
                      go_simp
                    simp only [List.set_cons_zero, List.set_cons_succ]
                    refine wpAnyH_ready (rs := [10]) (by kernel_rfl) (by simp) ?_
                    refine AllReadyH.cons rfl (fun K hK => ?_) AllReadyH.nil
                    go_simp
                    have K22 := Lib.hid (show Blk (wA.alloc (.cells #[.int .i64 0, .int .i64 0] 59)) (wA.heap.size) 59 #[.int .i64 0, .int .i64 0] from Blk.new wA 59 #[.int .i64 0, .int .i64 0])
                    have HL22 := Lib.hid (show wc.heap.size ≤ wA.heap.size from HBW.out.size)
                    replace HBW := Lib.hid (bal HBW.out (.cells #[.int .i64 0, .int .i64 0] 59))
                    refine hK.out _ _ ?_ (fun hHeld => ?_)
                    · (try dsimp only)
                      exact ⟨(K16.out.belowS HBW.out).cellV (i := 0) rfl, (K9.out.belowS HBW.out).cellV (i := 0) rfl, (K9.out.belowS HBW.out).cellV (i := 1) rfl, (HBW.out.cell (p := ⟨bo, off + k, none⟩) HBOB.out).trans HCELL.out⟩
                    clear hK K
                    refine wpAnyH_ready (rs := [11]) (by kernel_rfl) (by simp) ?_
                    refine AllReadyH.cons rfl (fun K hK => ?_) AllReadyH.nil
                    refine Tr.wanted_plain rfl ?_
                    refine store_mid0 rfl 59 _ _ rfl (wA.heap.size) 0 #[.int .i64 px, .int .i64 py] (by rfl) (by rfl) (by have h := there_blk K22.out; exact h) Tryz.sizePt (by simp [Value.oneCell']) ?_
                    have xK := blk_puts2 (.int .i64 px) (.int .i64 py) K22.out
                    have xB := bsets HBW.out HL22.out (#[.int .i64 px, .int .i64 py] : Array Value).toList 0
                    obtain ⟨wS, hwS⟩ : ∃ wS, World.setCells (wA.alloc (.cells #[.int .i64 0, .int .i64 0] 59)) (wA.heap.size) 0 (#[.int .i64 px, .int .i64 py] : Array Value).toList = wS := ⟨_, rfl⟩
                    rw [hwS] at xK xB ⊢
                    replace HBW := Lib.hid xB
                    replace K22 := Lib.hid xK
                    clear xB xK hwS
                    refine hK.out _ _ ?_ (fun hHeld => ?_)
                    · (try dsimp only)
                      exact ⟨(K16.out.belowS HBW.out).cellV (i := 0) rfl, (K9.out.belowS HBW.out).cellV (i := 0) rfl, (K9.out.belowS HBW.out).cellV (i := 1) rfl, (HBW.out.cell (p := ⟨bo, off + k, none⟩) HBOB.out).trans HCELL.out⟩
                    clear hK K
                    refine Tr.take_at 12 23 (.bool a) rfl rfl (by kernel_rfl) (by kernel_rfl) (by kernel_rfl) (fun _ _ _ h => h) (Or.inl ⟨by rfl, ?_⟩) (by assumption) ?_
                    · intro W0 hSw
                      (try dsimp only at hSw)
                      go_simp
                    simp only [List.set_cons_zero, List.set_cons_succ]
                    refine wpAnyH_done (by kernel_rfl) ?_ _
                    refine NoPanic.normal ?_
                    go_wp2_with fail
                    go_meet
                    exact ⟨_, rfl, rfl, K22.out, HBW.out⟩
                  ·
                    go_simp
                    have K22 := Lib.hid (show Blk (wc.drew.alloc (.cells #[.int .i64 0, .int .i64 0] 59)) (wc.heap.size) 59 #[.int .i64 0, .int .i64 0] from Blk.new wc.drew 59 #[.int .i64 0, .int .i64 0])
                    have HL22 := Lib.hid (show wc.heap.size ≤ wc.heap.size from HBW.out.size)
                    replace HBW := Lib.hid (bal HBW.out (.cells #[.int .i64 0, .int .i64 0] 59))
                    refine hK.out _ _ ?_ (fun hHeld => ?_)
                    · (try dsimp only)
                      exact ⟨(K16.out.belowS HBW.out).cellV (i := 0) rfl, (K9.out.belowS HBW.out).cellV (i := 0) rfl, (K9.out.belowS HBW.out).cellV (i := 1) rfl, (HBW.out.cell (p := ⟨bo, off + k, none⟩) HBOB.out).trans HCELL.out⟩
                    clear hK K
                    refine wpAnyH_ready (rs := [6]) (by kernel_rfl) (by simp) ?_
                    refine AllReadyH.cons rfl (fun K hK => ?_) AllReadyH.nil
                    go_simp
                    refine (origin_any (.agg #[.map mq]) (.agg #[.map mk, .map mu]) n sbs ns mk mu nk fk x _ hxb (HP5.out.below HBW.out) (HAT.out.tree.below HBW.out) HAT.out.tok HNB'.out).mono ?_
                    rintro e wA ⟨rfl, hbA⟩
                    rw [HORG.out.p1, HORG.out.p2, HORG.out.p3]
                    replace HBW := Lib.hid (bstep HBW.out hbA)
                    replace K22 := Lib.hid (K22.out.belowS hbA)
                    clear hbA
                    go_simp
                    refine hK.out _ _ ?_ (fun hHeld => ?_)
                    · (try dsimp only)
                      exact ⟨(K16.out.belowS HBW.out).cellV (i := 0) rfl, (K9.out.belowS HBW.out).cellV (i := 0) rfl, (K9.out.belowS HBW.out).cellV (i := 1) rfl, (HBW.out.cell (p := ⟨bo, off + k, none⟩) HBOB.out).trans HCELL.out⟩
                    clear hK K
                    refine Tr.take_at 7 96 (.tuple #[.agg #[.int .i64 px, .int .i64 py], .bool a]) rfl rfl (by kernel_rfl) (by kernel_rfl) (by kernel_rfl) (fun _ _ _ h => h) (Or.inl ⟨by rfl, ?_⟩) (by assumption) ?_
                    · intro W0 hSw
                      (try dsimp only at hSw)
                      go_simp
                    simp only [List.set_cons_zero, List.set_cons_succ]
                    refine Tr.take_at 8 104 (.agg #[.int .i64 px, .int .i64 py]) rfl rfl (by kernel_rfl) (by kernel_rfl) (by kernel_rfl) (fun _ _ _ h => h) (Or.inl ⟨by rfl, ?_⟩) (by assumption) ?_
                    · intro W0 hSw
                      (try dsimp only at hSw)
                      go_simp
                    simp only [List.set_cons_zero, List.set_cons_succ]
                    refine Tr.take_at 9 105 (.bool a) rfl rfl (by kernel_rfl) (by kernel_rfl) (by kernel_rfl) (fun _ _ _ h => h) (Or.inl ⟨by rfl, ?_⟩) (by assumption) ?_
                    · intro W0 hSw
                      (try dsimp only at hSw)
                      go_simp
                    simp only [List.set_cons_zero, List.set_cons_succ]
                    refine wpAnyH_ready (rs := [11]) (by kernel_rfl) (by simp) ?_
                    refine AllReadyH.cons rfl (fun K hK => ?_) AllReadyH.nil
                    refine Tr.wanted_plain rfl ?_
                    refine store_mid0 rfl 59 _ _ rfl (wc.heap.size) 0 #[.int .i64 px, .int .i64 py] (by rfl) (by rfl) (by have h := there_blk K22.out; exact h) Tryz.sizePt (by simp [Value.oneCell']) ?_
                    have xK := blk_puts2 (.int .i64 px) (.int .i64 py) K22.out
                    have xB := bsets HBW.out HL22.out (#[.int .i64 px, .int .i64 py] : Array Value).toList 0
                    obtain ⟨wS, hwS⟩ : ∃ wS, World.setCells (wA) (wc.heap.size) 0 (#[.int .i64 px, .int .i64 py] : Array Value).toList = wS := ⟨_, rfl⟩
                    rw [hwS] at xK xB ⊢
                    replace HBW := Lib.hid xB
                    replace K22 := Lib.hid xK
                    clear xB xK hwS
                    refine hK.out _ _ ?_ (fun hHeld => ?_)
                    · (try dsimp only)
                      exact ⟨(K16.out.belowS HBW.out).cellV (i := 0) rfl, (K9.out.belowS HBW.out).cellV (i := 0) rfl, (K9.out.belowS HBW.out).cellV (i := 1) rfl, (HBW.out.cell (p := ⟨bo, off + k, none⟩) HBOB.out).trans HCELL.out⟩
                    clear hK K
                    refine Tr.take_at 12 23 (.bool a) rfl rfl (by kernel_rfl) (by kernel_rfl) (by kernel_rfl) (fun _ _ _ h => h) (Or.inl ⟨by rfl, ?_⟩) (by assumption) ?_
                    · intro W0 hSw
                      (try dsimp only at hSw)
                      go_simp
                    simp only [List.set_cons_zero, List.set_cons_succ]
                    refine wpAnyH_done (by kernel_rfl) ?_ _
                    refine NoPanic.normal ?_
                    go_wp2_with fail
                    go_meet
                    exact ⟨_, rfl, rfl, K22.out, HBW.out⟩
                case rest =>
                  obtain ⟨g22, rfl, rfl, k22, hb22⟩ := hcut
                  as_aux_lemma =>
                    have K22 := Lib.hid k22
                    replace K20 := Lib.hid (K20.out.belowS hb22)
                    replace HAT := Lib.hid (HAT.out.below hb22)
                    replace HB := Lib.hid (bstep HB.out hb22)
                    replace K9 := Lib.hid (K9.out.belowS hb22)
                    replace K10 := Lib.hid (K10.out.belowS hb22)
                    replace HBW8 := Lib.hid (bstep HBW8.out hb22)
                    replace HCELL := Lib.hid ((hb22.cell (p := ⟨bo, off + k, none⟩) (block_lt_of_cell HCELL.out)).trans HCELL.out)
                    clear k22 hb22 K16 HP5
                    go_wp2_with fail
                    have HBW := Lib.hid (show Below wc.heap.size wc wc.drew from (bre wc).drew)
                    have HBOB := Lib.hid (block_lt_of_cell HCELL.out)
                    refine wp_region_noPanic ?_
                    refine wp_region_held_drew (S := (fun w' => w'.cell? ⟨w3.heap.size, 0, none⟩ = some (.map mk) ∧ w'.cell? ⟨w3.heap.size, 1, none⟩ = some (.map mu) ∧ w'.cell? ⟨bo, off + k, none⟩ = some (.int .u32 x))) (by kernel_rfl) ?_ (fun hHeld => ?_)
                    · (try dsimp only)
                      exact ⟨(K9.out.belowS HBW.out).cellV (i := 0) rfl, (K9.out.belowS HBW.out).cellV (i := 1) rfl, (HBW.out.cell (p := ⟨bo, off + k, none⟩) HBOB.out).trans HCELL.out⟩
                    refine Tr.take_at 0 109 (.agg #[.map mk, .map mu]) rfl rfl (by kernel_rfl) (by kernel_rfl) (by kernel_rfl) (fun _ _ _ h => h) (Or.inl ⟨by rfl, ?_⟩) (by assumption) ?_
                    · intro W0 hSw
                      (try dsimp only at hSw)
                      go_simp
                    simp only [List.set_cons_zero, List.set_cons_succ]
                    refine Tr.take_at 1 110 (.slice (some ⟨bo, off, none⟩) n' ck) rfl rfl (by kernel_rfl) (by kernel_rfl) (by kernel_rfl) (fun _ _ _ h => h) (Or.inl ⟨by rfl, ?_⟩) (by assumption) ?_
                    · intro W0 hSw
                      (try dsimp only at hSw)
                      go_simp
                    simp only [List.set_cons_zero, List.set_cons_succ]
                    refine Tr.take_at 2 111 (.int .i64 (k : Int)) rfl rfl (by kernel_rfl) (by kernel_rfl) (by kernel_rfl) (fun _ _ _ h => h) (Or.inl ⟨by rfl, ?_⟩) (by assumption) ?_
                    · intro W0 hSw
                      (try dsimp only at hSw)
                      go_simp
                    simp only [List.set_cons_zero, List.set_cons_succ]
                    refine Tr.take_at 3 112 (.pointer (some ⟨bo, off + k, none⟩)) rfl rfl (by kernel_rfl) (by kernel_rfl) (by kernel_rfl) (fun _ _ _ h => h) (Or.inl ⟨by rfl, ?_⟩) (by assumption) ?_
                    · intro W0 hSw
                      (try dsimp only at hSw)
                      go_simp
                    simp only [List.set_cons_zero, List.set_cons_succ]
                    refine Tr.take_at 4 113 (.int .u32 x) rfl rfl (by kernel_rfl) (by kernel_rfl) (by kernel_rfl) (fun _ _ _ h => h) (Or.inl ⟨by rfl, ?_⟩) (by assumption) ?_
                    · intro W0 hSw
                      (try dsimp only at hSw)
                      go_simp
                    simp only [List.set_cons_zero, List.set_cons_succ]
                    refine wpAnyH_ready (rs := [5]) (by kernel_rfl) (by simp) ?_
                    refine AllReadyH.cons rfl (fun K hK => ?_) AllReadyH.nil
                    go_simp
                    refine (path_any (.agg #[.map mk, .map mu]) ns mk mu nk fk x _ hxb (HAT.out.tree.below HBW.out) HAT.out.tok).mono ?_
                    rintro e w9 ⟨up, rfl, hop, hbA⟩
                    replace HBW := Lib.hid (bstep HBW.out hbA)
                    obtain ⟨Ap, cp, rfl, hcp⟩ := own_form hop
                    have HOP := Lib.hid (Rd.of_own hop)
                    clear hbA hop
                    go_simp
                    refine hK.out _ _ ?_ (fun hHeld => ?_)
                    · (try dsimp only)
                      exact ⟨(K9.out.belowS HBW.out).cellV (i := 0) rfl, (K9.out.belowS HBW.out).cellV (i := 1) rfl, (HBW.out.cell (p := ⟨bo, off + k, none⟩) HBOB.out).trans HCELL.out⟩
                    clear hK K
                    refine Tr.take_at 6 24 (.slice Ap (pathN ns x).length cp) rfl rfl (by kernel_rfl) (by kernel_rfl) (by kernel_rfl) (fun _ _ _ h => h) (Or.inl ⟨by rfl, ?_⟩) (by assumption) ?_
                    · intro W0 hSw
                      (try dsimp only at hSw)
                      go_simp
                    simp only [List.set_cons_zero, List.set_cons_succ]
                    refine wpAnyH_done (by kernel_rfl) ?_ _
                    refine NoPanic.normal ?_
                    have hpl := path_len HAT.out.tok x
                    have hpne := List.length_pos_of_mem (path_self HAT.out.tok HXN.out)
                    have HPO := Lib.hid (show ∀ y ∈ pathN ns x, 0 ≤ y ∧ y ≤ 4294967295 from fun y hy => path_ok HAT.out.tree.ok HAT.out.tok hxb hy)
                    replace K20 := Lib.hid (K20.out.belowS HBW.out)
                    replace K22 := Lib.hid (K22.out.belowS HBW.out)
                    replace K10 := Lib.hid (K10.out.belowS HBW.out)
                    replace HAT := Lib.hid (HAT.out.below HBW.out)
                    replace HBW8 := Lib.hid (bstep HBW8.out HBW.out)
                    replace HB := Lib.hid (bstep HB.out HBW.out)
                    clear HBW HBOB HCELL K9 hHeld
                    obtain ⟨pl, hple⟩ : ∃ pl, pathN ns x = pl := ⟨_, rfl⟩
                    have h1 := HST.out
                    have h2 := HOP.out
                    have h3 := HPO.out
                    rw [hple] at h1 h2 h3 hpl hpne hcp ⊢
                    replace HST := Lib.hid h1
                    replace HOP := Lib.hid h2
                    replace HPO := Lib.hid h3
                    clear h1 h2 h3 hple
                    obtain ⟨np, hnp⟩ : ∃ np, pl.length = np := ⟨_, rfl⟩
                    have h1 := HST.out
                    have h2 := HOP.out
                    rw [hnp] at h1 h2 hpl hpne hcp ⊢
                    replace HST := Lib.hid h1
                    replace HOP := Lib.hid h2
                    have HNP := Lib.hid hnp
                    clear h1 h2 hnp
                    go_wp2_with fail
                    as_aux_lemma =>
                      go_loopw [26, 25] (fun i v wr => ∃ m : Nat, i = .int .i64 ((m : Int) + 1) ∧ m + 1 ≤ np ∧ v = .bool (stL bs id pl m) ∧ Below w9.heap.size w9 wr) (fun i _ _ => np - (intOf i).toNat)
                      case atStart => exact ⟨0, rfl, by omega, rfl, bre w9⟩
                      case round =>
                        obtain ⟨m, rfl, hm, rfl, hb10⟩ := hrel
                        replace K20 := Lib.hid (K20.out.belowS hb10)
                        replace K22 := Lib.hid (K22.out.belowS hb10)
                        replace K10 := Lib.hid (K10.out.belowS hb10)
                        replace HAT := Lib.hid (HAT.out.below hb10)
                        replace HBW8 := Lib.hid (bstep HBW8.out hb10)
                        replace HB := Lib.hid (bstep HB.out hb10)
                        replace HOP := Lib.hid (HOP.out.below hb10)
                        have HB10 := Lib.hid hb10
                        clear hb10
                        as_aux_lemma =>
                          by_cases hlt2 : m + 1 < np
                          ·
                            obtain ⟨y, hy⟩ : ∃ y, pl[m]? = some y := ⟨_, List.getElem?_eq_getElem (by rw [HNP.out]; omega)⟩
                            obtain ⟨z, hz⟩ : ∃ z, pl[m + 1]? = some z := ⟨_, List.getElem?_eq_getElem (by rw [HNP.out]; exact hlt2)⟩
                            have hyb := HPO.out y (List.mem_of_getElem? hy)
                            have hsl := stL_succ (bs := bs) (id := id) hy hz
                            have HSL := Lib.hid hsl
                            obtain ⟨bp, ofp, rfl, hbl2, hcl2⟩ := HOP.out.2 (by omega)
                            have c1 := hcl2 m _ (U32_at hy)
                            have c2 := hcl2 (m + 1) _ (U32_at hz)
                            have m1 : (m : Int) + 1 < (np : Int) := by omega
                            have m0 : (0 : Int) ≤ (m : Int) + 1 := by omega
                            have m2 : (0 : Int) ≤ (m : Int) := by omega
                            have mt : ((m : Int) + 1).toNat = m + 1 := by omega
                            have HCY := Lib.hid c1
                            clear hy hz hcl2 hsl
                            by_cases hzi : z = id
                            rotate_left
                            · have d1 : (z == id) = false := by simp [hzi]
                              have HZI := Lib.hid hzi
                              clear hzi
                              go_wp2_with fail
                              go_roundw
                              case rel => exact ⟨m + 1, by go_num, by omega, by rw [HSL.out, if_neg HZI.out], HB10.out⟩
                              case measure => simp [intOf]; omega
                            have d1 : (z == id) = true := by simp [hzi]
                            have HZI := Lib.hid hzi
                            clear hzi c1
                            obtain ⟨kb, hkb⟩ : ∃ kb, (bs y).getD zBX = kb := ⟨_, rfl⟩
                            obtain ⟨sk, hsk⟩ : ∃ sk, (bs y).isSome = sk := ⟨_, rfl⟩
                            have HSTA := Lib.hid (stat_of hkb hsk)
                            have HKB := Lib.hid hkb
                            have HSK := Lib.hid hsk
                            clear hkb hsk
                            go_upto_region 24 with fail
                            have HBW := Lib.hid (show Below wr.heap.size wr wr.drew from (bre wr).drew)
                            have HBOB := Lib.hid (block_lt_of_cell HCY.out)
                            go_cut [27, 28] (fun sb so wx => ∃ g : Nat, sb = .pointer (some ⟨g, 0, none⟩) ∧ so = .bool sk ∧ Blk wx g 46 #[.int .i64 kb.X, .int .i64 kb.Y, .int .i64 kb.W, .int .i64 kb.H, .bool kb.M, .int .i64 kb.G, .int .i64 kb.B, .bool kb.S, .slice kb.A kb.n kb.c] ∧ Below wr.heap.size wr wx)
                            case first =>
                              have hmw : IntKind.i64.wrap ((m : Int) + 1 - 1) = (m : Int) := by rw [show (m : Int) + 1 - 1 = (m : Int) from by omega]; exact IntWalk.i64_in _ (by omega)
                              refine wp_region_noPanic ?_
                              refine wp_region_held_drew (S := (fun w' => w'.cell? ⟨w3.heap.size + 1, 0, none⟩ = some (.map mp) ∧ w'.cell? ⟨bp, ofp + m, none⟩ = some (.int .u32 y))) (by kernel_rfl) ?_ (fun hHeld => ?_)
                              · (try dsimp only)
                                exact ⟨(K10.out.belowS HBW.out).cellV (i := 0) rfl, (HBW.out.cell (p := ⟨bp, ofp + m, none⟩) HBOB.out).trans HCY.out⟩
                              refine Tr.take_at 0 128 (.agg #[.map mp]) rfl rfl (by kernel_rfl) (by kernel_rfl) (by kernel_rfl) (fun _ _ _ h => h) (Or.inl ⟨by rfl, ?_⟩) (by assumption) ?_
                              · intro W0 hSw
                                (try dsimp only at hSw)
                                go_simp
                              simp only [List.set_cons_zero, List.set_cons_succ]
                              refine Tr.take_at 1 129 (.slice (some ⟨bp, ofp, none⟩) np cp) rfl rfl (by kernel_rfl) (by kernel_rfl) (by kernel_rfl) (fun _ _ _ h => h) (Or.inl ⟨by rfl, ?_⟩) (by assumption) ?_
                              · intro W0 hSw
                                (try dsimp only at hSw)
                                go_simp
                              simp only [List.set_cons_zero, List.set_cons_succ]
                              refine Tr.take_at 2 130 (.int .i64 ((m : Int) + 1)) rfl rfl (by kernel_rfl) (by kernel_rfl) (by kernel_rfl) (fun _ _ _ h => h) (Or.inl ⟨by rfl, ?_⟩) (by assumption) ?_
                              · intro W0 hSw
                                (try dsimp only at hSw)
                                go_simp
                              simp only [List.set_cons_zero, List.set_cons_succ]
                              refine Tr.take_at 3 131 (.int .i64 (m : Int)) rfl rfl (by kernel_rfl) (by kernel_rfl) (by kernel_rfl) (fun _ _ _ h => h) (Or.inl ⟨by rfl, ?_⟩) (by assumption) ?_
                              · intro W0 hSw
                                (try dsimp only at hSw)
                                go_simp
                                exact IntWalk.i64_in _ (by omega)
                              simp only [List.set_cons_zero, List.set_cons_succ]
                              refine Tr.take_at 4 132 (.pointer (some ⟨bp, ofp + m, none⟩)) rfl rfl (by kernel_rfl) (by kernel_rfl) (by kernel_rfl) (fun _ _ _ h => h) (Or.inl ⟨by rfl, ?_⟩) (by assumption) ?_
                              · intro W0 hSw
                                (try dsimp only at hSw)
                                go_simp
                                (try (intro h9; exfalso; omega))
                              simp only [List.set_cons_zero, List.set_cons_succ]
                              refine Tr.take_at 5 133 (.int .u32 y) rfl rfl (by kernel_rfl) (by kernel_rfl) (by kernel_rfl) (fun _ _ _ h => h) (Or.inl ⟨by rfl, ?_⟩) (by assumption) ?_
                              · intro W0 hSw
                                (try dsimp only at hSw)
                                go_simp
                              simp only [List.set_cons_zero, List.set_cons_succ]
                              refine wpAnyH_ready (rs := [6, 10]) (by kernel_rfl) (by simp) ?_
                              refine AllReadyH.cons rfl (fun K hK => ?_) (AllReadyH.cons rfl (fun K hK => ?_) AllReadyH.nil)
                              ·
                                go_simp
                                refine (box_any (.agg #[.map mp]) n bs y _ hyb (HAT.out.place.below HBW.out)).mono ?_
                                rintro e wA ⟨rfl, hbA⟩
                                rw [HKB.out, HSK.out]
                                unfold BX.v
                                replace HBW := Lib.hid (bstep HBW.out hbA)
                                clear hbA
                                go_simp
                                refine hK.out _ _ ?_ (fun hHeld => ?_)
                                · (try dsimp only)
                                  exact ⟨(K10.out.belowS HBW.out).cellV (i := 0) rfl, (HBW.out.cell (p := ⟨bp, ofp + m, none⟩) HBOB.out).trans HCY.out⟩
                                clear hK K
                                refine Tr.take_at 7 127 (.tuple #[.agg #[.int .i64 kb.X, .int .i64 kb.Y, .int .i64 kb.W, .int .i64 kb.H, .bool kb.M, .int .i64 kb.G, .int .i64 kb.B, .bool kb.S, .slice kb.A kb.n kb.c], .bool sk]) rfl rfl (by kernel_rfl) (by kernel_rfl) (by kernel_rfl) (fun _ _ _ h => h) (Or.inl ⟨by rfl, ?_⟩) (by assumption) ?_
                                · intro W0 hSw
                                  (try dsimp only at hSw)
                                  go_simp
                                simp only [List.set_cons_zero, List.set_cons_succ]
                                refine Tr.take_at 8 135 (.agg #[.int .i64 kb.X, .int .i64 kb.Y, .int .i64 kb.W, .int .i64 kb.H, .bool kb.M, .int .i64 kb.G, .int .i64 kb.B, .bool kb.S, .slice kb.A kb.n kb.c]) rfl rfl (by kernel_rfl) (by kernel_rfl) (by kernel_rfl) (fun _ _ _ h => h) (Or.inl ⟨by rfl, ?_⟩) (by assumption) ?_
                                · intro W0 hSw
                                  (try dsimp only at hSw)
                                  go_simp
                                simp only [List.set_cons_zero, List.set_cons_succ]
                                refine Tr.take_at 9 136 (.bool sk) rfl rfl (by kernel_rfl) (by kernel_rfl) (by kernel_rfl) (fun _ _ _ h => h) (Or.inl ⟨by rfl, ?_⟩) (by assumption) ?_
                                · intro W0 hSw
                                  (try dsimp only at hSw)
                                  go_simp
                                simp only [List.set_cons_zero, List.set_cons_succ]
                                refine wpAnyH_ready (rs := [10]) (by kernel_rfl) (by simp) ?_
                                refine AllReadyH.cons rfl (fun K hK => ?_) AllReadyH.nil
                                go_simp
                                have K22 := Lib.hid (show Blk (wA.alloc (.cells #[.int .i64 0, .int .i64 0, .int .i64 0, .int .i64 0, .bool false, .int .i64 0, .int .i64 0, .bool false, .slice none 0 0] 46)) (wA.heap.size) 46 #[.int .i64 0, .int .i64 0, .int .i64 0, .int .i64 0, .bool false, .int .i64 0, .int .i64 0, .bool false, .slice none 0 0] from Blk.new wA 46 #[.int .i64 0, .int .i64 0, .int .i64 0, .int .i64 0, .bool false, .int .i64 0, .int .i64 0, .bool false, .slice none 0 0])
                                have HL22 := Lib.hid (show wr.heap.size ≤ wA.heap.size from HBW.out.size)
                                replace HBW := Lib.hid (bal HBW.out (.cells #[.int .i64 0, .int .i64 0, .int .i64 0, .int .i64 0, .bool false, .int .i64 0, .int .i64 0, .bool false, .slice none 0 0] 46))
                                refine hK.out _ _ ?_ (fun hHeld => ?_)
                                · (try dsimp only)
                                  exact ⟨(K10.out.belowS HBW.out).cellV (i := 0) rfl, (HBW.out.cell (p := ⟨bp, ofp + m, none⟩) HBOB.out).trans HCY.out⟩
                                clear hK K
                                refine wpAnyH_ready (rs := [11]) (by kernel_rfl) (by simp) ?_
                                refine AllReadyH.cons rfl (fun K hK => ?_) AllReadyH.nil
                                refine Tr.wanted_plain rfl ?_
                                refine store_mid0 rfl 46 _ _ rfl (wA.heap.size) 0 #[.int .i64 kb.X, .int .i64 kb.Y, .int .i64 kb.W, .int .i64 kb.H, .bool kb.M, .int .i64 kb.G, .int .i64 kb.B, .bool kb.S, .slice kb.A kb.n kb.c] (by rfl) (by rfl) (by have h := there_blk K22.out; exact h) Tryz.sizeBx (by simp [Value.oneCell']) ?_
                                have xK := blk_puts9 (.int .i64 kb.X) (.int .i64 kb.Y) (.int .i64 kb.W) (.int .i64 kb.H) (.bool kb.M) (.int .i64 kb.G) (.int .i64 kb.B) (.bool kb.S) (.slice kb.A kb.n kb.c) K22.out
                                have xB := bsets HBW.out HL22.out (#[.int .i64 kb.X, .int .i64 kb.Y, .int .i64 kb.W, .int .i64 kb.H, .bool kb.M, .int .i64 kb.G, .int .i64 kb.B, .bool kb.S, .slice kb.A kb.n kb.c] : Array Value).toList 0
                                obtain ⟨wS, hwS⟩ : ∃ wS, World.setCells (wA.alloc (.cells #[.int .i64 0, .int .i64 0, .int .i64 0, .int .i64 0, .bool false, .int .i64 0, .int .i64 0, .bool false, .slice none 0 0] 46)) (wA.heap.size) 0 (#[.int .i64 kb.X, .int .i64 kb.Y, .int .i64 kb.W, .int .i64 kb.H, .bool kb.M, .int .i64 kb.G, .int .i64 kb.B, .bool kb.S, .slice kb.A kb.n kb.c] : Array Value).toList = wS := ⟨_, rfl⟩
                                rw [hwS] at xK xB ⊢
                                replace HBW := Lib.hid xB
                                replace K22 := Lib.hid xK
                                clear xB xK hwS
                                refine hK.out _ _ ?_ (fun hHeld => ?_)
                                · (try dsimp only)
                                  exact ⟨(K10.out.belowS HBW.out).cellV (i := 0) rfl, (HBW.out.cell (p := ⟨bp, ofp + m, none⟩) HBOB.out).trans HCY.out⟩
                                clear hK K
                                refine Tr.take_at 12 28 (.bool sk) rfl rfl (by kernel_rfl) (by kernel_rfl) (by kernel_rfl) (fun _ _ _ h => h) (Or.inl ⟨by rfl, ?_⟩) (by assumption) ?_
                                · intro W0 hSw
                                  (try dsimp only at hSw)
                                  go_simp
                                simp only [List.set_cons_zero, List.set_cons_succ]
                                refine wpAnyH_done (by kernel_rfl) ?_ _
                                refine NoPanic.normal ?_
                                go_wp2_with fail
                                go_meet
                                exact ⟨_, rfl, rfl, K22.out, HBW.out⟩
                              ·
                                go_simp
                                have K22 := Lib.hid (show Blk (wr.drew.alloc (.cells #[.int .i64 0, .int .i64 0, .int .i64 0, .int .i64 0, .bool false, .int .i64 0, .int .i64 0, .bool false, .slice none 0 0] 46)) (wr.heap.size) 46 #[.int .i64 0, .int .i64 0, .int .i64 0, .int .i64 0, .bool false, .int .i64 0, .int .i64 0, .bool false, .slice none 0 0] from Blk.new wr.drew 46 #[.int .i64 0, .int .i64 0, .int .i64 0, .int .i64 0, .bool false, .int .i64 0, .int .i64 0, .bool false, .slice none 0 0])
                                have HL22 := Lib.hid (show wr.heap.size ≤ wr.heap.size from HBW.out.size)
                                replace HBW := Lib.hid (bal HBW.out (.cells #[.int .i64 0, .int .i64 0, .int .i64 0, .int .i64 0, .bool false, .int .i64 0, .int .i64 0, .bool false, .slice none 0 0] 46))
                                refine hK.out _ _ ?_ (fun hHeld => ?_)
                                · (try dsimp only)
                                  exact ⟨(K10.out.belowS HBW.out).cellV (i := 0) rfl, (HBW.out.cell (p := ⟨bp, ofp + m, none⟩) HBOB.out).trans HCY.out⟩
                                clear hK K
                                refine wpAnyH_ready (rs := [6]) (by kernel_rfl) (by simp) ?_
                                refine AllReadyH.cons rfl (fun K hK => ?_) AllReadyH.nil
                                go_simp
                                refine (box_any (.agg #[.map mp]) n bs y _ hyb (HAT.out.place.below HBW.out)).mono ?_
                                rintro e wA ⟨rfl, hbA⟩
                                rw [HKB.out, HSK.out]
                                unfold BX.v
                                replace HBW := Lib.hid (bstep HBW.out hbA)
                                replace K22 := Lib.hid (K22.out.belowS hbA)
                                clear hbA
                                go_simp
                                refine hK.out _ _ ?_ (fun hHeld => ?_)
                                · (try dsimp only)
                                  exact ⟨(K10.out.belowS HBW.out).cellV (i := 0) rfl, (HBW.out.cell (p := ⟨bp, ofp + m, none⟩) HBOB.out).trans HCY.out⟩
                                clear hK K
                                refine Tr.take_at 7 127 (.tuple #[.agg #[.int .i64 kb.X, .int .i64 kb.Y, .int .i64 kb.W, .int .i64 kb.H, .bool kb.M, .int .i64 kb.G, .int .i64 kb.B, .bool kb.S, .slice kb.A kb.n kb.c], .bool sk]) rfl rfl (by kernel_rfl) (by kernel_rfl) (by kernel_rfl) (fun _ _ _ h => h) (Or.inl ⟨by rfl, ?_⟩) (by assumption) ?_
                                · intro W0 hSw
                                  (try dsimp only at hSw)
                                  go_simp
                                simp only [List.set_cons_zero, List.set_cons_succ]
                                refine Tr.take_at 8 135 (.agg #[.int .i64 kb.X, .int .i64 kb.Y, .int .i64 kb.W, .int .i64 kb.H, .bool kb.M, .int .i64 kb.G, .int .i64 kb.B, .bool kb.S, .slice kb.A kb.n kb.c]) rfl rfl (by kernel_rfl) (by kernel_rfl) (by kernel_rfl) (fun _ _ _ h => h) (Or.inl ⟨by rfl, ?_⟩) (by assumption) ?_
                                · intro W0 hSw
                                  (try dsimp only at hSw)
                                  go_simp
                                simp only [List.set_cons_zero, List.set_cons_succ]
                                refine Tr.take_at 9 136 (.bool sk) rfl rfl (by kernel_rfl) (by kernel_rfl) (by kernel_rfl) (fun _ _ _ h => h) (Or.inl ⟨by rfl, ?_⟩) (by assumption) ?_
                                · intro W0 hSw
                                  (try dsimp only at hSw)
                                  go_simp
                                simp only [List.set_cons_zero, List.set_cons_succ]
                                refine wpAnyH_ready (rs := [11]) (by kernel_rfl) (by simp) ?_
                                refine AllReadyH.cons rfl (fun K hK => ?_) AllReadyH.nil
                                refine Tr.wanted_plain rfl ?_
                                refine store_mid0 rfl 46 _ _ rfl (wr.heap.size) 0 #[.int .i64 kb.X, .int .i64 kb.Y, .int .i64 kb.W, .int .i64 kb.H, .bool kb.M, .int .i64 kb.G, .int .i64 kb.B, .bool kb.S, .slice kb.A kb.n kb.c] (by rfl) (by rfl) (by have h := there_blk K22.out; exact h) Tryz.sizeBx (by simp [Value.oneCell']) ?_
                                have xK := blk_puts9 (.int .i64 kb.X) (.int .i64 kb.Y) (.int .i64 kb.W) (.int .i64 kb.H) (.bool kb.M) (.int .i64 kb.G) (.int .i64 kb.B) (.bool kb.S) (.slice kb.A kb.n kb.c) K22.out
                                have xB := bsets HBW.out HL22.out (#[.int .i64 kb.X, .int .i64 kb.Y, .int .i64 kb.W, .int .i64 kb.H, .bool kb.M, .int .i64 kb.G, .int .i64 kb.B, .bool kb.S, .slice kb.A kb.n kb.c] : Array Value).toList 0
                                obtain ⟨wS, hwS⟩ : ∃ wS, World.setCells (wA) (wr.heap.size) 0 (#[.int .i64 kb.X, .int .i64 kb.Y, .int .i64 kb.W, .int .i64 kb.H, .bool kb.M, .int .i64 kb.G, .int .i64 kb.B, .bool kb.S, .slice kb.A kb.n kb.c] : Array Value).toList = wS := ⟨_, rfl⟩
                                rw [hwS] at xK xB ⊢
                                replace HBW := Lib.hid xB
                                replace K22 := Lib.hid xK
                                clear xB xK hwS
                                refine hK.out _ _ ?_ (fun hHeld => ?_)
                                · (try dsimp only)
                                  exact ⟨(K10.out.belowS HBW.out).cellV (i := 0) rfl, (HBW.out.cell (p := ⟨bp, ofp + m, none⟩) HBOB.out).trans HCY.out⟩
                                clear hK K
                                refine Tr.take_at 12 28 (.bool sk) rfl rfl (by kernel_rfl) (by kernel_rfl) (by kernel_rfl) (fun _ _ _ h => h) (Or.inl ⟨by rfl, ?_⟩) (by assumption) ?_
                                · intro W0 hSw
                                  (try dsimp only at hSw)
                                  go_simp
                                simp only [List.set_cons_zero, List.set_cons_succ]
                                refine wpAnyH_done (by kernel_rfl) ?_ _
                                refine NoPanic.normal ?_
                                go_wp2_with fail
                                go_meet
                                exact ⟨_, rfl, rfl, K22.out, HBW.out⟩
                            case rest =>
                              obtain ⟨g27, rfl, rfl, k27, hb27⟩ := hcut
                              have f5 := k27.cellV (i := 5) (v := .int .i64 kb.G) rfl
                              have HB27 := Lib.hid (bstep HB10.out hb27)
                              clear k27 hb27 c2
                              have hres : stL bs id pl (m + 1) = (sk && (kb.G == 10)) := by rw [HSL.out, if_pos HZI.out, HSTA.out]
                              have HRES := Lib.hid hres
                              clear hres
                              cases sk
                              · go_wp2_with fail
                                go_roundw
                                case rel => exact ⟨m + 1, by go_num, by omega, by rw [HRES.out]; rfl, HB27.out⟩
                                case measure => simp [intOf]; omega
                              · go_wp2_with fail
                                go_roundw
                                case rel => exact ⟨m + 1, by go_num, by omega, by rw [HRES.out]; rfl, HB27.out⟩
                                case measure => simp [intOf]; omega
                          ·
                            have hmn : m = np - 1 := by omega
                            have hst2 : stL bs id pl m = st := by rw [hmn]; exact HST.out
                            rw [hst2]
                            have m1 : ¬ (m : Int) + 1 < (np : Int) := by omega
                            clear hst2 hmn
                            have y0 := K20.out.cellV (i := 0) (v := .int .i64 ox) rfl
                            have y1 := K20.out.cellV (i := 1) (v := .int .i64 oy) rfl
                            have z0 := K22.out.cellV (i := 0) (v := .int .i64 px) rfl
                            have z1 := K22.out.cellV (i := 1) (v := .int .i64 py) rfl
                            have ly := K20.out.lt
                            have lz := K22.out.lt
                            obtain ⟨hb1, hb2⟩ := hobd
                            cases a
                            · cases st
                              all_goals
                                go_wp2_with fail
                                go_roundw
                                case rel => exact ⟨k + 1, by go_num, by omega, by repeat (first | exact HBW8.out | refine bal ?_ _ | refine bset ?_ HBW8.out.size _)⟩
                                case measure => simp [intOf]; omega
                            · have hmv := HORG.out.mv rfl
                              cases st
                              · have e1 : px = ox + dx := hmv.1
                                have e2 : py = oy + dy := hmv.2
                                clear hmv
                                subst e1 e2
                                go_wp2_with fail
                                go_roundw
                                case rel => exact ⟨k + 1, by go_num, by omega, by repeat (first | exact HBW8.out | refine bal ?_ _ | refine bset ?_ HBW8.out.size _)⟩
                                case measure => simp [intOf]; omega
                              · have e1 : px = ox := by have := hmv.1; simpa using this
                                have e2 : py = oy := by have := hmv.2; simpa using this
                                clear hmv
                                subst e1 e2
                                go_wp2_with fail
                                go_roundw
                                case rel => exact ⟨k + 1, by go_num, by omega, by repeat (first | exact HBW8.out | refine bal ?_ _ | refine bset ?_ HBW8.out.size _)⟩
                                case measure => simp [intOf]; omega
          ·
            obtain rfl : k = n' := by omega
            have k1 : ¬ (k : Int) < (k : Int) := by omega
            go_wp2_with fail
            go_ret
            exact ⟨rfl, HB.out⟩

end Go.Proofs.YtbfefkhejknmoaaGreatDoor
