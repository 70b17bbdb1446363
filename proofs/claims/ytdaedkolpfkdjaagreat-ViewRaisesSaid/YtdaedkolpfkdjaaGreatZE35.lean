/-
  The walk of a tree's Place, where the window goes to the top of its siblings.
  The walk of the laws' holds: has a region all places of a root that another one has?
-/
import Derived.Test.YtdaedkolpfkdjaaGreatZE34
import Derived.Test.YtdaedkolpfkdjaaGreatZE28
import Derived.Test.YtdaedkolpfkdjaaGreatZE19
section
namespace Go.Proofs.YtdaedkolpfkdjaaGreat
open Go.RowKit Go.Maps Go.Shelf

theorem opt_look_run {P : Program} {w : World} (t k e : TypeId) (q : IntKind) (hk : P.underlying k = some (.int q)) (ht : P.underlying t = some (.map k e)) (z : Value) (hz : (zeroValue e).run P w = .ok z w) (mb : Option Nat) (n : Nat) (f : Int → Option Value) (h : MapOpt P k q w mb n f) (i : Int) (hwf : (Lit.int q i).wf = true) :
    (Instr.lookup t (.map mb) (.int q i) false).run P w = .ok ((f i).getD z) w := by
  rcases h with ⟨rfl, _, hf⟩ | ⟨b, rfl, h⟩
  · have hrun := Maps.look_nil (w := w) false (int_keyed hk) ht hz (keyOf_int_mk hk hwf)
    rw [hf i]
    exact hrun
  · obtain ⟨D, hD, hs, hh, ha⟩ := h
    obtain ⟨v, ps, hrun, hv⟩ := hD.lookup (int_keyed hk) ht hz (zd := .held z) (zp := []) rfl (keyOf_int_mk hk hwf)
    rw [hrun]
    congr 1
    have hv' := rawR_inv hv
    cases hf : f i with
    | some u =>
      rw [ha i u hf] at hv'
      injection hv' with hv'
      exact hv'.symm
    | none =>
      rw [atKey_of_not_has (by rw [hh, hf]; rfl)] at hv'
      injection hv' with hv'
      exact hv'.symm
theorem blkT_row {w w' : World} {q base e n size : Nat} {v : Value} {xs : List Value} {cs : Array Value} {row : Option Nat} (h : Blk w q 37 cs) (ho : w.ownsRow base e size v n xs) (he : e ≠ 37) (hr : v.ownBlock = row) (hg : w.grownBy w' row) : Blk w' q 37 cs := by
  refine h.grown hg (fun e9 => ?_)
  rcases ho.2 with ⟨rfl, _⟩ | ⟨g, cap, cur, rfl, _, hg', _⟩
  · rw [← hr] at e9; cases e9
  · rw [← hr] at e9
    injection e9 with e9
    subst e9
    unfold Blk at h
    rw [hg'] at h
    injection h with h
    injection h with _ h _
    exact he h
theorem blkT_map {w w' : World} {q b n : Nat} {cs : Array Value} {K : TypeId} {kd : IntKind} {f : Int → Option Value} (h : Blk w q 37 cs) (hm : MapIs Tryz.prog K kd w b n f) (hg : w.grownBy w' (some b)) : Blk w' q 37 cs := by
  refine h.grown hg (fun e => ?_)
  injection e with e
  subst e
  obtain ⟨es, cl, hb9⟩ := hm.obj
  unfold Blk at h
  rw [hb9] at h
  cases h
set_option maxRecDepth 100000 in
set_option maxHeartbeats 4000000 in
theorem tplace_any (v : Value) (ns : Nodes) (mk mu : Option Nat) (nk : Nat) (fk : Int → Option Value) (id p : Int) (n : Nat) (w : World) (hid : 0 ≤ id ∧ id ≤ 4294967295) (h : TreeIs w v ns mk mu nk fk) (hT : TreeOk ns) (hup : upOf ns id = some p) (hn : (kidsOf ns p).length = n + 1) :
    Calls Tryz.prog 29 #[v, .int .u32 id, .int .i64 (n : Int)] w fun e w' => (∃ (kb ub nk' : Nat) (fk' : Int → Option Value), e = .returned (.tuple #[.agg #[.map (some kb), .map (some ub)], .int .i64 0]) ∧ TreeOwn w' w.heap.size (topmost ns id p) kb ub nk' fk') ∧ Below w.heap.size w w' := by
  have hv := h.shape
  subst hv
  have hne1 : id ≠ 1 := fun e => by rw [e, upOf_root hT] at hup; cases hup
  have hhas : hasN ns id = true := hasN_iff.2 (.inr ⟨p, hup⟩)
  have hpb := (h.ok _ (upOf_some hup)).2
  dsimp only at hpb
  have hkl := kids_len h.few p
  rw [hn] at hkl
  obtain ⟨Ak, cK, hKe, hKc, _⟩ := h.each p
  rw [hn] at hKe hKc
  have HKE := Lib.hid hKe
  have HT := Lib.hid h
  have HOK := Lib.hid hT
  have HUP := Lib.hid hup
  have HNE := Lib.hid hne1
  have HHAS := Lib.hid hhas
  have HN := Lib.hid hn
  have HWI := Lib.hid (u32_wf hid)
  have HWP := Lib.hid (u32_wf hpb)
  have HUQ := Lib.hid (show (Option.map (Value.int .u32) (upOf ns id)).getD (.int .u32 0) = .int .u32 p by rw [hup]; rfl)
  have HBE := Lib.hid (bal (bal (bre w) (.cells #[.map mk, .map mu] 37)) (.cells #[.map none, .map none] 37))
  have H0 := Lib.hid ((Blk.new w 37 #[.map mk, .map mu]).alloc (.cells #[.map none, .map none] 37))
  have H1 := Lib.hid (blk_new2 w (.cells #[.map mk, .map mu] 37) 37 #[.map none, .map none])
  have hfew := h.few
  have z1 : decide ((n : Int) < 0) = false := decide_eq_false (by omega)
  have z2 : ¬ (((n + 1 : Nat) : Int) ≤ (n : Int)) := by omega
  have z3 : ¬ ((n : Int) + 1 ≤ (n : Int)) := by omega
  clear h hT hup hne1 hhas hn hKe
  go_enter Tryz.func29, Tryz.ntmps29
  go_wp2_with fail
  with_reducible refine (other_ok _ ns mk mu nk fk id _ hid (HT.out.below HBE.out) HNE.out HHAS.out).mono ?_
  rintro e w1 ⟨rfl, hb1⟩
  replace H0 := Lib.hid (H0.out.belowS hb1)
  replace H1 := Lib.hid (H1.out.belowS hb1)
  replace HBE := Lib.hid (bstep HBE.out hb1)
  have HT1 := Lib.hid (HT.out.below HBE.out)
  have HUB := Lib.hid HT1.out.up
  have HKB := Lib.hid HT1.out.kids
  clear hb1
  have p0 := H0.out.cellV (i := 0) (v := .map mk) rfl
  have p1 := H0.out.cellV (i := 1) (v := .map mu) rfl
  have hl0 := H0.out.lt
  have hl1 := H1.out.lt
  go_upto_region 5 with (at_lookup; refine opt_look rfl _ _ 35 rfl 48 48 .u32 Tryz.underlying48 Tryz.underlying35 (.int .u32 0) (Tryz.zeroID _) mu ns.length (fun i => (upOf ns i).map (Value.int .u32)) rfl HUB.out id rfl HWI.out ?_; rw [HUQ.out])
  have hlk := opt_look_run (w := w1) 34 48 43 .u32 Tryz.underlying48 Tryz.underlying34 (.slice none 0 0) (Tryz.zeroIDs _) mk nk fk HKB.out p HWP.out
  rw [HKE.out] at hlk
  go_wp2_with (simp only [hlk])
  with_reducible refine (twin_any _ ns mk mu nk fk _ HT1.out).mono ?_
  rintro e w3 ⟨kb, ub, nk', fo, rfl, ht3, hb3⟩
  have hw3 := hb3.size
  have H12 := H1
  have HB1 := HBE
  have HB13 := Lib.hid hb3
  have HT3 := Lib.hid (ht3.alloc (.cells #[.map (some kb), .map (some ub)] 37))
  have hroom := ht3.room
  clear p0 p1 hb3 ht3 HUB HKB H0 hlk
  go_upto_region 8 with fail
  have xk := Blk.new w3 37 #[.map (some kb), .map (some ub)]
  have xb3 := HB13.out.trans ((bal (bre w3) (.cells #[.map (some kb), .map (some ub)] 37)).mono hw3)
  have xs3 : (w3.alloc (.cells #[.map (some kb), .map (some ub)] 37)).heap.size = w3.heap.size + 1 := World.size_alloc _ _
  have HT4 := HT3.out
  obtain ⟨g10, hg10⟩ : ∃ g, w3.heap.size = g := ⟨_, rfl⟩
  obtain ⟨X3, hX3⟩ : ∃ W, w3.alloc (.cells #[.map (some kb), .map (some ub)] 37) = W := ⟨_, rfl⟩
  rw [hX3] at xk xb3 xs3 HT4 ⊢
  rw [hg10] at xk xs3 hw3 ⊢
  have HB33 := Lib.hid xb3
  replace HT3 := Lib.hid HT4
  have K10 := Lib.hid xk
  have s0 := xk.cellV (i := 0) (v := .map (some kb)) rfl
  have s1 := xk.cellV (i := 1) (v := .map (some ub)) rfl
  clear xk xb3 hX3 HT4 hg10
  go_wp2_with fail
  refine (take_own w1.heap.size ns kb ub nk' fo id p X3 HT3.out HOK.out HUP.out (by omega)).mono ?_
  rintro e w4 ⟨rfl, fk', g, c4, hcut, ⟨hfp, hlc, _, hgk, hbg⟩, hap, hb4, hbl⟩
  rw [HN.out, Nat.add_sub_cancel] at hfp hlc
  have HFP := Lib.hid hfp
  have HLC := Lib.hid hlc
  have HAP := Lib.hid hap
  have HCU := Lib.hid hcut
  have HOW := Lib.hid (show w4.ownsRow w1.heap.size 48 1 (.slice (some ⟨g, 0, none⟩) n c4) n (U32 (kidsC ns id p)) by have h9 := hcut.own p _ hfp; rw [hlc] at h9; exact h9)
  have hncap : n ≤ c4 := by
    obtain ⟨_, _, e9, hc9⟩ := own_form HOW.out
    injection e9 with _ _ e9
    omega
  replace K10 := Lib.hid (hbl _ _ K10.out)
  have HB4 := Lib.hid (HB33.out.trans hb4)
  have hs4 := HB4.out.size
  replace H1 := Lib.hid (H12.out.below HB4.out hl1)
  clear hfp hlc hap hcut hb4 hbl s0 s1 HT3 HB33 HB13
  go_upto_region 9 with fail
  have HBW := Lib.hid (show Below w4.heap.size w4 w4.drew from (bre w4).drew)
  replace K10 := Lib.hid (K10.out.belowS (bre w4).drew)
  replace H1 := Lib.hid (H1.out.belowS (bre w4).drew)
  replace HCU := Lib.hid (HCU.out.below (bre w4).drew)
  replace HOW := Lib.hid (ownsRow_below HOW.out (bre w4).drew)
  refine wp_region_noPanic ?_
  refine wp_region_held_drew (S := (fun w' => w'.cell? ⟨g10, 0, none⟩ = some (.map (some kb)))) (by kernel_rfl) ?_ (fun hHeld => ?_)
  · (try dsimp only)
    exact K10.out.cellV (i := 0) rfl
  refine Tr.take_at 0 39 (.pointer (some ⟨g10, 0, none⟩)) rfl rfl (by kernel_rfl) (by kernel_rfl) (by kernel_rfl) (fun _ _ _ h => h) (Or.inl ⟨by rfl, ?_⟩) (by assumption) ?_
  · intro W0 hSw
    (try dsimp only at hSw)
    go_simp
  simp only [List.set_cons_zero, List.set_cons_succ]
  refine Tr.take_at 1 40 (.map (some kb)) rfl rfl (by kernel_rfl) (by kernel_rfl) (by kernel_rfl) (fun _ _ _ h => h) (Or.inl ⟨by rfl, ?_⟩) (by assumption) ?_
  · intro W0 hSw
    (try dsimp only at hSw)
    go_simp
  simp only [List.set_cons_zero, List.set_cons_succ]
  refine Tr.take_at 2 41 (.int .u32 p) rfl rfl (by kernel_rfl) (by kernel_rfl) (by kernel_rfl) (fun _ _ _ h => h) (Or.inl ⟨by rfl, ?_⟩) (by assumption) ?_
  · intro W0 hSw
    (try dsimp only at hSw)
    go_simp
  simp only [List.set_cons_zero, List.set_cons_succ]
  refine Tr.take_at 3 42 (.pointer (some ⟨g10, 0, none⟩)) rfl rfl (by kernel_rfl) (by kernel_rfl) (by kernel_rfl) (fun _ _ _ h => h) (Or.inl ⟨by rfl, ?_⟩) (by assumption) ?_
  · intro W0 hSw
    (try dsimp only at hSw)
    go_simp
  simp only [List.set_cons_zero, List.set_cons_succ]
  refine Tr.take_at 4 43 (.map (some kb)) rfl rfl (by kernel_rfl) (by kernel_rfl) (by kernel_rfl) (fun _ _ _ h => h) (Or.inl ⟨by rfl, ?_⟩) (by assumption) ?_
  · intro W0 hSw
    (try dsimp only at hSw)
    go_simp
  simp only [List.set_cons_zero, List.set_cons_succ]
  refine Tr.take_at 5 44 (.int .u32 p) rfl rfl (by kernel_rfl) (by kernel_rfl) (by kernel_rfl) (fun _ _ _ h => h) (Or.inl ⟨by rfl, ?_⟩) (by assumption) ?_
  · intro W0 hSw
    (try dsimp only at hSw)
    go_simp
  simp only [List.set_cons_zero, List.set_cons_succ]
  refine Tr.take_at 7 46 (.int .i64 n) rfl rfl (by kernel_rfl) (by kernel_rfl) (by kernel_rfl) (fun _ _ _ h => h) (Or.inl ⟨by rfl, ?_⟩) (by assumption) ?_
  · intro W0 hSw
    (try dsimp only at hSw)
    go_simp
  simp only [List.set_cons_zero, List.set_cons_succ]
  refine Tr.take_at 8 47 (.int .u32 id) rfl rfl (by kernel_rfl) (by kernel_rfl) (by kernel_rfl) (fun _ _ _ h => h) (Or.inl ⟨by rfl, ?_⟩) (by assumption) ?_
  · intro W0 hSw
    (try dsimp only at hSw)
    go_simp
  simp only [List.set_cons_zero, List.set_cons_succ]
  refine wpAnyH_ready (rs := [6, 9]) (by kernel_rfl) (by simp) ?_
  refine AllReadyH.cons rfl (fun K hK => ?_) (AllReadyH.cons rfl (fun K hK => ?_) AllReadyH.nil)
  ·
   refine Tr.wanted_plain rfl ?_
   refine map_look_op _ _ 34 rfl 48 43 .u32 Tryz.underlying48 Tryz.underlying34 (.slice none 0 0) (Tryz.zeroIDs _) kb nk' fk' rfl (by have h9 := HCU.out.kids; rw [goneF_nil] at h9; exact h9) p rfl HWP.out ?_
   rw [HFP.out]
   show K _ _
   refine hK.out _ _ ?_ (fun hHeld => ?_)
   · (try dsimp only)
     exact K10.out.cellV (i := 0) rfl
   clear hK K
   refine wpAnyH_ready (rs := [9]) (by kernel_rfl) (by simp) ?_
   refine AllReadyH.cons rfl (fun K hK => ?_) AllReadyH.nil
   go_simp
   have hbA := bal (bre w4.drew) (.cells #[.int .u32 id] 48)
   have xk := Blk.new w4.drew 48 #[.int .u32 id]
   have xs : (w4.alloc (.cells #[.int .u32 id] 48)).drew.heap.size = w4.heap.size + 1 := by show (w4.alloc _).heap.size = _; rw [World.size_alloc]
   obtain ⟨wb, hwb⟩ : ∃ W, (w4.alloc (.cells #[.int .u32 id] 48)).drew = W := ⟨_, rfl⟩
   rw [hwb] at xs ⊢
   have HKX := Lib.hid (show Blk wb w4.heap.size 48 #[.int .u32 id] by rw [← hwb]; exact xk)
   have HSX := Lib.hid xs
   replace hbA : Below w4.drew.heap.size w4.drew wb := by rw [← hwb]; exact hbA
   clear hwb xk xs
   replace HBW := Lib.hid (bstep HBW.out hbA)
   replace K10 := Lib.hid (K10.out.belowS hbA)
   replace H1 := Lib.hid (H1.out.belowS hbA)
   replace HCU := Lib.hid (HCU.out.below hbA)
   replace HOW := Lib.hid (ownsRow_below HOW.out hbA)
   clear hbA
   refine hK.out _ _ ?_ (fun hHeld => ?_)
   · (try dsimp only)
     exact K10.out.cellV (i := 0) rfl
   clear hK K
   refine wpAnyH_ready (rs := [10]) (by kernel_rfl) (by simp) ?_
   refine AllReadyH.cons rfl (fun K hK => ?_) AllReadyH.nil
   go_simp
   have HCUX := HCU
   refine (insert_end w1.heap.size g n c4 (kidsC ns id p) id _ _ HOW.out (by omega) (HKX.out.cellV (i := 0) rfl) (by have := HSX.out; omega) hncap).mono ?_
   rintro e w5 ⟨v5, rfl, ho5, hg5⟩
   have HO5 := Lib.hid ho5
   have HG5 := Lib.hid hg5
   replace K10 := Lib.hid (blkT_row K10.out HOW.out (by decide) rfl hg5)
   replace H1 := Lib.hid (blkT_row H1.out HOW.out (by decide) rfl hg5)
   have HM5 := Lib.hid (show MapIs Tryz.prog 48 .u32 w5 kb nk' fk' by have h9 := HCU.out.kids; rw [goneF_nil] at h9; exact h9.kept hg5 (fun e => hgk (Option.some.inj e).symm))
   clear ho5 hg5
   go_simp
   refine hK.out _ _ ?_ (fun hHeld => ?_)
   · (try dsimp only)
     exact K10.out.cellV (i := 0) rfl
   clear hK K
   refine wpAnyH_ready (rs := [11]) (by kernel_rfl) (by simp) ?_
   refine AllReadyH.cons rfl (fun K hK => ?_) AllReadyH.nil
   refine Tr.wanted_plain rfl ?_
   refine map_put_op _ _ _ 34 rfl 48 43 .u32 Tryz.underlying48 Tryz.underlying34 kb nk' fk' rfl HM5.out (by simp only [maxLen]; omega) p v5 rfl rfl HWP.out ?_
   intro w6 hm6 hg6
   have HM6 := Lib.hid (show MapIs Tryz.prog 48 .u32 w6 kb nk' (fun j => if j = p then some v5 else fk' j) by rw [show (if (fk' p).isSome = true then nk' else nk' + 1) = nk' by rw [HFP.out]; rfl] at hm6; exact hm6)
   have HG6 := Lib.hid hg6
   replace K10 := Lib.hid (blkT_map K10.out HM5.out hg6)
   replace H1 := Lib.hid (blkT_map H1.out HM5.out hg6)
   clear hm6 hg6
   refine hK.out _ _ ?_ (fun hHeld => ?_)
   · (try dsimp only)
     exact K10.out.cellV (i := 0) rfl
   clear hK K
   refine wpAnyH_done (by kernel_rfl) ?_ _
   refine NoPanic.normal ?_
   have HT6 := Lib.hid (HCUX.out.raise HOK.out HUP.out HFP.out rfl HAP.out (by have := hroom; omega) (by rw [HLC.out, U32_append]; have h9 := HO5.out; rw [U32_append] at h9; exact h9) HG5.out HM6.out HG6.out)
   have c0 := K10.out.cellV (i := 0) (v := .map (some kb)) rfl
   have c1 := K10.out.cellV (i := 1) (v := .map (some ub)) rfl
   have r0 := H1.out.cellV (i := 0) (v := .map none) rfl
   have r1 := H1.out.cellV (i := 1) (v := .map none) rfl
   have rf0 := H1.out.frozen 0
   have rf1 := H1.out.frozen 1
   have rl := H1.out.lt
   have HB6 := Lib.hid (((HB4.out.trans (HBW.out.mono hs4)).grown HG5.out (by have := HBW.out.size; omega) (fun q e => by cases e; exact hbg)).grown HG6.out (by have := HBW.out.size; have := HG5.out.size; omega) (fun q e => by cases e; exact HT6.out.lok))
   go_wp2_with fail
   have hb9 := (H1.out.set_ 0 (.map (some kb))).set_ 1 (.map (some ub))
   have hr0 := hb9.cellV (i := 0) (v := .map (some kb)) rfl
   have hr1 := hb9.cellV (i := 1) (v := .map (some ub)) rfl
   have hbx := bset (bset (HB1.out.trans (HB6.out.mono HB1.out.size)) (p := ⟨w.heap.size + 1, 0, none⟩) (by show w.heap.size ≤ w.heap.size + 1; omega) (.map (some kb))) (p := ⟨w.heap.size + 1, 1, none⟩) (by show w.heap.size ≤ w.heap.size + 1; omega) (.map (some ub))
   have hto := ((HT6.out.far (p := ⟨w.heap.size + 1, 0, none⟩) hl1 (.map (some kb))).far (p := ⟨w.heap.size + 1, 1, none⟩) hl1 (.map (some ub))).lower HB1.out.size
   exact bodyPost_ret (v := .tuple #[.agg #[.map (some kb), .map (some ub)], .int .i64 0]) (by simp [results, Tryz.results29, go_sem, hr0, hr1]) rfl ⟨⟨_, _, _, _, rfl, hto⟩, hbx⟩
  ·
   go_simp
   have hbA := bal (bre w4.drew) (.cells #[.int .u32 id] 48)
   have xk := Blk.new w4.drew 48 #[.int .u32 id]
   have xs : (w4.alloc (.cells #[.int .u32 id] 48)).drew.heap.size = w4.heap.size + 1 := by show (w4.alloc _).heap.size = _; rw [World.size_alloc]
   obtain ⟨wb, hwb⟩ : ∃ W, (w4.alloc (.cells #[.int .u32 id] 48)).drew = W := ⟨_, rfl⟩
   rw [hwb] at xs ⊢
   have HKX := Lib.hid (show Blk wb w4.heap.size 48 #[.int .u32 id] by rw [← hwb]; exact xk)
   have HSX := Lib.hid xs
   replace hbA : Below w4.drew.heap.size w4.drew wb := by rw [← hwb]; exact hbA
   clear hwb xk xs
   replace HBW := Lib.hid (bstep HBW.out hbA)
   replace K10 := Lib.hid (K10.out.belowS hbA)
   replace H1 := Lib.hid (H1.out.belowS hbA)
   replace HCU := Lib.hid (HCU.out.below hbA)
   replace HOW := Lib.hid (ownsRow_below HOW.out hbA)
   clear hbA
   refine hK.out _ _ ?_ (fun hHeld => ?_)
   · (try dsimp only)
     exact K10.out.cellV (i := 0) rfl
   clear hK K
   refine wpAnyH_ready (rs := [6]) (by kernel_rfl) (by simp) ?_
   refine AllReadyH.cons rfl (fun K hK => ?_) AllReadyH.nil
   refine Tr.wanted_plain rfl ?_
   refine map_look_op _ _ 34 rfl 48 43 .u32 Tryz.underlying48 Tryz.underlying34 (.slice none 0 0) (Tryz.zeroIDs _) kb nk' fk' rfl (by have h9 := HCU.out.kids; rw [goneF_nil] at h9; exact h9) p rfl HWP.out ?_
   rw [HFP.out]
   show K _ _
   refine hK.out _ _ ?_ (fun hHeld => ?_)
   · (try dsimp only)
     exact K10.out.cellV (i := 0) rfl
   clear hK K
   refine wpAnyH_ready (rs := [10]) (by kernel_rfl) (by simp) ?_
   refine AllReadyH.cons rfl (fun K hK => ?_) AllReadyH.nil
   go_simp
   have HCUX := HCU
   refine (insert_end w1.heap.size g n c4 (kidsC ns id p) id _ _ HOW.out (by omega) (HKX.out.cellV (i := 0) rfl) (by have := HSX.out; omega) hncap).mono ?_
   rintro e w5 ⟨v5, rfl, ho5, hg5⟩
   have HO5 := Lib.hid ho5
   have HG5 := Lib.hid hg5
   replace K10 := Lib.hid (blkT_row K10.out HOW.out (by decide) rfl hg5)
   replace H1 := Lib.hid (blkT_row H1.out HOW.out (by decide) rfl hg5)
   have HM5 := Lib.hid (show MapIs Tryz.prog 48 .u32 w5 kb nk' fk' by have h9 := HCU.out.kids; rw [goneF_nil] at h9; exact h9.kept hg5 (fun e => hgk (Option.some.inj e).symm))
   clear ho5 hg5
   go_simp
   refine hK.out _ _ ?_ (fun hHeld => ?_)
   · (try dsimp only)
     exact K10.out.cellV (i := 0) rfl
   clear hK K
   refine wpAnyH_ready (rs := [11]) (by kernel_rfl) (by simp) ?_
   refine AllReadyH.cons rfl (fun K hK => ?_) AllReadyH.nil
   refine Tr.wanted_plain rfl ?_
   refine map_put_op _ _ _ 34 rfl 48 43 .u32 Tryz.underlying48 Tryz.underlying34 kb nk' fk' rfl HM5.out (by simp only [maxLen]; omega) p v5 rfl rfl HWP.out ?_
   intro w6 hm6 hg6
   have HM6 := Lib.hid (show MapIs Tryz.prog 48 .u32 w6 kb nk' (fun j => if j = p then some v5 else fk' j) by rw [show (if (fk' p).isSome = true then nk' else nk' + 1) = nk' by rw [HFP.out]; rfl] at hm6; exact hm6)
   have HG6 := Lib.hid hg6
   replace K10 := Lib.hid (blkT_map K10.out HM5.out hg6)
   replace H1 := Lib.hid (blkT_map H1.out HM5.out hg6)
   clear hm6 hg6
   refine hK.out _ _ ?_ (fun hHeld => ?_)
   · (try dsimp only)
     exact K10.out.cellV (i := 0) rfl
   clear hK K
   refine wpAnyH_done (by kernel_rfl) ?_ _
   refine NoPanic.normal ?_
   have HT6 := Lib.hid (HCUX.out.raise HOK.out HUP.out HFP.out rfl HAP.out (by have := hroom; omega) (by rw [HLC.out, U32_append]; have h9 := HO5.out; rw [U32_append] at h9; exact h9) HG5.out HM6.out HG6.out)
   have c0 := K10.out.cellV (i := 0) (v := .map (some kb)) rfl
   have c1 := K10.out.cellV (i := 1) (v := .map (some ub)) rfl
   have r0 := H1.out.cellV (i := 0) (v := .map none) rfl
   have r1 := H1.out.cellV (i := 1) (v := .map none) rfl
   have rf0 := H1.out.frozen 0
   have rf1 := H1.out.frozen 1
   have rl := H1.out.lt
   have HB6 := Lib.hid (((HB4.out.trans (HBW.out.mono hs4)).grown HG5.out (by have := HBW.out.size; omega) (fun q e => by cases e; exact hbg)).grown HG6.out (by have := HBW.out.size; have := HG5.out.size; omega) (fun q e => by cases e; exact HT6.out.lok))
   go_wp2_with fail
   have hb9 := (H1.out.set_ 0 (.map (some kb))).set_ 1 (.map (some ub))
   have hr0 := hb9.cellV (i := 0) (v := .map (some kb)) rfl
   have hr1 := hb9.cellV (i := 1) (v := .map (some ub)) rfl
   have hbx := bset (bset (HB1.out.trans (HB6.out.mono HB1.out.size)) (p := ⟨w.heap.size + 1, 0, none⟩) (by show w.heap.size ≤ w.heap.size + 1; omega) (.map (some kb))) (p := ⟨w.heap.size + 1, 1, none⟩) (by show w.heap.size ≤ w.heap.size + 1; omega) (.map (some ub))
   have hto := ((HT6.out.far (p := ⟨w.heap.size + 1, 0, none⟩) hl1 (.map (some kb))).far (p := ⟨w.heap.size + 1, 1, none⟩) hl1 (.map (some ub))).lower HB1.out.size
   exact bodyPost_ret (v := .tuple #[.agg #[.map (some kb), .map (some ub)], .int .i64 0]) (by simp [results, Tryz.results29, go_sem, hr0, hr1]) rfl ⟨⟨_, _, _, _, rfl, hto⟩, hbx⟩
end Go.Proofs.YtdaedkolpfkdjaaGreat
end

section
namespace Go.Proofs.YtdaedkolpfkdjaaGreat
open Go.RowKit Go.Maps Go.Shelf

set_option maxRecDepth 100000 in
set_option maxHeartbeats 4000000 in
theorem holds_any (A1 A2 : Option Addr) (c1 c2 : Nat) (o1 o2 : List RC) (W H : Nat) (w : World) (hW : W ≤ 128) (hH : H ≤ 128) (h1 : RegAt w (.agg #[.slice A1 o1.length c1]) o1) (h2 : RegAt w (.agg #[.slice A2 o2.length c2]) o2) (hin : ∀ x y, inB o2 x y = true → inB o1 x y = true) :
    Calls Tryz.prog 32 #[.agg #[.slice A1 o1.length c1], .agg #[.slice A2 o2.length c2], .int .i64 W, .int .i64 H] w fun e w' => e = .returned (.bool true) ∧ Below w.heap.size w w' := by
  obtain ⟨A1', c1', e1, r1, k1, l1, t1⟩ := h1
  injection e1 with e1
  have e1 := congrArg (fun a : Array Value => a[0]?) e1
  simp only [List.getElem?_toArray, List.getElem?_cons_zero] at e1
  injection e1 with e1
  injection e1 with ea1 _ ec1
  subst ea1 ec1
  obtain ⟨A2', c2', e2, r2, k2, l2, t2⟩ := h2
  injection e2 with e2
  have e2 := congrArg (fun a : Array Value => a[0]?) e2
  simp only [List.getElem?_toArray, List.getElem?_cons_zero] at e2
  injection e2 with e2
  injection e2 with ea2 _ ec2
  subst ea2 ec2
  have HD1 := Lib.hid (canon_down k1)
  have HD2 := Lib.hid (canon_down k2)
  have HT1 := Lib.hid t1
  have HT2 := Lib.hid t2
  have HIN := Lib.hid hin
  have HB0 := Lib.hid (bal (bal (bre w) (.cells #[.slice A1 o1.length c1] 57)) (.cells #[.slice A2 o2.length c2] 57))
  have HR1 := Lib.hid (r1.below HB0.out)
  have HR2 := Lib.hid (r2.below HB0.out)
  have K4 := Lib.hid ((Blk.new w 57 #[.slice A1 o1.length c1]).alloc (.cells #[.slice A2 o2.length c2] 57))
  have K5 := Lib.hid (blk_new2 w (.cells #[.slice A1 o1.length c1] 57) 57 #[.slice A2 o2.length c2])
  clear r1 k1 t1 r2 k2 t2 hin
  go_enter Tryz.func32, Tryz.ntmps32
  go_upto_region 1 with fail
  have xb := HB0.out
  have x1 := HR1.out
  have x2 := HR2.out
  have x4 := K4.out
  have x5 := K5.out
  obtain ⟨X, hX⟩ : ∃ X, (w.alloc (.cells #[.slice A1 o1.length c1] 57)).alloc (.cells #[.slice A2 o2.length c2] 57) = X := ⟨_, rfl⟩
  rw [hX] at xb x1 x2 x4 x5 ⊢
  replace HB0 := Lib.hid xb
  replace HR1 := Lib.hid x1
  replace HR2 := Lib.hid x2
  replace K4 := Lib.hid x4
  replace K5 := Lib.hid x5
  clear xb x1 x2 x4 x5 hX
  go_wp2_with fail
  go_loopw [9] (fun i wr => ∃ y : Nat, i = .int .i64 y ∧ y ≤ H ∧ Below X.heap.size X wr) (fun i _ => H - (intOf i).toNat)
  case atStart => exact ⟨0, rfl, by omega, bre X⟩
  case round =>
    obtain ⟨y, rfl, hy, hbr⟩ := hrel
    have HBR := Lib.hid hbr
    clear hbr
    by_cases hlt : y < H
    · have k0 : (y : Int) < (H : Int) := by omega
      obtain ⟨V, hV⟩ : ∃ V, V = wr := ⟨_, rfl⟩
      subst hV
      go_wp2_with fail
      go_loopw [10] (fun i wr => ∃ x : Nat, i = .int .i64 x ∧ x ≤ W ∧ Below V.heap.size V wr) (fun i _ => W - (intOf i).toNat)
      case atStart => exact ⟨0, rfl, by omega, bre V⟩
      case round =>
        obtain ⟨x, rfl, hx, hbx⟩ := hrel
        have HBX := Lib.hid (bstep HBR.out hbx)
        have HBI := Lib.hid hbx
        clear hbx
        by_cases hltx : x < W
        · have k1 : (x : Int) < (W : Int) := by omega
          have p5 := (K5.out.belowS HBX.out).cellV (i := 0) (v := .slice A2 o2.length c2) rfl
          go_wp2_with fail
          have hh := hasR_any A2 o2.length c2 o2 (x : Int) (y : Int) wr (by omega) (HR2.out.below HBX.out) HT2.out
          rw [hasL_inB HD2.out] at hh
          refine hh.mono ?_
          clear hh
          rintro e w5 ⟨rfl, hb5⟩
          have HB5 := Lib.hid (bstep HBX.out hb5)
          have HI5 := Lib.hid (bstep HBI.out hb5)
          have p4 := (K4.out.belowS HB5.out).cellV (i := 0) (v := .slice A1 o1.length c1) rfl
          clear hb5 p5
          cases hb : inB o2 (x : Int) (y : Int)
          · go_wp2_with fail
            go_roundw
            case rel => exact ⟨x + 1, by go_num, by omega, HI5.out⟩
            case measure => simp [intOf]; omega
          · go_wp2_with fail
            have hh := hasR_any A1 o1.length c1 o1 (x : Int) (y : Int) w5 (by omega) (HR1.out.below HB5.out) HT1.out
            rw [hasL_inB HD1.out, HIN.out _ _ hb] at hh
            refine hh.mono ?_
            clear hh
            rintro e w6 ⟨rfl, hb6⟩
            have HI6 := Lib.hid (bstep HI5.out hb6)
            clear hb6 p4
            go_wp2_with fail
            go_roundw
            case rel => exact ⟨x + 1, by go_num, by omega, HI6.out⟩
            case measure => simp [intOf]; omega
        · obtain rfl : x = W := by omega
          have k1 : ¬ (x : Int) < (x : Int) := by omega
          go_wp2_with fail
          go_roundw
          case rel => exact ⟨y + 1, by go_num, by omega, HBX.out⟩
          case measure => simp [intOf]; omega
    · obtain rfl : y = H := by omega
      have k0 : ¬ (y : Int) < (y : Int) := by omega
      go_wp2_with fail
      go_ret
      exact ⟨rfl, bstep HB0.out HBR.out⟩
end Go.Proofs.YtdaedkolpfkdjaaGreat
end
