/-
  The walk of glazierlaw31.awake: the document's example.
-/
import Derived.Test.YtbkkecijcijhdaaGreatZE29
import Derived.Test.YtbkkecijcijhdaaGreatZE02
section
namespace Go.Proofs.YtbkkecijcijhdaaGreat
open Go.RowKit Go.Maps Go.Shelf

theorem RdF.of_blk {α : Type} {f : α → List Value} {m : Nat} (hm : ∀ x, (f x).length = m) {w : World} {g : Nat} {t : TypeId} {l : List α} {n : Nat} (h : Blk w g t (l.flatMap f).toArray) (hl : l.length = n) : RdF f m w (some ⟨g, 0, none⟩) n l := by
  refine ⟨hl, fun hn => ⟨g, 0, rfl, h.lt, fun k x hk i u hu => ?_⟩⟩
  have hi : i < m := by have := (List.getElem?_eq_some_iff.1 hu).1; rwa [hm] at this
  have hg := flat_get f m hm l k x i hk hi
  rw [hu] at hg
  rw [Nat.zero_add]
  exact h.cellV (by simpa using hg)
def awL : List DW := [⟨-1, 1, 1, 4, 3, true, false, none, 0, 0, []⟩, ⟨-1, 3, 2, 4, 3, true, false, none, 0, 0, []⟩, ⟨0, 0, 0, 2, 1, true, false, none, 0, 0, []⟩]
theorem awL_up : UpOk awL := fun i d hd => by
  match i, hd with
  | 0, hd => obtain rfl : _ = d := by simpa [awL] using hd
             decide
  | 1, hd => obtain rfl : _ = d := by simpa [awL] using hd
             decide
  | 2, hd => obtain rfl : _ = d := by simpa [awL] using hd
             decide
  | i + 3, hd => simp [awL] at hd
theorem awL_ok : ∀ d ∈ awL, DWok d := fun d hd => by
  simp only [awL, List.mem_cons, List.not_mem_nil, or_false] at hd
  rcases hd with rfl | rfl | rfl <;> exact ⟨by decide, by decide, by decide, by decide, fun _ => rfl, by decide, by simp⟩
theorem awL_area (i : Int) (k : Nat) (h : cntP 8 6 (fun x y => decide (i = idW (atD awL (belowAt (nodesW awL) 1).length (-1) x y))) = k) : cntP 8 6 (fun x y => showB (esS 8 6 awL) x y i) = k := by
  rw [← h]
  refine cntP_congr (fun x y hx hy => ?_)
  rw [show_S awL_up]
  have : rectP ((8 : Nat) : Int) ((6 : Nat) : Int) x y = true := by
    unfold rectP
    rw [inB_rect]
    omega
  rw [this, Bool.true_and]
set_option maxRecDepth 100000 in
theorem aw_area1 : cntP 8 6 (fun x y => showB (esS 8 6 awL) x y (idW 1)) = 12 := awL_area _ _ (by decide +kernel)
set_option maxRecDepth 100000 in
theorem aw_area2 : cntP 8 6 (fun x y => showB (esS 8 6 awL) x y (idW 2)) = 2 := awL_area _ _ (by decide +kernel)
set_option maxRecDepth 100000 in
theorem aw_area0 : cntP 8 6 (fun x y => showB (esS 8 6 awL) x y (idW 0)) = 6 := awL_area _ _ (by decide +kernel)
set_option maxRecDepth 100000 in
theorem aw_areaR : cntP 8 6 (fun x y => showB (esS 8 6 awL) x y 1) = 28 := awL_area _ _ (by decide +kernel)

/-- a struct is built. -/
theorem wpList_bld {P : Program} {ops : Array Oper} {rest : List Oper} {o : Oper} {a : Act} {w : World} {Q : Exit → Act → World → Prop} (hg : o.guard = none) (cells : Array Value) (hb : bldOf P a.eval o = some cells) (h : wpList P ops Q rest (a.put o.dst (.agg cells)) w) : wpList P ops Q (o :: rest) a w := by
  refine wpList_plain hg fun K hK => ?_
  unfold Oper.wp
  rw [y_build hb]
  exact hK _ _ h
set_option maxRecDepth 100000 in
theorem Tryz.infoW : (Tryz.prog.info? 69).map (fun i => (i.zero, i.size, i.bytes)) = some (some (.agg #[.int .i64 0, .int .i64 0, .int .i64 0, .int .i64 0, .int .i64 0, .bool false, .bool false, .slice none 0 0]), 8, 72) := by kernel_rfl
theorem vis_area {w : World} {v : Value} {RW RH : Nat} {l : List DW} {og : Int → Int × Int} (h : SeenAt w v RW RH l og) (i : Int) (hi : 0 ≤ i ∧ i ≤ 4294967295) (k : Nat) (hk : cntP RW RH (fun x y => showB (esS RW RH l) x y i) = k) :
    Calls Tryz.prog 33 #[v, .int .u32 i] w fun e w' => ∃ A n c, e = .returned (.agg #[.slice A n c]) ∧ (∀ W, Below w'.heap.size w' W → Calls Tryz.prog 37 #[.agg #[.slice A n c]] W fun e2 w2 => e2 = .returned (.int .i64 k) ∧ Below W.heap.size W w2) ∧ Below w.heap.size w w' := by
  refine (h.visible i hi).mono ?_
  rintro e w' ⟨u, out, rfl, hr, _, ha, hl, hb⟩
  have hc := hr.cnt
  obtain ⟨A, c, rfl, hrd, _⟩ := hr
  refine ⟨A, out.length, c, rfl, fun W hW => ?_, hb⟩
  rw [← hk, ← ha]
  exact area_any A out.length c out W (by omega) (hrd.below hW) hc

set_option maxRecDepth 100000 in
set_option maxHeartbeats 8000000 in
theorem awake31_any (w : World) : Calls Tryz.prog 21 #[] w fun e w' => e = .returned (.bool true) ∧ Below w.heap.size w w' := by
  obtain ⟨i0, hi0, hz0, hz1, hz2⟩ := info_parts Tryz.infoW
  go_enter Tryz.func21, Tryz.ntmps21
  go_upto_region 1 with fail
  apply wp_region_lit
  refine wpList_bld rfl #[.int .i64 (-1), .int .i64 1, .int .i64 1, .int .i64 4, .int .i64 3, .bool true, .bool false, .slice none 0 0] (by as_aux_lemma => kernel_rfl) ?_
  refine wpList_bld rfl #[.int .i64 (-1), .int .i64 3, .int .i64 2, .int .i64 4, .int .i64 3, .bool true, .bool false, .slice none 0 0] (by as_aux_lemma => kernel_rfl) ?_
  refine wpList_bld rfl #[.int .i64 0, .int .i64 0, .int .i64 0, .int .i64 2, .int .i64 1, .bool true, .bool false, .slice none 0 0] (by as_aux_lemma => kernel_rfl) ?_
  refine wpList_recs rfl 29 69 3 _ rfl 8 _ i0 Tryz.underlying29 hi0 hz0 hz1 rfl (by decide) (by decide) (by decide) [.agg #[.int .i64 (-1), .int .i64 1, .int .i64 1, .int .i64 4, .int .i64 3, .bool true, .bool false, .slice none 0 0], .agg #[.int .i64 (-1), .int .i64 3, .int .i64 2, .int .i64 4, .int .i64 3, .bool true, .bool false, .slice none 0 0], .agg #[.int .i64 0, .int .i64 0, .int .i64 0, .int .i64 2, .int .i64 1, .bool true, .bool false, .slice none 0 0]] (by simp [Value.cells]) rfl (by as_aux_lemma => kernel_rfl) #[.int .i64 (-1), .int .i64 1, .int .i64 1, .int .i64 4, .int .i64 3, .bool true, .bool false, .slice none 0 0, .int .i64 (-1), .int .i64 3, .int .i64 2, .int .i64 4, .int .i64 3, .bool true, .bool false, .slice none 0 0, .int .i64 0, .int .i64 0, .int .i64 0, .int .i64 2, .int .i64 1, .bool true, .bool false, .slice none 0 0] rfl ?_
  have xK := Blk.new w 69 #[.int .i64 (-1), .int .i64 1, .int .i64 1, .int .i64 4, .int .i64 3, .bool true, .bool false, .slice none 0 0, .int .i64 (-1), .int .i64 3, .int .i64 2, .int .i64 4, .int .i64 3, .bool true, .bool false, .slice none 0 0, .int .i64 0, .int .i64 0, .int .i64 0, .int .i64 2, .int .i64 1, .bool true, .bool false, .slice none 0 0]
  have xB := bal (bre w) (.cells #[.int .i64 (-1), .int .i64 1, .int .i64 1, .int .i64 4, .int .i64 3, .bool true, .bool false, .slice none 0 0, .int .i64 (-1), .int .i64 3, .int .i64 2, .int .i64 4, .int .i64 3, .bool true, .bool false, .slice none 0 0, .int .i64 0, .int .i64 0, .int .i64 0, .int .i64 2, .int .i64 1, .bool true, .bool false, .slice none 0 0] 69)
  obtain ⟨X0, hX0⟩ : ∃ X0, w.alloc (.cells #[.int .i64 (-1), .int .i64 1, .int .i64 1, .int .i64 4, .int .i64 3, .bool true, .bool false, .slice none 0 0, .int .i64 (-1), .int .i64 3, .int .i64 2, .int .i64 4, .int .i64 3, .bool true, .bool false, .slice none 0 0, .int .i64 0, .int .i64 0, .int .i64 0, .int .i64 2, .int .i64 1, .bool true, .bool false, .slice none 0 0] 69) = X0 := ⟨_, rfl⟩
  rw [hX0] at xK xB ⊢
  have HL := Lib.hid (show RdWs X0 (some ⟨w.heap.size, 0, none⟩) 3 awL from ⟨RdF.of_blk DW.cells_len xK rfl, fun d hd => by
    simp only [awL, List.mem_cons, List.not_mem_nil, or_false] at hd
    rcases hd with rfl | rfl | rfl <;> exact ⟨rfl, fun h => absurd h (by decide)⟩⟩)
  have HB := Lib.hid xB
  clear xK xB hX0
  go_upto_region 2 with fail
  go_wp2_with fail
  refine (built31_any (some ⟨w.heap.size, 0, none⟩) 3 3 awL 8 6 _ HL.out (by decide) awL_up awL_ok (by decide)).mono ?_
  rintro e w1 ⟨mk, mu, mp, nk, fk, bs, rfl, hm, hb⟩
  have HM := Lib.hid hm
  replace HB := Lib.hid (bstep HB.out hb)
  clear hm hb
  go_upto_region 3 with fail
  have xM := HM.out.below (bal (bal (bre w1) (.cells #[.map mk, .map mu] 34)) (.cells #[.map mp] 37))
  have xK2 := (Blk.new w1 34 #[.map mk, .map mu]).alloc (.cells #[.map mp] 37)
  have xK3 := blk_new2 w1 (.cells #[.map mk, .map mu] 34) 37 #[.map mp]
  have xB := bal (bal HB.out (.cells #[.map mk, .map mu] 34)) (.cells #[.map mp] 37)
  obtain ⟨X1, hX1⟩ : ∃ X1, (w1.alloc (.cells #[.map mk, .map mu] 34)).alloc (.cells #[.map mp] 37) = X1 := ⟨_, rfl⟩
  rw [hX1] at xM xK2 xK3 xB ⊢
  have d20 := xK2.cellV (i := 0) (v := .map mk) rfl
  have d21 := xK2.cellV (i := 1) (v := .map mu) rfl
  have d30 := xK3.cellV (i := 0) (v := .map mp) rfl
  replace HM := Lib.hid xM
  replace HB := Lib.hid xB
  clear xM xK2 xK3 xB hX1
  go_wp2_with fail
  refine (seen_of (RW := 8) (RH := 6) (l := awL) (bs := bs) (fk := fk) (nk := nk) X1 HM.out awL_up awL_ok (by decide) (by decide)).mono ?_
  rintro e w2 ⟨v, og, rfl, hs, hb⟩
  have HS := Lib.hid hs
  obtain ⟨A, n, c, mv, nm, f, hv⟩ := hs.is
  have hsh := hv.shape
  subst hsh
  replace HB := Lib.hid (bstep HB.out hb)
  clear hs hb hv d20 d21 d30
  go_upto_region 4 with fail
  have xS := HS.out.below (bal (bre w2) (.cells #[.slice A n c, .map mv] 43))
  have xK5 := Blk.new w2 43 #[.slice A n c, .map mv]
  have xB := bal HB.out (.cells #[.slice A n c, .map mv] 43)
  obtain ⟨X2, hX2⟩ : ∃ X2, w2.alloc (.cells #[.slice A n c, .map mv] 43) = X2 := ⟨_, rfl⟩
  rw [hX2] at xS xK5 xB ⊢
  replace HS := Lib.hid xS
  have K5 := Lib.hid xK5
  replace HB := Lib.hid xB
  clear xS xK5 xB hX2
  have HBW := Lib.hid (show Below X2.heap.size X2 X2.drew from (bre X2).drew)
  refine wp_region_noPanic ?_
  refine wp_region_held_drew (S := (fun w' => w'.cell? ⟨w2.heap.size, 0, none⟩ = some (.slice A n c) ∧ w'.cell? ⟨w2.heap.size, 1, none⟩ = some (.map mv))) (by kernel_rfl) ?_ (fun hHeld => ?_)
  · (try dsimp only)
    exact ⟨(K5.out.belowS HBW.out).cellV (i := 0) rfl, (K5.out.belowS HBW.out).cellV (i := 1) rfl⟩
  refine Tr.take_at 0 19 (.bool true) rfl rfl (by kernel_rfl) (by kernel_rfl) (by kernel_rfl) (fun _ _ _ h => h) (Or.inl ⟨by rfl, ?_⟩) (by assumption) ?_
  · intro W0 hSw
    (try dsimp only at hSw)
    go_simp
  simp only [List.set_cons_zero, List.set_cons_succ]
  refine Tr.take_at 1 20 (.bool true) rfl rfl (by kernel_rfl) (by kernel_rfl) (by kernel_rfl) (fun _ _ _ h => h) (Or.inl ⟨by rfl, ?_⟩) (by assumption) ?_
  · intro W0 hSw
    (try dsimp only at hSw)
    go_simp
  simp only [List.set_cons_zero, List.set_cons_succ]
  refine Tr.take_at 2 21 (.agg #[.slice A n c, .map mv]) rfl rfl (by kernel_rfl) (by kernel_rfl) (by kernel_rfl) (fun _ _ _ h => h) (Or.inl ⟨by rfl, ?_⟩) (by assumption) ?_
  · intro W0 hSw
    (try dsimp only at hSw)
    go_simp
  simp only [List.set_cons_zero, List.set_cons_succ]
  refine wpAnyH_ready (rs := [3]) (by kernel_rfl) (by simp) ?_
  refine AllReadyH.cons rfl (fun K hK => ?_) AllReadyH.nil
  go_simp
  refine (id_b (1 : Int) _ (by decide)).mono ?_
  rintro e wc3 ⟨rfl, hbA⟩
  replace HBW := Lib.hid (bstep HBW.out hbA)
  clear hbA
  go_simp
  refine hK.out _ _ ?_ (fun hHeld => ?_)
  · (try dsimp only)
    exact ⟨(K5.out.belowS HBW.out).cellV (i := 0) rfl, (K5.out.belowS HBW.out).cellV (i := 1) rfl⟩
  clear hK K
  refine wpAnyH_ready (rs := [4]) (by kernel_rfl) (by simp) ?_
  refine AllReadyH.cons rfl (fun K hK => ?_) AllReadyH.nil
  go_simp
  refine (vis_area (HS.out.below HBW.out) (idW 1) (by decide) 12 aw_area1).mono ?_
  rintro e wc4 ⟨A4, n4, c4, rfl, har4, hbA⟩
  have HAR4 := Lib.hid har4
  clear har4
  replace HBW := Lib.hid (bstep HBW.out hbA)
  clear hbA
  go_simp
  refine hK.out _ _ ?_ (fun hHeld => ?_)
  · (try dsimp only)
    exact ⟨(K5.out.belowS HBW.out).cellV (i := 0) rfl, (K5.out.belowS HBW.out).cellV (i := 1) rfl⟩
  clear hK K
  refine wpAnyH_ready (rs := [5]) (by kernel_rfl) (by simp) ?_
  refine AllReadyH.cons rfl (fun K hK => ?_) AllReadyH.nil
  go_simp
  refine (HAR4.out _ (bre _)).mono ?_
  rintro e wc5 ⟨rfl, hbA⟩
  replace HBW := Lib.hid (bstep HBW.out hbA)
  clear hbA
  go_simp
  refine hK.out _ _ ?_ (fun hHeld => ?_)
  · (try dsimp only)
    exact ⟨(K5.out.belowS HBW.out).cellV (i := 0) rfl, (K5.out.belowS HBW.out).cellV (i := 1) rfl⟩
  clear hK K
  refine Tr.take_at 6 25 (.bool true) rfl rfl (by kernel_rfl) (by kernel_rfl) (by kernel_rfl) (fun _ _ _ h => h) (Or.inl ⟨by rfl, ?_⟩) (by assumption) ?_
  · intro W0 hSw
    (try dsimp only at hSw)
    go_simp
  simp only [List.set_cons_zero, List.set_cons_succ]
  refine Tr.take_at 7 26 (.bool true) rfl rfl (by kernel_rfl) (by kernel_rfl) (by kernel_rfl) (fun _ _ _ h => h) (Or.inl ⟨by rfl, ?_⟩) (by assumption) ?_
  · intro W0 hSw
    (try dsimp only at hSw)
    go_simp
  simp only [List.set_cons_zero, List.set_cons_succ]
  refine Tr.take_at 8 27 (.bool true) rfl rfl (by kernel_rfl) (by kernel_rfl) (by kernel_rfl) (fun _ _ _ h => h) (Or.inl ⟨by rfl, ?_⟩) (by assumption) ?_
  · intro W0 hSw
    (try dsimp only at hSw)
    go_simp
  simp only [List.set_cons_zero, List.set_cons_succ]
  refine Tr.take_at 9 28 (.agg #[.slice A n c, .map mv]) rfl rfl (by kernel_rfl) (by kernel_rfl) (by kernel_rfl) (fun _ _ _ h => h) (Or.inl ⟨by rfl, ?_⟩) (by assumption) ?_
  · intro W0 hSw
    (try dsimp only at hSw)
    go_simp
  simp only [List.set_cons_zero, List.set_cons_succ]
  refine wpAnyH_ready (rs := [10]) (by kernel_rfl) (by simp) ?_
  refine AllReadyH.cons rfl (fun K hK => ?_) AllReadyH.nil
  go_simp
  refine (id_b (2 : Int) _ (by decide)).mono ?_
  rintro e wc10 ⟨rfl, hbA⟩
  replace HBW := Lib.hid (bstep HBW.out hbA)
  clear hbA
  go_simp
  refine hK.out _ _ ?_ (fun hHeld => ?_)
  · (try dsimp only)
    exact ⟨(K5.out.belowS HBW.out).cellV (i := 0) rfl, (K5.out.belowS HBW.out).cellV (i := 1) rfl⟩
  clear hK K
  refine wpAnyH_ready (rs := [11]) (by kernel_rfl) (by simp) ?_
  refine AllReadyH.cons rfl (fun K hK => ?_) AllReadyH.nil
  go_simp
  refine (vis_area (HS.out.below HBW.out) (idW 2) (by decide) 2 aw_area2).mono ?_
  rintro e wc11 ⟨A11, n11, c11, rfl, har11, hbA⟩
  have HAR11 := Lib.hid har11
  clear har11
  replace HBW := Lib.hid (bstep HBW.out hbA)
  clear hbA
  go_simp
  refine hK.out _ _ ?_ (fun hHeld => ?_)
  · (try dsimp only)
    exact ⟨(K5.out.belowS HBW.out).cellV (i := 0) rfl, (K5.out.belowS HBW.out).cellV (i := 1) rfl⟩
  clear hK K
  refine wpAnyH_ready (rs := [12]) (by kernel_rfl) (by simp) ?_
  refine AllReadyH.cons rfl (fun K hK => ?_) AllReadyH.nil
  go_simp
  refine (HAR11.out _ (bre _)).mono ?_
  rintro e wc12 ⟨rfl, hbA⟩
  replace HBW := Lib.hid (bstep HBW.out hbA)
  clear hbA
  go_simp
  refine hK.out _ _ ?_ (fun hHeld => ?_)
  · (try dsimp only)
    exact ⟨(K5.out.belowS HBW.out).cellV (i := 0) rfl, (K5.out.belowS HBW.out).cellV (i := 1) rfl⟩
  clear hK K
  refine Tr.take_at 13 32 (.bool true) rfl rfl (by kernel_rfl) (by kernel_rfl) (by kernel_rfl) (fun _ _ _ h => h) (Or.inl ⟨by rfl, ?_⟩) (by assumption) ?_
  · intro W0 hSw
    (try dsimp only at hSw)
    go_simp
  simp only [List.set_cons_zero, List.set_cons_succ]
  refine Tr.take_at 14 33 (.bool true) rfl rfl (by kernel_rfl) (by kernel_rfl) (by kernel_rfl) (fun _ _ _ h => h) (Or.inl ⟨by rfl, ?_⟩) (by assumption) ?_
  · intro W0 hSw
    (try dsimp only at hSw)
    go_simp
  simp only [List.set_cons_zero, List.set_cons_succ]
  refine Tr.take_at 15 34 (.bool true) rfl rfl (by kernel_rfl) (by kernel_rfl) (by kernel_rfl) (fun _ _ _ h => h) (Or.inl ⟨by rfl, ?_⟩) (by assumption) ?_
  · intro W0 hSw
    (try dsimp only at hSw)
    go_simp
  simp only [List.set_cons_zero, List.set_cons_succ]
  refine Tr.take_at 16 35 (.agg #[.slice A n c, .map mv]) rfl rfl (by kernel_rfl) (by kernel_rfl) (by kernel_rfl) (fun _ _ _ h => h) (Or.inl ⟨by rfl, ?_⟩) (by assumption) ?_
  · intro W0 hSw
    (try dsimp only at hSw)
    go_simp
  simp only [List.set_cons_zero, List.set_cons_succ]
  refine wpAnyH_ready (rs := [17]) (by kernel_rfl) (by simp) ?_
  refine AllReadyH.cons rfl (fun K hK => ?_) AllReadyH.nil
  go_simp
  refine (id_b (0 : Int) _ (by decide)).mono ?_
  rintro e wc17 ⟨rfl, hbA⟩
  replace HBW := Lib.hid (bstep HBW.out hbA)
  clear hbA
  go_simp
  refine hK.out _ _ ?_ (fun hHeld => ?_)
  · (try dsimp only)
    exact ⟨(K5.out.belowS HBW.out).cellV (i := 0) rfl, (K5.out.belowS HBW.out).cellV (i := 1) rfl⟩
  clear hK K
  refine wpAnyH_ready (rs := [18]) (by kernel_rfl) (by simp) ?_
  refine AllReadyH.cons rfl (fun K hK => ?_) AllReadyH.nil
  go_simp
  refine (vis_area (HS.out.below HBW.out) (idW 0) (by decide) 6 aw_area0).mono ?_
  rintro e wc18 ⟨A18, n18, c18, rfl, har18, hbA⟩
  have HAR18 := Lib.hid har18
  clear har18
  replace HBW := Lib.hid (bstep HBW.out hbA)
  clear hbA
  go_simp
  refine hK.out _ _ ?_ (fun hHeld => ?_)
  · (try dsimp only)
    exact ⟨(K5.out.belowS HBW.out).cellV (i := 0) rfl, (K5.out.belowS HBW.out).cellV (i := 1) rfl⟩
  clear hK K
  refine wpAnyH_ready (rs := [19]) (by kernel_rfl) (by simp) ?_
  refine AllReadyH.cons rfl (fun K hK => ?_) AllReadyH.nil
  go_simp
  refine (HAR18.out _ (bre _)).mono ?_
  rintro e wc19 ⟨rfl, hbA⟩
  replace HBW := Lib.hid (bstep HBW.out hbA)
  clear hbA
  go_simp
  refine hK.out _ _ ?_ (fun hHeld => ?_)
  · (try dsimp only)
    exact ⟨(K5.out.belowS HBW.out).cellV (i := 0) rfl, (K5.out.belowS HBW.out).cellV (i := 1) rfl⟩
  clear hK K
  refine Tr.take_at 20 39 (.bool true) rfl rfl (by kernel_rfl) (by kernel_rfl) (by kernel_rfl) (fun _ _ _ h => h) (Or.inl ⟨by rfl, ?_⟩) (by assumption) ?_
  · intro W0 hSw
    (try dsimp only at hSw)
    go_simp
  simp only [List.set_cons_zero, List.set_cons_succ]
  refine Tr.take_at 21 40 (.bool true) rfl rfl (by kernel_rfl) (by kernel_rfl) (by kernel_rfl) (fun _ _ _ h => h) (Or.inl ⟨by rfl, ?_⟩) (by assumption) ?_
  · intro W0 hSw
    (try dsimp only at hSw)
    go_simp
  simp only [List.set_cons_zero, List.set_cons_succ]
  refine Tr.take_at 22 41 (.bool true) rfl rfl (by kernel_rfl) (by kernel_rfl) (by kernel_rfl) (fun _ _ _ h => h) (Or.inl ⟨by rfl, ?_⟩) (by assumption) ?_
  · intro W0 hSw
    (try dsimp only at hSw)
    go_simp
  simp only [List.set_cons_zero, List.set_cons_succ]
  refine Tr.take_at 23 42 (.agg #[.slice A n c, .map mv]) rfl rfl (by kernel_rfl) (by kernel_rfl) (by kernel_rfl) (fun _ _ _ h => h) (Or.inl ⟨by rfl, ?_⟩) (by assumption) ?_
  · intro W0 hSw
    (try dsimp only at hSw)
    go_simp
  simp only [List.set_cons_zero, List.set_cons_succ]
  refine wpAnyH_ready (rs := [24]) (by kernel_rfl) (by simp) ?_
  refine AllReadyH.cons rfl (fun K hK => ?_) AllReadyH.nil
  go_simp
  refine (vis_area (HS.out.below HBW.out) (1) (by decide) 28 aw_areaR).mono ?_
  rintro e wc24 ⟨A24, n24, c24, rfl, har24, hbA⟩
  have HAR24 := Lib.hid har24
  clear har24
  replace HBW := Lib.hid (bstep HBW.out hbA)
  clear hbA
  go_simp
  refine hK.out _ _ ?_ (fun hHeld => ?_)
  · (try dsimp only)
    exact ⟨(K5.out.belowS HBW.out).cellV (i := 0) rfl, (K5.out.belowS HBW.out).cellV (i := 1) rfl⟩
  clear hK K
  refine wpAnyH_ready (rs := [25]) (by kernel_rfl) (by simp) ?_
  refine AllReadyH.cons rfl (fun K hK => ?_) AllReadyH.nil
  go_simp
  refine (HAR24.out _ (bre _)).mono ?_
  rintro e wc25 ⟨rfl, hbA⟩
  replace HBW := Lib.hid (bstep HBW.out hbA)
  clear hbA
  go_simp
  refine hK.out _ _ ?_ (fun hHeld => ?_)
  · (try dsimp only)
    exact ⟨(K5.out.belowS HBW.out).cellV (i := 0) rfl, (K5.out.belowS HBW.out).cellV (i := 1) rfl⟩
  clear hK K
  refine Tr.take_at 26 45 (.bool true) rfl rfl (by kernel_rfl) (by kernel_rfl) (by kernel_rfl) (fun _ _ _ h => h) (Or.inl ⟨by rfl, ?_⟩) (by assumption) ?_
  · intro W0 hSw
    (try dsimp only at hSw)
    go_simp
  simp only [List.set_cons_zero, List.set_cons_succ]
  refine Tr.take_at 27 46 (.bool true) rfl rfl (by kernel_rfl) (by kernel_rfl) (by kernel_rfl) (fun _ _ _ h => h) (Or.inl ⟨by rfl, ?_⟩) (by assumption) ?_
  · intro W0 hSw
    (try dsimp only at hSw)
    go_simp
  simp only [List.set_cons_zero, List.set_cons_succ]
  refine Tr.take_at 28 0 (.bool true) rfl rfl (by kernel_rfl) (by kernel_rfl) (by kernel_rfl) (fun _ _ _ h => h) (Or.inl ⟨by rfl, ?_⟩) (by assumption) ?_
  · intro W0 hSw
    (try dsimp only at hSw)
    go_simp
  simp only [List.set_cons_zero]
  refine wpAnyH_done (by kernel_rfl) ?_ _
  refine NoPanic.normal ?_
  go_wp2_with fail
  go_ret
  exact ⟨rfl, bstep HB.out HBW.out⟩
end Go.Proofs.YtbkkecijcijhdaaGreat
end
