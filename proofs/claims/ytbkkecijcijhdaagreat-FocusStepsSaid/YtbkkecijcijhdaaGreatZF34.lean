/-
  The walk of glazierlaw37.awake: the document's example.
-/
import Derived.Test.YtbkkecijcijhdaaGreatZF32
import Derived.Test.YtbkkecijcijhdaaGreatZF33
section
namespace Go.Proofs.YtbkkecijcijhdaaGreat
open Go.RowKit Go.Maps Go.Shelf

def awF : List FW := [⟨0, true, false⟩, ⟨1, false, false⟩]
theorem awF_ok : ∀ f ∈ awF, f.ok := fun f hf => by
  simp only [awF, List.mem_cons, List.not_mem_nil, or_false] at hf
  rcases hf with rfl | rfl <;> exact ⟨by decide, by decide⟩
theorem awF_tree : TreeOk (nodesW (dwsF awF)) := nodesW_ok (dwsF_up awF_ok)
set_option maxRecDepth 100000 in
theorem aw_lost : lostF ⟨idW 1, 2, 0⟩ (shV37 (nodesW (dwsF awF)) (bxS 8 8 (dwsF awF))) (pathN (nodesW (dwsF awF)) (idW 1)) = (⟨idW 0, 0, 0⟩, true) := by as_aux_lemma => kernel_rfl
set_option maxRecDepth 100000 in
theorem aw_way : wayF ⟨idW 0, 0, 0⟩ (pathN (nodesW (dwsF awF)) (idW 1)) (hasN (nodesW (dwsF awF)) (idW 0)) = [idW 1, idW 0] := by as_aux_lemma => kernel_rfl
set_option maxRecDepth 100000 in
theorem Tryz.infoFw : (Tryz.prog.info? 201).map (fun i => (i.zero, i.size, i.bytes)) = some (some (.agg #[.int .u8 0, .bool false, .bool false]), 3, 3) := by kernel_rfl
set_option maxRecDepth 100000 in
theorem Tryz.sizeFo : (Tryz.prog.info? 122).map (·.size) = some 3 := by kernel_rfl
theorem blk_puts3 {w : World} {g : Nat} {t : TypeId} {a0 a1 a2 : Value} (b0 b1 b2 : Value) (h : Blk w g t #[a0, a1, a2]) : Blk (World.setCells w g 0 (#[b0, b1, b2] : Array Value).toList) g t #[b0, b1, b2] := ((h.set_ 0 b0).set_ 1 b1).set_ 2 b2
set_option maxRecDepth 100000 in
set_option maxHeartbeats 8000000 in
theorem awake37_any (w : World) : Calls Tryz.prog 63 #[] w fun e w' => e = .returned (.bool true) ∧ Below w.heap.size w w' := by
  obtain ⟨i0, hi0, hz0, hz1, hz2⟩ := info_parts Tryz.infoFw
  go_enter Tryz.func63, Tryz.ntmps63
  go_upto_region 1 with fail
  apply wp_region_lit
  refine wpList_bld rfl #[.int .u8 0, .bool true, .bool false] (by as_aux_lemma => kernel_rfl) ?_
  refine wpList_bld rfl #[.int .u8 1, .bool false, .bool false] (by as_aux_lemma => kernel_rfl) ?_
  refine wpList_recs rfl 120 201 2 _ rfl 3 _ i0 Tryz.underlying120 hi0 hz0 hz1 rfl (by decide) (by decide) (by decide) [.agg #[.int .u8 0, .bool true, .bool false], .agg #[.int .u8 1, .bool false, .bool false]] (by simp [Value.cells]) rfl (by as_aux_lemma => kernel_rfl) #[.int .u8 0, .bool true, .bool false, .int .u8 1, .bool false, .bool false] rfl ?_
  have xK := Blk.new w 201 #[.int .u8 0, .bool true, .bool false, .int .u8 1, .bool false, .bool false]
  have xB := bal (bre w) (.cells #[.int .u8 0, .bool true, .bool false, .int .u8 1, .bool false, .bool false] 201)
  obtain ⟨X0, hX0⟩ : ∃ X0, w.alloc (.cells #[.int .u8 0, .bool true, .bool false, .int .u8 1, .bool false, .bool false] 201) = X0 := ⟨_, rfl⟩
  rw [hX0] at xK xB ⊢
  have HL := Lib.hid (show RdF FW.cells 3 X0 (some ⟨w.heap.size, 0, none⟩) 2 awF from RdF.of_blk FW.cells_len xK rfl)
  have HB := Lib.hid xB
  clear xK xB hX0
  go_wp2_with fail
  refine (made37_any (some ⟨w.heap.size, 0, none⟩) 2 2 awF _ (by decide) HL.out awF_ok).mono ?_
  rintro e w1 ⟨mk, mu, nk, fk, v, og, v9, rfl, ht, hv, _, hb⟩
  obtain ⟨Av, nv, cv, mv, rfl⟩ := hv.form
  have hba := bal (bal (bre w1) (.cells #[.map mk, .map mu] 34)) (.cells #[.slice Av nv cv, .map mv] 43)
  have xT := ht.below hba
  have xV := hv.below hba
  have xK1 := (Blk.new w1 34 #[.map mk, .map mu]).alloc (.cells #[.slice Av nv cv, .map mv] 43)
  have xK2 := blk_new2 w1 (.cells #[.map mk, .map mu] 34) 43 #[.slice Av nv cv, .map mv]
  have xB := bstep (bstep HB.out hb) hba
  clear ht hv hb hba
  go_upto_region 2 with fail
  obtain ⟨X1, hX1⟩ : ∃ X1, (w1.alloc (.cells #[.map mk, .map mu] 34)).alloc (.cells #[.slice Av nv cv, .map mv] 43) = X1 := ⟨_, rfl⟩
  rw [hX1] at xT xV xK1 xK2 xB ⊢
  have HT := Lib.hid xT
  have HV := Lib.hid xV
  have K1 := Lib.hid xK1
  have K2 := Lib.hid xK2
  replace HB := Lib.hid xB
  clear xT xV xK1 xK2 xB hX1
  go_cut [5, 6] from 47 (fun s5 s6 wx => ∃ g : Nat, s5 = .pointer (some ⟨g, 0, none⟩) ∧ s6 = .bool true ∧ X1.heap.size ≤ g ∧ Blk wx g 122 #[.int .u32 (idW 0), .int .i64 0, .int .u32 0] ∧ Below X1.heap.size X1 wx)
  case first =>
    as_aux_lemma =>
      have HBW := Lib.hid (show Below X1.heap.size X1 X1.drew from (bre X1).drew)
      refine wp_region_noPanic ?_
      refine wp_region_held_drew (S := (fun w' => w'.cell? ⟨w1.heap.size, 0, none⟩ = some (.map mk) ∧ w'.cell? ⟨w1.heap.size, 1, none⟩ = some (.map mu) ∧ w'.cell? ⟨w1.heap.size + 1, 0, none⟩ = some (.slice Av nv cv) ∧ w'.cell? ⟨w1.heap.size + 1, 1, none⟩ = some (.map mv))) (by kernel_rfl) ?_ (fun hHeld => ?_)
      · (try dsimp only)
        exact ⟨(K1.out.belowS HBW.out).cellV (i := 0) rfl, (K1.out.belowS HBW.out).cellV (i := 1) rfl, (K2.out.belowS HBW.out).cellV (i := 0) rfl, (K2.out.belowS HBW.out).cellV (i := 1) rfl⟩
      refine Tr.take_at 2 20 (.agg #[.map mk, .map mu]) rfl rfl (by kernel_rfl) (by kernel_rfl) (by kernel_rfl) (fun _ _ _ h => h) (Or.inl ⟨by rfl, ?_⟩) (by assumption) ?_
      · intro W0 hSw
        (try dsimp only at hSw)
        go_simp
      simp only [List.set_cons_zero, List.set_cons_succ]
      refine Tr.take_at 3 21 (.agg #[.slice Av nv cv, .map mv]) rfl rfl (by kernel_rfl) (by kernel_rfl) (by kernel_rfl) (fun _ _ _ h => h) (Or.inl ⟨by rfl, ?_⟩) (by assumption) ?_
      · intro W0 hSw
        (try dsimp only at hSw)
        go_simp
      simp only [List.set_cons_zero, List.set_cons_succ]
      refine wpAnyH_ready (rs := [0, 8]) (by kernel_rfl) (by simp) ?_
      refine AllReadyH.cons rfl (fun K hK => ?_) (AllReadyH.cons rfl (fun K hK => ?_) AllReadyH.nil)
      ·
        go_simp
        refine (id37_s 2 1 (by decide) _ (by decide)).mono ?_
        rintro e wc0 ⟨rfl, hbA⟩
        replace HBW := Lib.hid (bstep HBW.out hbA)
        clear hbA
        go_simp
        refine hK.out _ _ ?_ (fun hHeld => ?_)
        · (try dsimp only)
          exact ⟨(K1.out.belowS HBW.out).cellV (i := 0) rfl, (K1.out.belowS HBW.out).cellV (i := 1) rfl, (K2.out.belowS HBW.out).cellV (i := 0) rfl, (K2.out.belowS HBW.out).cellV (i := 1) rfl⟩
        clear hK K
        refine Tr.take_at 1 19 (.agg #[.int .u32 (idW 1), .int .i64 2, .int .u32 0]) rfl rfl (by kernel_rfl) (by kernel_rfl) (by kernel_rfl) (fun _ _ _ h => h) (Or.inl ⟨by rfl, ?_⟩) (by assumption) ?_
        · intro W0 hSw
          apply y_build
          as_aux_lemma => kernel_rfl
        simp only [List.set_cons_zero, List.set_cons_succ]
        refine wpAnyH_ready (rs := [4, 8]) (by kernel_rfl) (by simp) ?_
        refine AllReadyH.cons rfl (fun K hK => ?_) (AllReadyH.cons rfl (fun K hK => ?_) AllReadyH.nil)
        ·
          go_simp
          have hlo := lost_any ⟨idW 1, 2, 0⟩ ⟨by decide, by decide⟩ (HT.out.below HBW.out) awF_tree (HV.out.below HBW.out)
          rw [aw_lost] at hlo
          refine hlo.mono ?_
          clear hlo
          rintro e wc4 ⟨rfl, hbA⟩
          replace HBW := Lib.hid (bstep HBW.out hbA)
          clear hbA
          go_simp
          refine hK.out _ _ ?_ (fun hHeld => ?_)
          · (try dsimp only)
            exact ⟨(K1.out.belowS HBW.out).cellV (i := 0) rfl, (K1.out.belowS HBW.out).cellV (i := 1) rfl, (K2.out.belowS HBW.out).cellV (i := 0) rfl, (K2.out.belowS HBW.out).cellV (i := 1) rfl⟩
          clear hK K
          refine Tr.take_at 5 17 (.tuple #[.agg #[.int .u32 (idW 0), .int .i64 0, .int .u32 0], .bool true]) rfl rfl (by kernel_rfl) (by kernel_rfl) (by kernel_rfl) (fun _ _ _ h => h) (Or.inl ⟨by rfl, ?_⟩) (by assumption) ?_
          · intro W0 hSw
            (try dsimp only at hSw)
            go_simp
          simp only [List.set_cons_zero, List.set_cons_succ]
          refine Tr.take_at 6 23 (.agg #[.int .u32 (idW 0), .int .i64 0, .int .u32 0]) rfl rfl (by kernel_rfl) (by kernel_rfl) (by kernel_rfl) (fun _ _ _ h => h) (Or.inl ⟨by rfl, ?_⟩) (by assumption) ?_
          · intro W0 hSw
            (try dsimp only at hSw)
            go_simp
          simp only [List.set_cons_zero, List.set_cons_succ]
          refine Tr.take_at 7 24 (.bool true) rfl rfl (by kernel_rfl) (by kernel_rfl) (by kernel_rfl) (fun _ _ _ h => h) (Or.inl ⟨by rfl, ?_⟩) (by assumption) ?_
          · intro W0 hSw
            (try dsimp only at hSw)
            go_simp
          simp only [List.set_cons_zero, List.set_cons_succ]
          refine wpAnyH_ready (rs := [8]) (by kernel_rfl) (by simp) ?_
          refine AllReadyH.cons rfl (fun K hK => ?_) AllReadyH.nil
          go_simp
          have KA8 := Lib.hid (show Blk (wc4.alloc (.cells #[.int .u32 0, .int .i64 0, .int .u32 0] 122)) (wc4.heap.size) 122 #[.int .u32 0, .int .i64 0, .int .u32 0] from Blk.new wc4 122 #[.int .u32 0, .int .i64 0, .int .u32 0])
          have HL8 := Lib.hid (show X1.heap.size ≤ wc4.heap.size from HBW.out.size)
          have hbA : Below wc4.heap.size wc4 ((wc4.alloc (.cells #[.int .u32 0, .int .i64 0, .int .u32 0] 122))) := bal (bre wc4) (.cells #[.int .u32 0, .int .i64 0, .int .u32 0] 122)
          replace HBW := Lib.hid (bstep HBW.out hbA)
          clear hbA
          refine hK.out _ _ ?_ (fun hHeld => ?_)
          · (try dsimp only)
            exact ⟨(K1.out.belowS HBW.out).cellV (i := 0) rfl, (K1.out.belowS HBW.out).cellV (i := 1) rfl, (K2.out.belowS HBW.out).cellV (i := 0) rfl, (K2.out.belowS HBW.out).cellV (i := 1) rfl⟩
          clear hK K
          refine wpAnyH_ready (rs := [9]) (by kernel_rfl) (by simp) ?_
          refine AllReadyH.cons rfl (fun K hK => ?_) AllReadyH.nil
          refine Tr.wanted_plain rfl ?_
          refine store_mid0 rfl 122 _ _ rfl (wc4.heap.size) 0 #[.int .u32 (idW 0), .int .i64 0, .int .u32 0] (by rfl) (by rfl) (by have h := there_blk KA8.out; exact h) Tryz.sizeFo (by simp [Value.oneCell']) ?_
          have xK := blk_puts3 (.int .u32 (idW 0)) (.int .i64 0) (.int .u32 0) KA8.out
          have xB := bsets HBW.out HL8.out (#[.int .u32 (idW 0), .int .i64 0, .int .u32 0] : Array Value).toList 0
          obtain ⟨wS9, hwS⟩ : ∃ wS, World.setCells (wc4.alloc (.cells #[.int .u32 0, .int .i64 0, .int .u32 0] 122)) (wc4.heap.size) 0 (#[.int .u32 (idW 0), .int .i64 0, .int .u32 0] : Array Value).toList = wS := ⟨_, rfl⟩
          rw [hwS] at xK xB ⊢
          replace HBW := Lib.hid xB
          replace KA8 := Lib.hid xK
          clear hwS xK xB
          refine hK.out _ _ ?_ (fun hHeld => ?_)
          · (try dsimp only)
            exact ⟨(K1.out.belowS HBW.out).cellV (i := 0) rfl, (K1.out.belowS HBW.out).cellV (i := 1) rfl, (K2.out.belowS HBW.out).cellV (i := 0) rfl, (K2.out.belowS HBW.out).cellV (i := 1) rfl⟩
          clear hK K
          refine Tr.take_at 10 6 (.bool true) rfl rfl (by kernel_rfl) (by kernel_rfl) (by kernel_rfl) (fun _ _ _ h => h) (Or.inl ⟨by rfl, ?_⟩) (by assumption) ?_
          · intro W0 hSw
            (try dsimp only at hSw)
            go_simp
          simp only [List.set_cons_zero, List.set_cons_succ]
          refine wpAnyH_done (by kernel_rfl) ?_ _
          refine NoPanic.normal ?_
          go_wp2_with fail
          go_meet
          exact ⟨_, rfl, rfl, HL8.out, KA8.out, HBW.out⟩
        ·
          go_simp
          have KA8 := Lib.hid (show Blk (wc0.alloc (.cells #[.int .u32 0, .int .i64 0, .int .u32 0] 122)) (wc0.heap.size) 122 #[.int .u32 0, .int .i64 0, .int .u32 0] from Blk.new wc0 122 #[.int .u32 0, .int .i64 0, .int .u32 0])
          have HL8 := Lib.hid (show X1.heap.size ≤ wc0.heap.size from HBW.out.size)
          have hbA : Below wc0.heap.size wc0 ((wc0.alloc (.cells #[.int .u32 0, .int .i64 0, .int .u32 0] 122))) := bal (bre wc0) (.cells #[.int .u32 0, .int .i64 0, .int .u32 0] 122)
          replace HBW := Lib.hid (bstep HBW.out hbA)
          clear hbA
          refine hK.out _ _ ?_ (fun hHeld => ?_)
          · (try dsimp only)
            exact ⟨(K1.out.belowS HBW.out).cellV (i := 0) rfl, (K1.out.belowS HBW.out).cellV (i := 1) rfl, (K2.out.belowS HBW.out).cellV (i := 0) rfl, (K2.out.belowS HBW.out).cellV (i := 1) rfl⟩
          clear hK K
          refine wpAnyH_ready (rs := [4]) (by kernel_rfl) (by simp) ?_
          refine AllReadyH.cons rfl (fun K hK => ?_) AllReadyH.nil
          go_simp
          have hlo := lost_any ⟨idW 1, 2, 0⟩ ⟨by decide, by decide⟩ (HT.out.below HBW.out) awF_tree (HV.out.below HBW.out)
          rw [aw_lost] at hlo
          refine hlo.mono ?_
          clear hlo
          rintro e wc4 ⟨rfl, hbA⟩
          replace HBW := Lib.hid (bstep HBW.out hbA)
          replace KA8 := Lib.hid (KA8.out.belowS hbA)
          clear hbA
          go_simp
          refine hK.out _ _ ?_ (fun hHeld => ?_)
          · (try dsimp only)
            exact ⟨(K1.out.belowS HBW.out).cellV (i := 0) rfl, (K1.out.belowS HBW.out).cellV (i := 1) rfl, (K2.out.belowS HBW.out).cellV (i := 0) rfl, (K2.out.belowS HBW.out).cellV (i := 1) rfl⟩
          clear hK K
          refine Tr.take_at 5 17 (.tuple #[.agg #[.int .u32 (idW 0), .int .i64 0, .int .u32 0], .bool true]) rfl rfl (by kernel_rfl) (by kernel_rfl) (by kernel_rfl) (fun _ _ _ h => h) (Or.inl ⟨by rfl, ?_⟩) (by assumption) ?_
          · intro W0 hSw
            (try dsimp only at hSw)
            go_simp
          simp only [List.set_cons_zero, List.set_cons_succ]
          refine Tr.take_at 6 23 (.agg #[.int .u32 (idW 0), .int .i64 0, .int .u32 0]) rfl rfl (by kernel_rfl) (by kernel_rfl) (by kernel_rfl) (fun _ _ _ h => h) (Or.inl ⟨by rfl, ?_⟩) (by assumption) ?_
          · intro W0 hSw
            (try dsimp only at hSw)
            go_simp
          simp only [List.set_cons_zero, List.set_cons_succ]
          refine Tr.take_at 7 24 (.bool true) rfl rfl (by kernel_rfl) (by kernel_rfl) (by kernel_rfl) (fun _ _ _ h => h) (Or.inl ⟨by rfl, ?_⟩) (by assumption) ?_
          · intro W0 hSw
            (try dsimp only at hSw)
            go_simp
          simp only [List.set_cons_zero, List.set_cons_succ]
          refine wpAnyH_ready (rs := [9]) (by kernel_rfl) (by simp) ?_
          refine AllReadyH.cons rfl (fun K hK => ?_) AllReadyH.nil
          refine Tr.wanted_plain rfl ?_
          refine store_mid0 rfl 122 _ _ rfl (wc0.heap.size) 0 #[.int .u32 (idW 0), .int .i64 0, .int .u32 0] (by rfl) (by rfl) (by have h := there_blk KA8.out; exact h) Tryz.sizeFo (by simp [Value.oneCell']) ?_
          have xK := blk_puts3 (.int .u32 (idW 0)) (.int .i64 0) (.int .u32 0) KA8.out
          have xB := bsets HBW.out HL8.out (#[.int .u32 (idW 0), .int .i64 0, .int .u32 0] : Array Value).toList 0
          obtain ⟨wS9, hwS⟩ : ∃ wS, World.setCells wc4 (wc0.heap.size) 0 (#[.int .u32 (idW 0), .int .i64 0, .int .u32 0] : Array Value).toList = wS := ⟨_, rfl⟩
          rw [hwS] at xK xB ⊢
          replace HBW := Lib.hid xB
          replace KA8 := Lib.hid xK
          clear hwS xK xB
          refine hK.out _ _ ?_ (fun hHeld => ?_)
          · (try dsimp only)
            exact ⟨(K1.out.belowS HBW.out).cellV (i := 0) rfl, (K1.out.belowS HBW.out).cellV (i := 1) rfl, (K2.out.belowS HBW.out).cellV (i := 0) rfl, (K2.out.belowS HBW.out).cellV (i := 1) rfl⟩
          clear hK K
          refine Tr.take_at 10 6 (.bool true) rfl rfl (by kernel_rfl) (by kernel_rfl) (by kernel_rfl) (fun _ _ _ h => h) (Or.inl ⟨by rfl, ?_⟩) (by assumption) ?_
          · intro W0 hSw
            (try dsimp only at hSw)
            go_simp
          simp only [List.set_cons_zero, List.set_cons_succ]
          refine wpAnyH_done (by kernel_rfl) ?_ _
          refine NoPanic.normal ?_
          go_wp2_with fail
          go_meet
          exact ⟨_, rfl, rfl, HL8.out, KA8.out, HBW.out⟩
      ·
        go_simp
        have KA8 := Lib.hid (show Blk (X1.alloc (.cells #[.int .u32 0, .int .i64 0, .int .u32 0] 122)).drew (X1.heap.size) 122 #[.int .u32 0, .int .i64 0, .int .u32 0] from Blk.new X1.drew 122 #[.int .u32 0, .int .i64 0, .int .u32 0])
        have HL8 := Lib.hid (show X1.heap.size ≤ X1.heap.size from HBW.out.size)
        have hbA : Below X1.drew.heap.size X1.drew ((X1.alloc (.cells #[.int .u32 0, .int .i64 0, .int .u32 0] 122)).drew) := bal (bre X1.drew) (.cells #[.int .u32 0, .int .i64 0, .int .u32 0] 122)
        replace HBW := Lib.hid (bstep HBW.out hbA)
        clear hbA
        refine hK.out _ _ ?_ (fun hHeld => ?_)
        · (try dsimp only)
          exact ⟨(K1.out.belowS HBW.out).cellV (i := 0) rfl, (K1.out.belowS HBW.out).cellV (i := 1) rfl, (K2.out.belowS HBW.out).cellV (i := 0) rfl, (K2.out.belowS HBW.out).cellV (i := 1) rfl⟩
        clear hK K
        refine wpAnyH_ready (rs := [0]) (by kernel_rfl) (by simp) ?_
        refine AllReadyH.cons rfl (fun K hK => ?_) AllReadyH.nil
        go_simp
        refine (id37_s 2 1 (by decide) _ (by decide)).mono ?_
        rintro e wc0 ⟨rfl, hbA⟩
        replace HBW := Lib.hid (bstep HBW.out hbA)
        replace KA8 := Lib.hid (KA8.out.belowS hbA)
        clear hbA
        go_simp
        refine hK.out _ _ ?_ (fun hHeld => ?_)
        · (try dsimp only)
          exact ⟨(K1.out.belowS HBW.out).cellV (i := 0) rfl, (K1.out.belowS HBW.out).cellV (i := 1) rfl, (K2.out.belowS HBW.out).cellV (i := 0) rfl, (K2.out.belowS HBW.out).cellV (i := 1) rfl⟩
        clear hK K
        refine Tr.take_at 1 19 (.agg #[.int .u32 (idW 1), .int .i64 2, .int .u32 0]) rfl rfl (by kernel_rfl) (by kernel_rfl) (by kernel_rfl) (fun _ _ _ h => h) (Or.inl ⟨by rfl, ?_⟩) (by assumption) ?_
        · intro W0 hSw
          apply y_build
          as_aux_lemma => kernel_rfl
        simp only [List.set_cons_zero, List.set_cons_succ]
        refine wpAnyH_ready (rs := [4]) (by kernel_rfl) (by simp) ?_
        refine AllReadyH.cons rfl (fun K hK => ?_) AllReadyH.nil
        go_simp
        have hlo := lost_any ⟨idW 1, 2, 0⟩ ⟨by decide, by decide⟩ (HT.out.below HBW.out) awF_tree (HV.out.below HBW.out)
        rw [aw_lost] at hlo
        refine hlo.mono ?_
        clear hlo
        rintro e wc4 ⟨rfl, hbA⟩
        replace HBW := Lib.hid (bstep HBW.out hbA)
        replace KA8 := Lib.hid (KA8.out.belowS hbA)
        clear hbA
        go_simp
        refine hK.out _ _ ?_ (fun hHeld => ?_)
        · (try dsimp only)
          exact ⟨(K1.out.belowS HBW.out).cellV (i := 0) rfl, (K1.out.belowS HBW.out).cellV (i := 1) rfl, (K2.out.belowS HBW.out).cellV (i := 0) rfl, (K2.out.belowS HBW.out).cellV (i := 1) rfl⟩
        clear hK K
        refine Tr.take_at 5 17 (.tuple #[.agg #[.int .u32 (idW 0), .int .i64 0, .int .u32 0], .bool true]) rfl rfl (by kernel_rfl) (by kernel_rfl) (by kernel_rfl) (fun _ _ _ h => h) (Or.inl ⟨by rfl, ?_⟩) (by assumption) ?_
        · intro W0 hSw
          (try dsimp only at hSw)
          go_simp
        simp only [List.set_cons_zero, List.set_cons_succ]
        refine Tr.take_at 6 23 (.agg #[.int .u32 (idW 0), .int .i64 0, .int .u32 0]) rfl rfl (by kernel_rfl) (by kernel_rfl) (by kernel_rfl) (fun _ _ _ h => h) (Or.inl ⟨by rfl, ?_⟩) (by assumption) ?_
        · intro W0 hSw
          (try dsimp only at hSw)
          go_simp
        simp only [List.set_cons_zero, List.set_cons_succ]
        refine Tr.take_at 7 24 (.bool true) rfl rfl (by kernel_rfl) (by kernel_rfl) (by kernel_rfl) (fun _ _ _ h => h) (Or.inl ⟨by rfl, ?_⟩) (by assumption) ?_
        · intro W0 hSw
          (try dsimp only at hSw)
          go_simp
        simp only [List.set_cons_zero, List.set_cons_succ]
        refine wpAnyH_ready (rs := [9]) (by kernel_rfl) (by simp) ?_
        refine AllReadyH.cons rfl (fun K hK => ?_) AllReadyH.nil
        refine Tr.wanted_plain rfl ?_
        refine store_mid0 rfl 122 _ _ rfl (X1.heap.size) 0 #[.int .u32 (idW 0), .int .i64 0, .int .u32 0] (by rfl) (by rfl) (by have h := there_blk KA8.out; exact h) Tryz.sizeFo (by simp [Value.oneCell']) ?_
        have xK := blk_puts3 (.int .u32 (idW 0)) (.int .i64 0) (.int .u32 0) KA8.out
        have xB := bsets HBW.out HL8.out (#[.int .u32 (idW 0), .int .i64 0, .int .u32 0] : Array Value).toList 0
        obtain ⟨wS9, hwS⟩ : ∃ wS, World.setCells wc4 (X1.heap.size) 0 (#[.int .u32 (idW 0), .int .i64 0, .int .u32 0] : Array Value).toList = wS := ⟨_, rfl⟩
        rw [hwS] at xK xB ⊢
        replace HBW := Lib.hid xB
        replace KA8 := Lib.hid xK
        clear hwS xK xB
        refine hK.out _ _ ?_ (fun hHeld => ?_)
        · (try dsimp only)
          exact ⟨(K1.out.belowS HBW.out).cellV (i := 0) rfl, (K1.out.belowS HBW.out).cellV (i := 1) rfl, (K2.out.belowS HBW.out).cellV (i := 0) rfl, (K2.out.belowS HBW.out).cellV (i := 1) rfl⟩
        clear hK K
        refine Tr.take_at 10 6 (.bool true) rfl rfl (by kernel_rfl) (by kernel_rfl) (by kernel_rfl) (fun _ _ _ h => h) (Or.inl ⟨by rfl, ?_⟩) (by assumption) ?_
        · intro W0 hSw
          (try dsimp only at hSw)
          go_simp
        simp only [List.set_cons_zero, List.set_cons_succ]
        refine wpAnyH_done (by kernel_rfl) ?_ _
        refine NoPanic.normal ?_
        go_wp2_with fail
        go_meet
        exact ⟨_, rfl, rfl, HL8.out, KA8.out, HBW.out⟩
  obtain ⟨g5, rfl, rfl, hg5, hk5, hbc⟩ := hcut
  have K5 := Lib.hid hk5
  replace HT := Lib.hid (HT.out.below hbc)
  replace K1 := Lib.hid (K1.out.belowS hbc)
  replace K2 := Lib.hid (K2.out.belowS hbc)
  replace HB := Lib.hid (bstep HB.out hbc)
  clear hbc hk5 hg5
  obtain ⟨Y, hY⟩ : ∃ Y, Y = wc := ⟨_, rfl⟩
  subst hY
  go_upto_region 3 with fail
  go_cut [7] from 47 (fun s7 wx => ∃ (A : Option Addr) (c : Nat), s7 = .slice A 2 c ∧ Rd wx A 2 (U32 [idW 1, idW 0]) ∧ Below Y.heap.size Y wx)
  case first =>
    as_aux_lemma =>
      have HBW := Lib.hid (show Below Y.heap.size Y Y.drew from (bre Y).drew)
      refine wp_region_noPanic ?_
      refine wp_region_held_drew (S := (fun w' => w'.cell? ⟨w1.heap.size, 0, none⟩ = some (.map mk) ∧ w'.cell? ⟨w1.heap.size, 1, none⟩ = some (.map mu))) (by kernel_rfl) ?_ (fun hHeld => ?_)
      · (try dsimp only)
        exact ⟨(K1.out.belowS HBW.out).cellV (i := 0) rfl, (K1.out.belowS HBW.out).cellV (i := 1) rfl⟩
      refine Tr.take_at 2 27 (.agg #[.map mk, .map mu]) rfl rfl (by kernel_rfl) (by kernel_rfl) (by kernel_rfl) (fun _ _ _ h => h) (Or.inl ⟨by rfl, ?_⟩) (by assumption) ?_
      · intro W0 hSw
        (try dsimp only at hSw)
        go_simp
      simp only [List.set_cons_zero, List.set_cons_succ]
      refine wpAnyH_ready (rs := [0]) (by kernel_rfl) (by simp) ?_
      refine AllReadyH.cons rfl (fun K hK => ?_) AllReadyH.nil
      go_simp
      refine (id37_s 1 0 (by decide) _ (by decide)).mono ?_
      rintro e wc0 ⟨rfl, hbA⟩
      replace HBW := Lib.hid (bstep HBW.out hbA)
      clear hbA
      go_simp
      refine hK.out _ _ ?_ (fun hHeld => ?_)
      · (try dsimp only)
        exact ⟨(K1.out.belowS HBW.out).cellV (i := 0) rfl, (K1.out.belowS HBW.out).cellV (i := 1) rfl⟩
      clear hK K
      refine Tr.take_at 1 26 (.agg #[.int .u32 (idW 0), .int .i64 0, .int .u32 0]) rfl rfl (by kernel_rfl) (by kernel_rfl) (by kernel_rfl) (fun _ _ _ h => h) (Or.inl ⟨by rfl, ?_⟩) (by assumption) ?_
      · intro W0 hSw
        apply y_build
        as_aux_lemma => kernel_rfl
      simp only [List.set_cons_zero, List.set_cons_succ]
      refine wpAnyH_ready (rs := [3]) (by kernel_rfl) (by simp) ?_
      refine AllReadyH.cons rfl (fun K hK => ?_) AllReadyH.nil
      go_simp
      refine (id37_s 2 1 (by decide) _ (by decide)).mono ?_
      rintro e wc3 ⟨rfl, hbA⟩
      replace HBW := Lib.hid (bstep HBW.out hbA)
      clear hbA
      go_simp
      refine hK.out _ _ ?_ (fun hHeld => ?_)
      · (try dsimp only)
        exact ⟨(K1.out.belowS HBW.out).cellV (i := 0) rfl, (K1.out.belowS HBW.out).cellV (i := 1) rfl⟩
      clear hK K
      refine wpAnyH_ready (rs := [4]) (by kernel_rfl) (by simp) ?_
      refine AllReadyH.cons rfl (fun K hK => ?_) AllReadyH.nil
      go_simp
      have hwy := way_any ⟨idW 0, 0, 0⟩ ⟨by decide, by decide⟩ (idW 1) (by decide) (HT.out.below HBW.out) awF_tree
      rw [aw_way] at hwy
      refine hwy.mono ?_
      clear hwy
      rintro e wc4 ⟨u, rfl, ho, hbA⟩
      obtain ⟨Aw, cw, rfl, _⟩ := own_form ho
      have HRW := Lib.hid (Rd.of_own ho)
      clear ho
      replace HBW := Lib.hid (bstep HBW.out hbA)
      clear hbA
      go_simp
      refine hK.out _ _ ?_ (fun hHeld => ?_)
      · (try dsimp only)
        exact ⟨(K1.out.belowS HBW.out).cellV (i := 0) rfl, (K1.out.belowS HBW.out).cellV (i := 1) rfl⟩
      clear hK K
      refine Tr.take_at 5 7 (.slice Aw 2 cw) rfl rfl (by kernel_rfl) (by kernel_rfl) (by kernel_rfl) (fun _ _ _ h => h) (Or.inl ⟨by rfl, ?_⟩) (by assumption) ?_
      · intro W0 hSw
        (try dsimp only at hSw)
        go_simp
      simp only [List.set_cons_zero, List.set_cons_succ]
      refine wpAnyH_done (by kernel_rfl) ?_ _
      refine NoPanic.normal ?_
      go_wp2_with fail
      go_meet
      exact ⟨Aw, cw, rfl, HRW.out, HBW.out⟩
  obtain ⟨A7, c7, rfl, hr7, hbc⟩ := hcut
  have HR7 := Lib.hid hr7
  replace K5 := Lib.hid (K5.out.belowS hbc)
  replace HB := Lib.hid (bstep HB.out hbc)
  clear hbc hr7 HT K1 K2
  obtain ⟨Z, hZ⟩ : ∃ Z, Z = wc := ⟨_, rfl⟩
  subst hZ
  go_upto_region 4 with fail
  have HBW := Lib.hid (show Below Z.heap.size Z Z.drew from (bre Z).drew)
  refine wp_region_noPanic ?_
  refine wp_region_held_drew (S := (fun w' => w'.cell? ⟨g5, 0, none⟩ = some (.int .u32 (idW 0)))) (by kernel_rfl) ?_ (fun hHeld => ?_)
  · (try dsimp only)
    exact (K5.out.belowS HBW.out).cellV (i := 0) rfl
  refine Tr.take_at 0 30 (.bool true) rfl rfl (by kernel_rfl) (by kernel_rfl) (by kernel_rfl) (fun _ _ _ h => h) (Or.inl ⟨by rfl, ?_⟩) (by assumption) ?_
  · intro W0 hSw
    (try dsimp only at hSw)
    go_simp
  simp only [List.set_cons_zero, List.set_cons_succ]
  refine Tr.take_at 1 31 (.bool true) rfl rfl (by kernel_rfl) (by kernel_rfl) (by kernel_rfl) (fun _ _ _ h => h) (Or.inl ⟨by rfl, ?_⟩) (by assumption) ?_
  · intro W0 hSw
    (try dsimp only at hSw)
    go_simp
  simp only [List.set_cons_zero, List.set_cons_succ]
  refine Tr.take_at 2 32 (.bool true) rfl rfl (by kernel_rfl) (by kernel_rfl) (by kernel_rfl) (fun _ _ _ h => h) (Or.inl ⟨by rfl, ?_⟩) (by assumption) ?_
  · intro W0 hSw
    (try dsimp only at hSw)
    go_simp
  simp only [List.set_cons_zero, List.set_cons_succ]
  refine Tr.take_at 3 33 (.bool true) rfl rfl (by kernel_rfl) (by kernel_rfl) (by kernel_rfl) (fun _ _ _ h => h) (Or.inl ⟨by rfl, ?_⟩) (by assumption) ?_
  · intro W0 hSw
    (try dsimp only at hSw)
    go_simp
  simp only [List.set_cons_zero, List.set_cons_succ]
  refine Tr.take_at 4 34 (.bool true) rfl rfl (by kernel_rfl) (by kernel_rfl) (by kernel_rfl) (fun _ _ _ h => h) (Or.inl ⟨by rfl, ?_⟩) (by assumption) ?_
  · intro W0 hSw
    (try dsimp only at hSw)
    go_simp
  simp only [List.set_cons_zero, List.set_cons_succ]
  refine Tr.take_at 5 35 (.pointer (some ⟨g5, 0, none⟩)) rfl rfl (by kernel_rfl) (by kernel_rfl) (by kernel_rfl) (fun _ _ _ h => h) (Or.inl ⟨by rfl, ?_⟩) (by assumption) ?_
  · intro W0 hSw
    (try dsimp only at hSw)
    go_simp
  simp only [List.set_cons_zero, List.set_cons_succ]
  refine Tr.take_at 6 36 (.int .u32 (idW 0)) rfl rfl (by kernel_rfl) (by kernel_rfl) (by kernel_rfl) (fun _ _ _ h => h) (Or.inl ⟨by rfl, ?_⟩) (by assumption) ?_
  · intro W0 hSw
    (try dsimp only at hSw)
    go_simp
  simp only [List.set_cons_zero, List.set_cons_succ]
  refine wpAnyH_ready (rs := [7]) (by kernel_rfl) (by simp) ?_
  refine AllReadyH.cons rfl (fun K hK => ?_) AllReadyH.nil
  go_simp
  refine (id37_s 1 0 (by decide) _ (by decide)).mono ?_
  rintro e wc7 ⟨rfl, hbA⟩
  replace HBW := Lib.hid (bstep HBW.out hbA)
  clear hbA
  go_simp
  refine hK.out _ _ ?_ (fun hHeld => ?_)
  · (try dsimp only)
    exact (K5.out.belowS HBW.out).cellV (i := 0) rfl
  clear hK K
  refine Tr.take_at 8 38 (.bool true) rfl rfl (by kernel_rfl) (by kernel_rfl) (by kernel_rfl) (fun _ _ _ h => h) (Or.inl ⟨by rfl, ?_⟩) (by assumption) ?_
  · intro W0 hSw
    (try dsimp only at hSw)
    go_simp
  simp only [List.set_cons_zero, List.set_cons_succ]
  refine Tr.take_at 9 39 (.bool true) rfl rfl (by kernel_rfl) (by kernel_rfl) (by kernel_rfl) (fun _ _ _ h => h) (Or.inl ⟨by rfl, ?_⟩) (by assumption) ?_
  · intro W0 hSw
    (try dsimp only at hSw)
    go_simp
  simp only [List.set_cons_zero, List.set_cons_succ]
  refine Tr.take_at 10 40 (.bool true) rfl rfl (by kernel_rfl) (by kernel_rfl) (by kernel_rfl) (fun _ _ _ h => h) (Or.inl ⟨by rfl, ?_⟩) (by assumption) ?_
  · intro W0 hSw
    (try dsimp only at hSw)
    go_simp
  simp only [List.set_cons_zero, List.set_cons_succ]
  refine Tr.take_at 11 41 (.slice A7 2 c7) rfl rfl (by kernel_rfl) (by kernel_rfl) (by kernel_rfl) (fun _ _ _ h => h) (Or.inl ⟨by rfl, ?_⟩) (by assumption) ?_
  · intro W0 hSw
    (try dsimp only at hSw)
    go_simp
  simp only [List.set_cons_zero, List.set_cons_succ]
  refine wpAnyH_ready (rs := [12]) (by kernel_rfl) (by simp) ?_
  refine AllReadyH.cons rfl (fun K hK => ?_) AllReadyH.nil
  go_simp
  refine (id37_s 2 1 (by decide) _ (by decide)).mono ?_
  rintro e wc12 ⟨rfl, hbA⟩
  replace HBW := Lib.hid (bstep HBW.out hbA)
  clear hbA
  go_simp
  refine hK.out _ _ ?_ (fun hHeld => ?_)
  · (try dsimp only)
    exact (K5.out.belowS HBW.out).cellV (i := 0) rfl
  clear hK K
  refine wpAnyH_ready (rs := [13]) (by kernel_rfl) (by simp) ?_
  refine AllReadyH.cons rfl (fun K hK => ?_) AllReadyH.nil
  go_simp
  refine (id37_s 1 0 (by decide) _ (by decide)).mono ?_
  rintro e wc13 ⟨rfl, hbA⟩
  replace HBW := Lib.hid (bstep HBW.out hbA)
  clear hbA
  go_simp
  refine hK.out _ _ ?_ (fun hHeld => ?_)
  · (try dsimp only)
    exact (K5.out.belowS HBW.out).cellV (i := 0) rfl
  clear hK K
  refine wpAnyH_ready (rs := [14]) (by kernel_rfl) (by simp) ?_
  refine AllReadyH.cons rfl (fun K hK => ?_) AllReadyH.nil
  go_simp
  have hbA : Below wc13.heap.size wc13 (wc13.alloc (.cells #[.int .u32 (idW 1), .int .u32 (idW 0)] 49)) := bal (bre wc13) _
  replace HBW := Lib.hid (bstep HBW.out hbA)
  clear hbA
  go_simp
  refine hK.out _ _ ?_ (fun hHeld => ?_)
  · (try dsimp only)
    exact (K5.out.belowS HBW.out).cellV (i := 0) rfl
  clear hK K
  refine wpAnyH_ready (rs := [15]) (by kernel_rfl) (by simp) ?_
  refine AllReadyH.cons rfl (fun K hK => ?_) AllReadyH.nil
  go_simp
  have hr2 : Rd (wc13.alloc (.cells #[.int .u32 (idW 1), .int .u32 (idW 0)] 49)) (some ⟨wc13.heap.size, 0, none⟩) 2 (U32 [idW 1, idW 0]) := Rd.of_own (blk_own (Blk.new wc13 49 #[.int .u32 (idW 1), .int .u32 (idW 0)]) (Nat.le_refl _) rfl (by simp [maxLen]))
  refine (same37_any A7 (some ⟨wc13.heap.size, 0, none⟩) 2 c7 2 [idW 1, idW 0] _ (by decide) (HR7.out.below HBW.out) hr2).mono ?_
  rintro e wc15 ⟨rfl, hbA⟩
  clear hr2
  replace HBW := Lib.hid (bstep HBW.out hbA)
  clear hbA
  go_simp
  refine hK.out _ _ ?_ (fun hHeld => ?_)
  · (try dsimp only)
    exact (K5.out.belowS HBW.out).cellV (i := 0) rfl
  clear hK K
  refine Tr.take_at 16 46 (.bool true) rfl rfl (by kernel_rfl) (by kernel_rfl) (by kernel_rfl) (fun _ _ _ h => h) (Or.inl ⟨by rfl, ?_⟩) (by assumption) ?_
  · intro W0 hSw
    (try dsimp only at hSw)
    go_simp
  simp only [List.set_cons_zero, List.set_cons_succ]
  refine Tr.take_at 17 0 (.bool true) rfl rfl (by kernel_rfl) (by kernel_rfl) (by kernel_rfl) (fun _ _ _ h => h) (Or.inl ⟨by rfl, ?_⟩) (by assumption) ?_
  · intro W0 hSw
    (try dsimp only at hSw)
    go_simp
  simp only [List.set_cons_zero]
  refine wpAnyH_done (by kernel_rfl) ?_ _
  refine NoPanic.normal ?_
  go_wp2_with fail
  go_ret
  exact ⟨rfl, bstep HB.out HBW.out⟩
end Go.Proofs.YtbkkecijcijhdaaGreat
end
