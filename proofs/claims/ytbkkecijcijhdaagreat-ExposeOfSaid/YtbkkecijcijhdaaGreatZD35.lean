/-
  The walk of glazierlaw32.awake, and of expose.Events.
-/
import Derived.Test.YtbkkecijcijhdaaGreatZD31
import Derived.Test.YtbkkecijcijhdaaGreatZD33
import Derived.Test.YtbkkecijcijhdaaGreatZD34
section
namespace Go.Proofs.YtbkkecijcijhdaaGreat
open Go.RowKit Go.Maps Go.Shelf

/-- the views as the law's own: what shows of them. -/
def visW (g : XW → SpW) (xs : List XW) : Int → Places := visG 12 10 (nodesW (dwsX XW.a xs)) (bxS 12 10 (dwsX g xs))
theorem dw_bd {g : XW → SpW} {xs : List XW} (h : ∀ x ∈ xs, (g x).ok) : ∀ d ∈ dwsX g xs, d.W ≤ 8 ∧ d.H ≤ 8 := fun d hd => by
  obtain ⟨i, hi⟩ := List.getElem?_of_mem hd
  obtain ⟨x, hx, rfl⟩ := dwsX_at hi
  obtain ⟨_, h1, h2⟩ := h x (List.mem_of_getElem? hx)
  show (g x).W % 8 + 1 ≤ 8 ∧ (g x).H % 8 + 1 ≤ 8
  omega
theorem vis_of {w : World} {v : Value} {g : XW → SpW} {xs : List XW} {og : Int → Int × Int} (h : SeenG w v 12 10 (nodesW (dwsX XW.a xs)) (bxS 12 10 (dwsX g xs)) og) (hx : ∀ x ∈ xs, x.ok) (hg : ∀ x ∈ xs, (g x).ok) : VisAt w v (visW g xs) :=
  h.vis (nodesW_ok (dwsX_up hx)) (by decide) (fun k b hk hb x y ha => by
    have := bxS_area (m := 8) (dw_bd hg) hk hb ha
    omega)
/-- two places' tests that are alike in a small box. -/
theorem same_box {P Q : Places} (hP : ∀ x y, P x y = true → (0 ≤ x ∧ x < 20) ∧ 0 ≤ y ∧ y < 20) (hQ : ∀ x y, Q x y = true → (0 ≤ x ∧ x < 20) ∧ 0 ≤ y ∧ y < 20) (h : ((List.range 20).all fun x => (List.range 20).all fun y => P (x : Nat) (y : Nat) == Q (x : Nat) (y : Nat)) = true) : ∀ x y, P x y = Q x y := fun x y => by
  rw [List.all_eq_true] at h
  by_cases hb : (0 ≤ x ∧ x < 20) ∧ 0 ≤ y ∧ y < 20
  · have h1 := h x.toNat (List.mem_range.2 (by omega))
    rw [List.all_eq_true] at h1
    have h2 := h1 y.toNat (List.mem_range.2 (by omega))
    rw [beq_iff_eq, show ((x.toNat : Nat) : Int) = x by omega, show ((y.toNat : Nat) : Int) = y by omega] at h2
    exact h2
  · rw [Bool.eq_iff_iff]
    exact ⟨fun e => absurd (hP x y e) hb, fun e => absurd (hQ x y e) hb⟩
theorem regP_one {w : World} {u : Value} {P : Places} {r : RC} (h : RegP w u P) (hr : r.cnt = true) (hp : ∀ x y, P x y = inB [r] x y) : RegAt w u [r] := by
  obtain ⟨out, h1, h2⟩ := h
  have hpos := (cnt_iff r).1 hr
  obtain ⟨A, c, e, h3, hc, h4⟩ := h1
  have : out = [r] := canon_uniq hc (canon_one (by omega) (by omega)) (fun x y => by rw [← inB_iff, ← inB_iff, h2, hp])
  subst this
  exact ⟨A, c, e, h3, hc, h4⟩
set_option maxRecDepth 100000 in
theorem Events_any (i : Int) (A B : Option Addr) (n c m d : Nat) (rs : List RC) (w : World) (hi : 0 ≤ i ∧ i ≤ 4294967295) (hr : RegAt w (.agg #[.slice B m d]) rs) (hn : rs.length ≤ 1000000000000) :
    Calls Tryz.prog 54 #[.agg #[.int .u32 i, .slice A n c, .slice B m d]] w fun e w' => ∃ v l, e = .returned v ∧ OutsAt w' w.heap.size v l ∧ l.map OV.key = evK 10 i rs rs.length ∧ Below w.heap.size w w' := by
  have xK := Blk.new w 93 #[.int .u32 i, .slice A n c, .slice B m d]
  have xB := bal (bre w) (.cells #[.int .u32 i, .slice A n c, .slice B m d] 93)
  have HR := Lib.hid (hr.below xB)
  have c0 := xK.cellV (i := 0) (v := .int .u32 i) rfl
  have c2 := xK.cellV (i := 2) (v := .slice B m d) rfl
  have HB := Lib.hid xB
  have HI := Lib.hid hi
  clear xK xB hr hi
  go_enter Tryz.func54, Tryz.ntmps54
  go_wp2_with fail
  refine (events_any 10 i (.agg #[.slice B m d]) rs _ HI.out HR.out hn).mono ?_
  rintro e w1 ⟨v, l, rfl, h1, h2, hb⟩
  have H1 := Lib.hid h1
  have H2 := Lib.hid h2
  have HB1 := Lib.hid hb
  clear h1 h2 hb
  go_wp2_with fail
  go_ret
  exact ⟨_, l, rfl, ⟨own_lower H1.out.own HB.out.size, fun o ho => own_lower (H1.out.each o ho) HB.out.size⟩, H2.out, bstep HB.out HB1.out⟩
/-- the example. -/
def exX : List XW := [⟨0, ⟨0, 0, 3, 2, true⟩, ⟨0, 0, 3, 2, true⟩⟩, ⟨0, ⟨2, 0, 7, 7, true⟩, ⟨9, 0, 7, 7, true⟩⟩]
theorem exX_ok : ∀ x ∈ exX, x.ok := by
  intro x hx
  simp only [exX, List.mem_cons, List.not_mem_nil, or_false] at hx
  rcases hx with rfl | rfl <;> exact ⟨by decide, ⟨by decide, by decide⟩, by decide, by decide⟩
set_option maxRecDepth 100000 in
theorem ex_kept : ((List.range 20).all fun x => (List.range 20).all fun y => keptP (visW XW.a exX (idW 0)) (visW XW.b exX (idW 0)) 0 0 false (x : Nat) (y : Nat) == inB [⟨0, 0, 2, 3⟩] (x : Nat) (y : Nat)) = true := by kernel_rfl
set_option maxRecDepth 100000 in
theorem ex_new : ((List.range 20).all fun x => (List.range 20).all fun y => newP (visW XW.a exX (idW 0)) (visW XW.b exX (idW 0)) 0 0 false (x : Nat) (y : Nat) == inB [⟨2, 0, 2, 3⟩] (x : Nat) (y : Nat)) = true := by kernel_rfl
set_option maxRecDepth 100000 in
theorem Tryz.infoWin : (Tryz.prog.info? 177).map (fun i => (i.zero, i.size, i.bytes)) = some (some (.agg #[.int .u8 0, .int .i8 0, .int .i8 0, .int .u8 0, .int .u8 0, .bool false, .int .i8 0, .int .i8 0, .int .u8 0, .int .u8 0, .bool false]), 11, 11) := by kernel_rfl
theorem Tryz.infoR4 : (Tryz.prog.info? 113).map (fun i => (i.zero, i.size, i.bytes)) = some (some (.agg #[.int .i64 0, .int .i64 0, .int .i64 0, .int .i64 0]), 4, 32) := by kernel_rfl
theorem own_few' {w : World} {base e size n : Nat} {v : Value} {xs : List Value} (h : w.ownsRow base e size v n xs) : n ≤ maxLen := by
  rcases h.2 with ⟨_, rfl⟩ | ⟨g, cap, cur, _, _, _, h1, h2, _⟩
  · simp
  · omega
theorem RegAt.area {w : World} {u : Value} {r : RC} {n : Int} (h : RegAt w u [r]) (hn : areaL [r] = n) :
    Calls Tryz.prog 37 #[u] w fun e w' => e = .returned (.int .i64 n) ∧ Below w.heap.size w w' := by
  obtain ⟨A, c, rfl, hr, hc, _, hcn⟩ := h
  rw [← hn]
  exact area_any A 1 c [r] w (by decide) hr hcn
theorem RegAt.has {w : World} {u : Value} {out : List RC} (x y : Int) (h : RegAt w u out) :
    Calls Tryz.prog 40 #[u, .int .i64 x, .int .i64 y] w fun e w' => e = .returned (.bool (inB out x y)) ∧ Below w.heap.size w w' := hasP x y ⟨out, h, fun _ _ => rfl⟩
set_option maxRecDepth 100000 in
set_option maxHeartbeats 8000000 in
theorem awake32_any (w : World) : Calls Tryz.prog 47 #[] w fun e w' => e = .returned (.bool true) ∧ Below w.heap.size w w' := by
  obtain ⟨i0, hi0, hz0, hz1, hz2⟩ := info_parts Tryz.infoWin
  obtain ⟨j0, hj0, hy0, hy1, hy2⟩ := info_parts Tryz.infoR4
  go_enter Tryz.func47, Tryz.ntmps47
  go_upto_region 2 with fail
  have xK := Blk.new w 175 #[.int .i8 0, .int .i8 0, .int .u8 3, .int .u8 2, .bool true]
  have xB := bal (bre w) (.cells #[.int .i8 0, .int .i8 0, .int .u8 3, .int .u8 2, .bool true] 175)
  obtain ⟨X0, hX0⟩ : ∃ X0, w.alloc (.cells #[.int .i8 0, .int .i8 0, .int .u8 3, .int .u8 2, .bool true] 175) = X0 := ⟨_, rfl⟩
  rw [hX0] at xK xB ⊢
  have HB := Lib.hid xB
  have a0 := xK.cellV (i := 0) (v := .int .i8 0) rfl
  have a1 := xK.cellV (i := 1) (v := .int .i8 0) rfl
  have a2 := xK.cellV (i := 2) (v := .int .u8 3) rfl
  have a3 := xK.cellV (i := 3) (v := .int .u8 2) rfl
  have a4 := xK.cellV (i := 4) (v := .bool true) rfl
  clear xK xB hX0
  apply wp_region_lit
  iterate 6 (first | go_step | go_upon)
  refine wpList_bld rfl #[.int .u8 0, .int .i8 0, .int .i8 0, .int .u8 3, .int .u8 2, .bool true, .int .i8 0, .int .i8 0, .int .u8 3, .int .u8 2, .bool true] (by as_aux_lemma => kernel_rfl) ?_
  refine wpList_bld rfl #[.int .i8 2, .int .i8 0, .int .u8 7, .int .u8 7, .bool true] (by as_aux_lemma => kernel_rfl) ?_
  refine wpList_bld rfl #[.int .i8 9, .int .i8 0, .int .u8 7, .int .u8 7, .bool true] (by as_aux_lemma => kernel_rfl) ?_
  refine wpList_bld rfl #[.int .u8 0, .int .i8 2, .int .i8 0, .int .u8 7, .int .u8 7, .bool true, .int .i8 9, .int .i8 0, .int .u8 7, .int .u8 7, .bool true] (by as_aux_lemma => kernel_rfl) ?_
  refine wpList_recs rfl 86 177 2 _ rfl 11 _ i0 Tryz.underlying86 hi0 hz0 hz1 rfl (by decide) (by decide) (by decide) [.agg #[.int .u8 0, .int .i8 0, .int .i8 0, .int .u8 3, .int .u8 2, .bool true, .int .i8 0, .int .i8 0, .int .u8 3, .int .u8 2, .bool true], .agg #[.int .u8 0, .int .i8 2, .int .i8 0, .int .u8 7, .int .u8 7, .bool true, .int .i8 9, .int .i8 0, .int .u8 7, .int .u8 7, .bool true]] (by simp [Value.cells]) rfl (by as_aux_lemma => kernel_rfl) #[.int .u8 0, .int .i8 0, .int .i8 0, .int .u8 3, .int .u8 2, .bool true, .int .i8 0, .int .i8 0, .int .u8 3, .int .u8 2, .bool true, .int .u8 0, .int .i8 2, .int .i8 0, .int .u8 7, .int .u8 7, .bool true, .int .i8 9, .int .i8 0, .int .u8 7, .int .u8 7, .bool true] rfl ?_
  clear a0 a1 a2 a3 a4
  have xK := Blk.new X0 177 #[.int .u8 0, .int .i8 0, .int .i8 0, .int .u8 3, .int .u8 2, .bool true, .int .i8 0, .int .i8 0, .int .u8 3, .int .u8 2, .bool true, .int .u8 0, .int .i8 2, .int .i8 0, .int .u8 7, .int .u8 7, .bool true, .int .i8 9, .int .i8 0, .int .u8 7, .int .u8 7, .bool true]
  have xB := bal HB.out (.cells #[.int .u8 0, .int .i8 0, .int .i8 0, .int .u8 3, .int .u8 2, .bool true, .int .i8 0, .int .i8 0, .int .u8 3, .int .u8 2, .bool true, .int .u8 0, .int .i8 2, .int .i8 0, .int .u8 7, .int .u8 7, .bool true, .int .i8 9, .int .i8 0, .int .u8 7, .int .u8 7, .bool true] 177)
  obtain ⟨X1, hX1⟩ : ∃ X1, X0.alloc (.cells #[.int .u8 0, .int .i8 0, .int .i8 0, .int .u8 3, .int .u8 2, .bool true, .int .i8 0, .int .i8 0, .int .u8 3, .int .u8 2, .bool true, .int .u8 0, .int .i8 2, .int .i8 0, .int .u8 7, .int .u8 7, .bool true, .int .i8 9, .int .i8 0, .int .u8 7, .int .u8 7, .bool true] 177) = X1 := ⟨_, rfl⟩
  rw [hX1] at xK xB ⊢
  replace HB := Lib.hid xB
  have HR := Lib.hid (show RdF XW.cells 11 X1 (some ⟨X0.heap.size, 0, none⟩) 2 exX from RdF.of_blk XW.cells_len xK rfl)
  clear xK xB hX1
  go_wp2_with fail
  refine (views_any (some ⟨X0.heap.size, 0, none⟩) 2 2 exX _ (by decide) HR.out exX_ok).mono ?_
  rintro e w1 ⟨va, vb, oga, ogb, rfl, sa, sb, hb⟩
  obtain ⟨Aa, na, ca, ma, rfl⟩ := sa.form
  obtain ⟨Ab, nb, cb, mb, rfl⟩ := sb.form
  have xA := vis_of sa exX_ok (fun x hx => (exX_ok x hx).2.1)
  have xC := vis_of sb exX_ok (fun x hx => (exX_ok x hx).2.2)
  replace HB := Lib.hid (bstep HB.out hb)
  clear sa sb hb HR
  go_upto_region 3 with fail
  have hba := bal (bal (bre w1) (.cells #[.slice Aa na ca, .map ma] 43)) (.cells #[.slice Ab nb cb, .map mb] 43)
  have xB := bstep HB.out hba
  have xK2 := (Blk.new w1 43 #[.slice Aa na ca, .map ma]).alloc (.cells #[.slice Ab nb cb, .map mb] 43)
  have xK3 := blk_newA w1 (.cells #[.slice Aa na ca, .map ma] 43) 43 #[.slice Ab nb cb, .map mb]
  replace xA := xA.below hba
  replace xC := xC.below hba
  obtain ⟨X2, hX2⟩ : ∃ X2, (w1.alloc (.cells #[.slice Aa na ca, .map ma] 43)).alloc (.cells #[.slice Ab nb cb, .map mb] 43) = X2 := ⟨_, rfl⟩
  rw [hX2] at xB xK2 xK3 xA xC ⊢
  replace HB := Lib.hid xB
  have K2 := Lib.hid xK2
  have K3 := Lib.hid xK3
  have HA := Lib.hid xA
  have HC := Lib.hid xC
  clear hba xB xK2 xK3 xA xC hX2
  go_cut [5] from 58 (fun s5 wx => ∃ g A n c B m d, s5 = .pointer (some ⟨g, 0, none⟩) ∧ Blk wx g 93 #[.int .u32 (idW 0), .slice A n c, .slice B m d] ∧ RegP wx (.agg #[.slice A n c]) (keptP (visW XW.a exX (idW 0)) (visW XW.b exX (idW 0)) 0 0 false) ∧ RegP wx (.agg #[.slice B m d]) (newP (visW XW.a exX (idW 0)) (visW XW.b exX (idW 0)) 0 0 false) ∧ Below X2.heap.size X2 wx)
  case first =>
    as_aux_lemma =>
      have HBW := Lib.hid (show Below X2.heap.size X2 X2.drew from (bre X2).drew)
      refine wp_region_noPanic ?_
      refine wp_region_held_drew (S := (fun w' => w'.cell? ⟨w1.heap.size, 0, none⟩ = some (.slice Aa na ca) ∧ w'.cell? ⟨w1.heap.size, 1, none⟩ = some (.map ma) ∧ w'.cell? ⟨w1.heap.size + 1, 0, none⟩ = some (.slice Ab nb cb) ∧ w'.cell? ⟨w1.heap.size + 1, 1, none⟩ = some (.map mb))) (by kernel_rfl) ?_ (fun hHeld => ?_)
      · (try dsimp only)
        exact ⟨(K2.out.belowS HBW.out).cellV (i := 0) rfl, (K2.out.belowS HBW.out).cellV (i := 1) rfl, (K3.out.belowS HBW.out).cellV (i := 0) rfl, (K3.out.belowS HBW.out).cellV (i := 1) rfl⟩
      refine Tr.take_at 0 20 (.agg #[.slice Aa na ca, .map ma]) rfl rfl (by kernel_rfl) (by kernel_rfl) (by kernel_rfl) (fun _ _ _ h => h) (Or.inl ⟨by rfl, ?_⟩) (by assumption) ?_
      · intro W0 hSw
        (try dsimp only at hSw)
        go_simp
      simp only [List.set_cons_zero, List.set_cons_succ]
      refine Tr.take_at 1 21 (.agg #[.slice Ab nb cb, .map mb]) rfl rfl (by kernel_rfl) (by kernel_rfl) (by kernel_rfl) (fun _ _ _ h => h) (Or.inl ⟨by rfl, ?_⟩) (by assumption) ?_
      · intro W0 hSw
        (try dsimp only at hSw)
        go_simp
      simp only [List.set_cons_zero, List.set_cons_succ]
      refine Tr.take_at 3 23 (.agg #[.int .i64 0, .int .i64 0, .bool false]) rfl rfl (by kernel_rfl) (by kernel_rfl) (by kernel_rfl) (fun _ _ _ h => h) (Or.inl ⟨by rfl, ?_⟩) (by assumption) ?_
      · intro W0 hSw
        apply y_build
        as_aux_lemma => kernel_rfl
      simp only [List.set_cons_zero, List.set_cons_succ]
      refine wpAnyH_ready (rs := [2, 5]) (by kernel_rfl) (by simp) ?_
      refine AllReadyH.cons rfl (fun K hK => ?_) (AllReadyH.cons rfl (fun K hK => ?_) AllReadyH.nil)
      ·
        go_simp
        refine (id32_s 1 0 (by decide) _ (by decide)).mono ?_
        rintro e wc2 ⟨rfl, hbA⟩
        replace HBW := Lib.hid (bstep HBW.out hbA)
        clear hbA
        go_simp
        refine hK.out _ _ ?_ (fun hHeld => ?_)
        · (try dsimp only)
          exact ⟨(K2.out.belowS HBW.out).cellV (i := 0) rfl, (K2.out.belowS HBW.out).cellV (i := 1) rfl, (K3.out.belowS HBW.out).cellV (i := 0) rfl, (K3.out.belowS HBW.out).cellV (i := 1) rfl⟩
        clear hK K
        refine wpAnyH_ready (rs := [4, 5]) (by kernel_rfl) (by simp) ?_
        refine AllReadyH.cons rfl (fun K hK => ?_) (AllReadyH.cons rfl (fun K hK => ?_) AllReadyH.nil)
        ·
          go_simp
          refine (one_any (idW 0) 0 0 false (HA.out.below HBW.out) (HC.out.below HBW.out) (by decide) (by decide)).mono ?_
          rintro e wc4 ⟨A4, n4, c4, B4, m4, d4, rfl, hk4, hn4, hbA⟩
          have HKP := Lib.hid hk4
          have HNP := Lib.hid hn4
          clear hk4 hn4
          replace HBW := Lib.hid (bstep HBW.out hbA)
          clear hbA
          go_simp
          refine hK.out _ _ ?_ (fun hHeld => ?_)
          · (try dsimp only)
            exact ⟨(K2.out.belowS HBW.out).cellV (i := 0) rfl, (K2.out.belowS HBW.out).cellV (i := 1) rfl, (K3.out.belowS HBW.out).cellV (i := 0) rfl, (K3.out.belowS HBW.out).cellV (i := 1) rfl⟩
          clear hK K
          refine wpAnyH_ready (rs := [5]) (by kernel_rfl) (by simp) ?_
          refine AllReadyH.cons rfl (fun K hK => ?_) AllReadyH.nil
          go_simp
          have KA5 := Lib.hid (show Blk (wc4.alloc (.cells #[.int .u32 0, .slice none 0 0, .slice none 0 0] 93)) (wc4.heap.size) 93 #[.int .u32 0, .slice none 0 0, .slice none 0 0] from Blk.new wc4 93 #[.int .u32 0, .slice none 0 0, .slice none 0 0])
          have HL5 := Lib.hid (show X2.heap.size ≤ wc4.heap.size from HBW.out.size)
          have hbA : Below wc4.heap.size wc4 ((wc4.alloc (.cells #[.int .u32 0, .slice none 0 0, .slice none 0 0] 93))) := bal (bre wc4) (.cells #[.int .u32 0, .slice none 0 0, .slice none 0 0] 93)
          replace HBW := Lib.hid (bstep HBW.out hbA)
          replace HKP := Lib.hid (HKP.out.below hbA)
          replace HNP := Lib.hid (HNP.out.below hbA)
          clear hbA
          refine hK.out _ _ ?_ (fun hHeld => ?_)
          · (try dsimp only)
            exact ⟨(K2.out.belowS HBW.out).cellV (i := 0) rfl, (K2.out.belowS HBW.out).cellV (i := 1) rfl, (K3.out.belowS HBW.out).cellV (i := 0) rfl, (K3.out.belowS HBW.out).cellV (i := 1) rfl⟩
          clear hK K
          refine wpAnyH_ready (rs := [6]) (by kernel_rfl) (by simp) ?_
          refine AllReadyH.cons rfl (fun K hK => ?_) AllReadyH.nil
          refine Tr.wanted_plain rfl ?_
          refine store_mid0 rfl 93 _ _ rfl (wc4.heap.size) 0 #[.int .u32 (idW 0), .slice A4 n4 c4, .slice B4 m4 d4] (by rfl) (by rfl) (by have h := there_blk KA5.out; exact h) Tryz.sizeCh (by simp [Value.oneCell']) ?_
          have xK := put3 (.int .u32 (idW 0)) (.slice A4 n4 c4) (.slice B4 m4 d4) KA5.out
          have xB := bsets HBW.out HL5.out (#[.int .u32 (idW 0), .slice A4 n4 c4, .slice B4 m4 d4] : Array Value).toList 0
          have xHKP := (show RegP (World.setCells (wc4.alloc (.cells #[.int .u32 0, .slice none 0 0, .slice none 0 0] 93)) (wc4.heap.size) 0 (#[.int .u32 (idW 0), .slice A4 n4 c4, .slice B4 m4 d4] : Array Value).toList) _ _ from HKP.out.sets3 KA5.out)
          have xHNP := (show RegP (World.setCells (wc4.alloc (.cells #[.int .u32 0, .slice none 0 0, .slice none 0 0] 93)) (wc4.heap.size) 0 (#[.int .u32 (idW 0), .slice A4 n4 c4, .slice B4 m4 d4] : Array Value).toList) _ _ from HNP.out.sets3 KA5.out)
          obtain ⟨wS6, hwS⟩ : ∃ wS, World.setCells (wc4.alloc (.cells #[.int .u32 0, .slice none 0 0, .slice none 0 0] 93)) (wc4.heap.size) 0 (#[.int .u32 (idW 0), .slice A4 n4 c4, .slice B4 m4 d4] : Array Value).toList = wS := ⟨_, rfl⟩
          rw [hwS] at xK xB xHKP xHNP ⊢
          replace HBW := Lib.hid xB
          replace KA5 := Lib.hid xK
          replace HKP := Lib.hid xHKP
          replace HNP := Lib.hid xHNP
          clear hwS xK xB xHKP xHNP
          refine hK.out _ _ ?_ (fun hHeld => ?_)
          · (try dsimp only)
            exact ⟨(K2.out.belowS HBW.out).cellV (i := 0) rfl, (K2.out.belowS HBW.out).cellV (i := 1) rfl, (K3.out.belowS HBW.out).cellV (i := 0) rfl, (K3.out.belowS HBW.out).cellV (i := 1) rfl⟩
          clear hK K
          refine wpAnyH_done (by kernel_rfl) ?_ _
          refine NoPanic.normal ?_
          go_wp2_with fail
          go_meet
          exact ⟨_, A4, n4, c4, B4, m4, d4, rfl, KA5.out, HKP.out, HNP.out, HBW.out⟩
        ·
          go_simp
          have KA5 := Lib.hid (show Blk (wc2.alloc (.cells #[.int .u32 0, .slice none 0 0, .slice none 0 0] 93)) (wc2.heap.size) 93 #[.int .u32 0, .slice none 0 0, .slice none 0 0] from Blk.new wc2 93 #[.int .u32 0, .slice none 0 0, .slice none 0 0])
          have HL5 := Lib.hid (show X2.heap.size ≤ wc2.heap.size from HBW.out.size)
          have hbA : Below wc2.heap.size wc2 ((wc2.alloc (.cells #[.int .u32 0, .slice none 0 0, .slice none 0 0] 93))) := bal (bre wc2) (.cells #[.int .u32 0, .slice none 0 0, .slice none 0 0] 93)
          replace HBW := Lib.hid (bstep HBW.out hbA)
          clear hbA
          refine hK.out _ _ ?_ (fun hHeld => ?_)
          · (try dsimp only)
            exact ⟨(K2.out.belowS HBW.out).cellV (i := 0) rfl, (K2.out.belowS HBW.out).cellV (i := 1) rfl, (K3.out.belowS HBW.out).cellV (i := 0) rfl, (K3.out.belowS HBW.out).cellV (i := 1) rfl⟩
          clear hK K
          refine wpAnyH_ready (rs := [4]) (by kernel_rfl) (by simp) ?_
          refine AllReadyH.cons rfl (fun K hK => ?_) AllReadyH.nil
          go_simp
          refine (one_any (idW 0) 0 0 false (HA.out.below HBW.out) (HC.out.below HBW.out) (by decide) (by decide)).mono ?_
          rintro e wc4 ⟨A4, n4, c4, B4, m4, d4, rfl, hk4, hn4, hbA⟩
          have HKP := Lib.hid hk4
          have HNP := Lib.hid hn4
          clear hk4 hn4
          replace HBW := Lib.hid (bstep HBW.out hbA)
          replace KA5 := Lib.hid (KA5.out.belowS hbA)
          clear hbA
          go_simp
          refine hK.out _ _ ?_ (fun hHeld => ?_)
          · (try dsimp only)
            exact ⟨(K2.out.belowS HBW.out).cellV (i := 0) rfl, (K2.out.belowS HBW.out).cellV (i := 1) rfl, (K3.out.belowS HBW.out).cellV (i := 0) rfl, (K3.out.belowS HBW.out).cellV (i := 1) rfl⟩
          clear hK K
          refine wpAnyH_ready (rs := [6]) (by kernel_rfl) (by simp) ?_
          refine AllReadyH.cons rfl (fun K hK => ?_) AllReadyH.nil
          refine Tr.wanted_plain rfl ?_
          refine store_mid0 rfl 93 _ _ rfl (wc2.heap.size) 0 #[.int .u32 (idW 0), .slice A4 n4 c4, .slice B4 m4 d4] (by rfl) (by rfl) (by have h := there_blk KA5.out; exact h) Tryz.sizeCh (by simp [Value.oneCell']) ?_
          have xK := put3 (.int .u32 (idW 0)) (.slice A4 n4 c4) (.slice B4 m4 d4) KA5.out
          have xB := bsets HBW.out HL5.out (#[.int .u32 (idW 0), .slice A4 n4 c4, .slice B4 m4 d4] : Array Value).toList 0
          have xHKP := (show RegP (World.setCells (wc4) (wc2.heap.size) 0 (#[.int .u32 (idW 0), .slice A4 n4 c4, .slice B4 m4 d4] : Array Value).toList) _ _ from HKP.out.sets3 KA5.out)
          have xHNP := (show RegP (World.setCells (wc4) (wc2.heap.size) 0 (#[.int .u32 (idW 0), .slice A4 n4 c4, .slice B4 m4 d4] : Array Value).toList) _ _ from HNP.out.sets3 KA5.out)
          obtain ⟨wS6, hwS⟩ : ∃ wS, World.setCells wc4 (wc2.heap.size) 0 (#[.int .u32 (idW 0), .slice A4 n4 c4, .slice B4 m4 d4] : Array Value).toList = wS := ⟨_, rfl⟩
          rw [hwS] at xK xB xHKP xHNP ⊢
          replace HBW := Lib.hid xB
          replace KA5 := Lib.hid xK
          replace HKP := Lib.hid xHKP
          replace HNP := Lib.hid xHNP
          clear hwS xK xB xHKP xHNP
          refine hK.out _ _ ?_ (fun hHeld => ?_)
          · (try dsimp only)
            exact ⟨(K2.out.belowS HBW.out).cellV (i := 0) rfl, (K2.out.belowS HBW.out).cellV (i := 1) rfl, (K3.out.belowS HBW.out).cellV (i := 0) rfl, (K3.out.belowS HBW.out).cellV (i := 1) rfl⟩
          clear hK K
          refine wpAnyH_done (by kernel_rfl) ?_ _
          refine NoPanic.normal ?_
          go_wp2_with fail
          go_meet
          exact ⟨_, A4, n4, c4, B4, m4, d4, rfl, KA5.out, HKP.out, HNP.out, HBW.out⟩
      ·
        go_simp
        have KA5 := Lib.hid (show Blk (X2.alloc (.cells #[.int .u32 0, .slice none 0 0, .slice none 0 0] 93)).drew (X2.heap.size) 93 #[.int .u32 0, .slice none 0 0, .slice none 0 0] from Blk.new X2.drew 93 #[.int .u32 0, .slice none 0 0, .slice none 0 0])
        have HL5 := Lib.hid (show X2.heap.size ≤ X2.heap.size from HBW.out.size)
        have hbA : Below X2.drew.heap.size X2.drew ((X2.alloc (.cells #[.int .u32 0, .slice none 0 0, .slice none 0 0] 93)).drew) := bal (bre X2.drew) (.cells #[.int .u32 0, .slice none 0 0, .slice none 0 0] 93)
        replace HBW := Lib.hid (bstep HBW.out hbA)
        clear hbA
        refine hK.out _ _ ?_ (fun hHeld => ?_)
        · (try dsimp only)
          exact ⟨(K2.out.belowS HBW.out).cellV (i := 0) rfl, (K2.out.belowS HBW.out).cellV (i := 1) rfl, (K3.out.belowS HBW.out).cellV (i := 0) rfl, (K3.out.belowS HBW.out).cellV (i := 1) rfl⟩
        clear hK K
        refine wpAnyH_ready (rs := [2]) (by kernel_rfl) (by simp) ?_
        refine AllReadyH.cons rfl (fun K hK => ?_) AllReadyH.nil
        go_simp
        refine (id32_s 1 0 (by decide) _ (by decide)).mono ?_
        rintro e wc2 ⟨rfl, hbA⟩
        replace HBW := Lib.hid (bstep HBW.out hbA)
        replace KA5 := Lib.hid (KA5.out.belowS hbA)
        clear hbA
        go_simp
        refine hK.out _ _ ?_ (fun hHeld => ?_)
        · (try dsimp only)
          exact ⟨(K2.out.belowS HBW.out).cellV (i := 0) rfl, (K2.out.belowS HBW.out).cellV (i := 1) rfl, (K3.out.belowS HBW.out).cellV (i := 0) rfl, (K3.out.belowS HBW.out).cellV (i := 1) rfl⟩
        clear hK K
        refine wpAnyH_ready (rs := [4]) (by kernel_rfl) (by simp) ?_
        refine AllReadyH.cons rfl (fun K hK => ?_) AllReadyH.nil
        go_simp
        refine (one_any (idW 0) 0 0 false (HA.out.below HBW.out) (HC.out.below HBW.out) (by decide) (by decide)).mono ?_
        rintro e wc4 ⟨A4, n4, c4, B4, m4, d4, rfl, hk4, hn4, hbA⟩
        have HKP := Lib.hid hk4
        have HNP := Lib.hid hn4
        clear hk4 hn4
        replace HBW := Lib.hid (bstep HBW.out hbA)
        replace KA5 := Lib.hid (KA5.out.belowS hbA)
        clear hbA
        go_simp
        refine hK.out _ _ ?_ (fun hHeld => ?_)
        · (try dsimp only)
          exact ⟨(K2.out.belowS HBW.out).cellV (i := 0) rfl, (K2.out.belowS HBW.out).cellV (i := 1) rfl, (K3.out.belowS HBW.out).cellV (i := 0) rfl, (K3.out.belowS HBW.out).cellV (i := 1) rfl⟩
        clear hK K
        refine wpAnyH_ready (rs := [6]) (by kernel_rfl) (by simp) ?_
        refine AllReadyH.cons rfl (fun K hK => ?_) AllReadyH.nil
        refine Tr.wanted_plain rfl ?_
        refine store_mid0 rfl 93 _ _ rfl (X2.heap.size) 0 #[.int .u32 (idW 0), .slice A4 n4 c4, .slice B4 m4 d4] (by rfl) (by rfl) (by have h := there_blk KA5.out; exact h) Tryz.sizeCh (by simp [Value.oneCell']) ?_
        have xK := put3 (.int .u32 (idW 0)) (.slice A4 n4 c4) (.slice B4 m4 d4) KA5.out
        have xB := bsets HBW.out HL5.out (#[.int .u32 (idW 0), .slice A4 n4 c4, .slice B4 m4 d4] : Array Value).toList 0
        have xHKP := (show RegP (World.setCells (wc4) (X2.heap.size) 0 (#[.int .u32 (idW 0), .slice A4 n4 c4, .slice B4 m4 d4] : Array Value).toList) _ _ from HKP.out.sets3 KA5.out)
        have xHNP := (show RegP (World.setCells (wc4) (X2.heap.size) 0 (#[.int .u32 (idW 0), .slice A4 n4 c4, .slice B4 m4 d4] : Array Value).toList) _ _ from HNP.out.sets3 KA5.out)
        obtain ⟨wS6, hwS⟩ : ∃ wS, World.setCells wc4 (X2.heap.size) 0 (#[.int .u32 (idW 0), .slice A4 n4 c4, .slice B4 m4 d4] : Array Value).toList = wS := ⟨_, rfl⟩
        rw [hwS] at xK xB xHKP xHNP ⊢
        replace HBW := Lib.hid xB
        replace KA5 := Lib.hid xK
        replace HKP := Lib.hid xHKP
        replace HNP := Lib.hid xHNP
        clear hwS xK xB xHKP xHNP
        refine hK.out _ _ ?_ (fun hHeld => ?_)
        · (try dsimp only)
          exact ⟨(K2.out.belowS HBW.out).cellV (i := 0) rfl, (K2.out.belowS HBW.out).cellV (i := 1) rfl, (K3.out.belowS HBW.out).cellV (i := 0) rfl, (K3.out.belowS HBW.out).cellV (i := 1) rfl⟩
        clear hK K
        refine wpAnyH_done (by kernel_rfl) ?_ _
        refine NoPanic.normal ?_
        go_wp2_with fail
        go_meet
        exact ⟨_, A4, n4, c4, B4, m4, d4, rfl, KA5.out, HKP.out, HNP.out, HBW.out⟩
  obtain ⟨g5, A, n, c, B, m, d, rfl, hk5, hkp, hnp, hbc⟩ := hcut
  have K5 := Lib.hid hk5
  have bx := fun (g : XW → SpW) (hg : ∀ x ∈ exX, (g x).ok) => (fun (x y : Int) (h : visW g exX (idW 0) x y = true) => vis_in (nodesW_ok (dwsX_up exX_ok)) (RW := 12) (RH := 10) (w' := 20) (h' := 20) (by decide) (fun k b hk hb x y ha => by have := bxS_area (m := 8) (dw_bd hg) hk hb ha; omega) h)
  have HK := Lib.hid (regP_one (r := ⟨0, 0, 2, 3⟩) hkp (by decide) (same_box (fun x y h => bx XW.b (fun x hx => (exX_ok x hx).2.2) x y (by unfold keptP at h; rw [Bool.and_eq_true] at h; exact h.1)) (fun x y h => by obtain ⟨q, hq, h1, h2, h3, h4⟩ := (inB_iff _ _ _).1 h; rw [List.mem_singleton] at hq; subst hq; dsimp only at h1 h2 h3 h4; omega) ex_kept))
  have HN := Lib.hid (regP_one (r := ⟨2, 0, 2, 3⟩) hnp (by decide) (same_box (fun x y h => bx XW.b (fun x hx => (exX_ok x hx).2.2) x y (by unfold newP at h; rw [Bool.and_eq_true] at h; exact h.1)) (fun x y h => by obtain ⟨q, hq, h1, h2, h3, h4⟩ := (inB_iff _ _ _).1 h; rw [List.mem_singleton] at hq; subst hq; dsimp only at h1 h2 h3 h4; omega) ex_new))
  replace HB := Lib.hid (bstep HB.out hbc)
  clear hk5 hkp hnp hbc bx HA HC K2 K3
  obtain ⟨X3, hX3⟩ : ∃ X3, X3 = wc := ⟨_, rfl⟩
  subst hX3
  have e0 := K5.out.cellV (i := 0) (v := .int .u32 (idW 0)) rfl
  have e1 := K5.out.cellV (i := 1) (v := .slice A n c) rfl
  have e2 := K5.out.cellV (i := 2) (v := .slice B m d) rfl
  go_wp2_with fail
  refine (Events_any (idW 0) A B n c m d [⟨2, 0, 2, 3⟩] _ (by decide) HN.out (by decide)).mono ?_
  rintro e w2 ⟨v, l, rfl, ho, hkey, hb⟩
  replace HB := Lib.hid (bstep HB.out hb)
  replace K5 := Lib.hid (K5.out.belowS hb)
  replace HK := Lib.hid (HK.out.below hb)
  replace HN := Lib.hid (HN.out.below hb)
  obtain ⟨Ao, co, rfl, hco⟩ := own_form ho.own
  have HL1 := Lib.hid (show l.length = 1 by have h1 := congrArg List.length hkey; rw [List.length_map] at h1; exact h1)
  have HO := Lib.hid ho
  have HKEY := Lib.hid hkey
  have e1n : ((l.length : Int) == 1) = true := by rw [HL1.out]; rfl
  clear ho hkey
  clear hb e0 e1 e2
  have e0 := K5.out.cellV (i := 0) (v := .int .u32 (idW 0)) rfl
  have e1 := K5.out.cellV (i := 1) (v := .slice A n c) rfl
  have e2 := K5.out.cellV (i := 2) (v := .slice B m d) rfl
  go_wp2_with fail
  refine (HK.out.area (n := 6) rfl).mono ?_
  rintro e w3 ⟨rfl, hb⟩
  replace HB := Lib.hid (bstep HB.out hb)
  replace K5 := Lib.hid (K5.out.belowS hb)
  replace HK := Lib.hid (HK.out.below hb)
  replace HN := Lib.hid (HN.out.below hb)
  replace HO := Lib.hid (HO.out.below hb)
  clear hb e0 e1 e2
  have e0 := K5.out.cellV (i := 0) (v := .int .u32 (idW 0)) rfl
  have e1 := K5.out.cellV (i := 1) (v := .slice A n c) rfl
  have e2 := K5.out.cellV (i := 2) (v := .slice B m d) rfl
  go_wp2_with fail
  refine (HN.out.area (n := 6) rfl).mono ?_
  rintro e w4 ⟨rfl, hb⟩
  replace HB := Lib.hid (bstep HB.out hb)
  replace K5 := Lib.hid (K5.out.belowS hb)
  replace HK := Lib.hid (HK.out.below hb)
  replace HN := Lib.hid (HN.out.below hb)
  replace HO := Lib.hid (HO.out.below hb)
  clear hb e0 e1 e2
  have e0 := K5.out.cellV (i := 0) (v := .int .u32 (idW 0)) rfl
  have e1 := K5.out.cellV (i := 1) (v := .slice A n c) rfl
  have e2 := K5.out.cellV (i := 2) (v := .slice B m d) rfl
  go_wp2_with fail
  refine (HN.out.has 2 0).mono ?_
  rintro e w5 ⟨rfl, hb⟩
  replace HB := Lib.hid (bstep HB.out hb)
  replace K5 := Lib.hid (K5.out.belowS hb)
  replace HK := Lib.hid (HK.out.below hb)
  replace HN := Lib.hid (HN.out.below hb)
  replace HO := Lib.hid (HO.out.below hb)
  clear hb e0 e1 e2
  rw [show inB [⟨2, 0, 2, 3⟩] 2 0 = true from by decide]
  have e0 := K5.out.cellV (i := 0) (v := .int .u32 (idW 0)) rfl
  have e1 := K5.out.cellV (i := 1) (v := .slice A n c) rfl
  have e2 := K5.out.cellV (i := 2) (v := .slice B m d) rfl
  go_wp2_with fail
  refine (id32_s 1 0 (by decide) _ (by decide)).mono ?_
  rintro e w6 ⟨rfl, hb⟩
  replace HB := Lib.hid (bstep HB.out hb)
  replace K5 := Lib.hid (K5.out.belowS hb)
  replace HK := Lib.hid (HK.out.below hb)
  replace HN := Lib.hid (HN.out.below hb)
  replace HO := Lib.hid (HO.out.below hb)
  clear hb e0 e1 e2
  have hba := bal (bre w6) (.cells #[.int .i64 2, .int .i64 0, .int .i64 2, .int .i64 3] 113)
  have HRR := Lib.hid (rd_new4 w6 2 0 2 3 113)
  have HO7 := Lib.hid (HO.out.below hba)
  have HB7 := Lib.hid (bstep HB.out hba)
  clear hba
  go_wp2_with (first | (refine wpList_bld rfl #[.int .i64 2, .int .i64 0, .int .i64 2, .int .i64 3] (by as_aux_lemma => kernel_rfl) ?_) | (refine wpList_recs rfl 58 113 1 _ rfl 4 _ j0 Tryz.underlying58 hj0 hy0 hy1 rfl (by decide) (by decide) (by decide) [.agg #[.int .i64 2, .int .i64 0, .int .i64 2, .int .i64 3]] (by simp [Value.cells]) rfl (by as_aux_lemma => kernel_rfl) #[.int .i64 2, .int .i64 0, .int .i64 2, .int .i64 3] rfl ?_))
  refine (refEvents_any 10 (idW 0) _ 1 1 [⟨2, 0, 2, 3⟩] _ (by decide) HRR.out (by decide)).mono ?_
  rintro e w8 ⟨v, l', rfl, ho, hkey, hb⟩
  obtain ⟨Aq, cq, rfl, hcq⟩ := own_form ho.own
  have HL2 := Lib.hid (show l'.length = 1 by have h1 := congrArg List.length hkey; rw [List.length_map] at h1; exact h1)
  have HQ := Lib.hid ho
  have HO8 := Lib.hid (HO7.out.below hb)
  have HB8 := Lib.hid (bstep HB7.out hb)
  have HKQ := Lib.hid (HKEY.out.trans hkey.symm)
  clear ho hkey hb
  have hq2 := HL2.out
  have hl2 := HL1.out
  rw [hq2, hl2]
  have hA := HO8.out.own
  rw [hl2] at hA
  have hQ := HQ.out.own
  rw [hq2] at hQ
  have HAQ := Lib.hid (And.intro hA hQ)
  have HLL := Lib.hid (And.intro hl2 hq2)
  clear hA hQ hq2 hl2
  go_wp2_with fail
  refine (refSame_any Ao Aq 1 co cq l l' _ (by decide) (RdF.of_own OV.cells_len HAQ.out.1 HLL.out.1) (RdF.of_own OV.cells_len HAQ.out.2 HLL.out.2) (fun o ho => ⟨Rd.of_own (HO8.out.each o ho), own_few' (HO8.out.each o ho)⟩) (fun o ho => Rd.of_own (HQ.out.each o ho)) HKQ.out).mono ?_
  rintro e w9 ⟨rfl, hb⟩
  have HB9 := Lib.hid (bstep HB8.out hb)
  clear hb
  go_wp2_with fail
  go_ret
  exact ⟨rfl, HB9.out⟩
end Go.Proofs.YtbkkecijcijhdaaGreat
end
