/-
  The walk of screen.Diff: the places at which two grids differ.
-/
import Derived.Test.YtdaedkolpfkdjaaGreatZVTS34H
import Derived.Test.YtdaedkolpfkdjaaGreatZV34
import Derived.Test.YtdaedkolpfkdjaaGreatZV01
import Derived.Test.YtdaedkolpfkdjaaGreatZV29
section
namespace Go.Proofs.YtdaedkolpfkdjaaGreat
open Go.RowKit Go.Maps Go.Shelf

/-- do two grids differ at a place? -/
def diffB (W H : Nat) (px qx : List Int) (x y : Int) : Bool := Gr.hasB W H x y && decide (Gr.gat W H px x y ≠ Gr.gat W H qx x y)
def dRow (W H : Nat) (px qx : List Int) (y m : Nat) : List RC := (List.range m).filterMap fun x : Nat => if Gr.gat W H px x y ≠ Gr.gat W H qx x y then some ⟨x, y, 1, 1⟩ else none
def dAll (W H : Nat) (px qx : List Int) (y : Nat) : List RC := (List.range y).flatMap fun y : Nat => dRow W H px qx y W
section
variable {W H : Nat} {px qx : List Int}
theorem dRow_yes {y m : Nat} (h : Gr.gat W H px m y ≠ Gr.gat W H qx m y) : dRow W H px qx y (m + 1) = dRow W H px qx y m ++ [⟨m, y, 1, 1⟩] := by
  unfold dRow
  rw [List.range_succ, List.filterMap_append]
  simp [h]
theorem dRow_no {y m : Nat} (h : ¬ Gr.gat W H px m y ≠ Gr.gat W H qx m y) : dRow W H px qx y (m + 1) = dRow W H px qx y m := by
  unfold dRow
  rw [List.range_succ, List.filterMap_append]
  have h' : Gr.gat W H px m y = Gr.gat W H qx m y := by simpa using h
  simp [h']
theorem dAll_succ (y : Nat) : dAll W H px qx (y + 1) = dAll W H px qx y ++ dRow W H px qx y W := by
  unfold dAll
  rw [List.range_succ, List.flatMap_append]
  simp
theorem dRow_len (y m : Nat) : (dRow W H px qx y m).length ≤ m := by
  unfold dRow
  exact Nat.le_trans (List.length_filterMap_le _ _) (by simp)
theorem dAll_len (y : Nat) : (dAll W H px qx y).length ≤ y * W := by
  have := flatT_le (fun y : Nat => dRow W H px qx y W) W (List.range y) (fun a _ => dRow_len a W)
  simpa [dAll] using this
theorem dAll_mem {y : Nat} {r : RC} : r ∈ dAll W H px qx y ↔ ∃ a b : Nat, a < W ∧ b < y ∧ Gr.gat W H px a b ≠ Gr.gat W H qx a b ∧ r = ⟨a, b, 1, 1⟩ := by
  unfold dAll dRow
  simp only [List.mem_flatMap, List.mem_filterMap, List.mem_range]
  constructor
  · rintro ⟨b, hb, a, ha, h⟩
    split at h
    · rename_i hne
      exact ⟨a, b, ha, hb, hne, by simpa using h.symm⟩
    · cases h
  · rintro ⟨a, b, ha, hb, hne, rfl⟩
    exact ⟨b, hb, a, ha, by rw [if_pos hne]⟩
theorem dAll_cnt (hW : W ≤ 128) (hH : H ≤ 128) {r : RC} (h : r ∈ dAll W H px qx H) : r.cnt = true := by
  obtain ⟨a, b, ha, hb, _, rfl⟩ := dAll_mem.1 h
  exact (cnt_iff _).2 (by dsimp only; omega)
theorem dAll_in (hW : W ≤ 128) (hH : H ≤ 128) (x y : Int) : InR ((dAll W H px qx H).filter RC.cnt) x y ↔ diffB W H px qx x y = true := by
  rw [List.filter_eq_self.2 (fun r hr => dAll_cnt hW hH hr)]
  unfold diffB InR
  rw [Bool.and_eq_true, Gr.has_iff, decide_eq_true_eq]
  constructor
  · rintro ⟨r, hr, h1, h2, h3, h4⟩
    obtain ⟨a, b, ha, hb, hne, rfl⟩ := dAll_mem.1 hr
    dsimp only at h1 h2 h3 h4
    obtain rfl : x = (a : Int) := by omega
    obtain rfl : y = (b : Int) := by omega
    exact ⟨by omega, hne⟩
  · rintro ⟨h, hne⟩
    obtain ⟨a, rfl⟩ : ∃ a : Nat, x = (a : Int) := ⟨x.toNat, by omega⟩
    obtain ⟨b, rfl⟩ : ∃ b : Nat, y = (b : Int) := ⟨y.toNat, by omega⟩
    exact ⟨⟨a, b, 1, 1⟩, dAll_mem.2 ⟨a, b, by omega, by omega, hne, rfl⟩, by dsimp only; omega, by dsimp only; omega, by dsimp only; omega, by dsimp only; omega⟩
theorem rowB_get (hl : px.length = W * H) (hp : Gr.Pix px) {x y : Nat} (hx : x < W) (hy : y < H) : ∃ q : UInt8, (Gr.rowB W H px y)[x]? = some q ∧ (q.toNat : Int) = Gr.gat W H px x y := by
  have hh : Gr.hasB W H x y = true := (Gr.has_iff _ _ _ _).2 (by omega)
  have hi := Gr.has_idx hh
  simp only [Int.toNat_natCast] at hi
  obtain ⟨p, hpx⟩ : ∃ p, px[y * W + x]? = some p := ⟨_, List.getElem?_eq_getElem (by rw [hl]; exact hi)⟩
  have hb := hp p (List.mem_of_getElem? hpx)
  refine ⟨UInt8.ofNat p.toNat, ?_, ?_⟩
  · unfold Gr.rowB Gr.B8
    rw [if_pos (by omega), List.getElem?_map, List.getElem?_take, if_pos hx, List.getElem?_drop]
    simp only [Int.toNat_natCast]
    rw [hpx]
    rfl
  · unfold Gr.gat
    rw [if_pos hh]
    simp only [Int.toNat_natCast]
    rw [List.getD_eq_getElem?_getD, hpx, UInt8.toNat_ofNat']
    simp only [Option.getD_some]
    omega
theorem rowB_length (hl : px.length = W * H) {y : Nat} (hy : y < H) : (Gr.rowB W H px y).length = W := by
  unfold Gr.rowB Gr.B8
  rw [if_pos (by omega), List.length_map, List.length_take, List.length_drop, hl, Int.toNat_natCast]
  have : (y + 1) * W ≤ H * W := Nat.mul_le_mul_right W (by omega)
  rw [Nat.add_mul, Nat.one_mul, Nat.mul_comm H W] at this
  omega
end
/-- a region out of rectangles that lie near. -/
theorem reg_near {w : World} {A : Option Addr} {out : List RC} {c : Nat} {P : Int → Int → Prop} (hr : RdR w A out.length out) (hc : Canon out) (hl : out.length ≤ 1000000000000) (hi : ∀ x y, InR out x y ↔ P x y) (hb : ∀ x y, P x y → (-1000 ≤ x ∧ x ≤ 1000) ∧ -1000 ≤ y ∧ y ≤ 1000) : RegAt w (.agg #[.slice A out.length c]) out :=
  ⟨A, c, rfl, hr, hc, hl, fun r hrr => by
    have hps := canon_pos hc r hrr
    have h1 := hb _ _ ((hi r.X r.Y).1 ⟨r, hrr, by omega, by omega, by omega, by omega⟩)
    have h2 := hb _ _ ((hi (r.X + r.W - 1) (r.Y + r.H - 1)).1 ⟨r, hrr, by omega, by omega, by omega, by omega⟩)
    exact (cnt_iff _).2 (by omega)⟩
set_option maxRecDepth 100000 in
set_option maxHeartbeats 8000000 in
theorem diff_any (W H : Nat) (px qx : List Int) (A B : Option Addr) (n c e0 : Nat) (w : World) (hn : n = W * H) (hW : 1 ≤ W ∧ W ≤ 128) (hH : 1 ≤ H ∧ H ≤ 128) (hc : n ≤ c) (he : n ≤ e0) (hr : Rd w A n (Gr.U8 px)) (hq : Rd w B n (Gr.U8 qx)) (hp : Gr.Pix px) (hpq : Gr.Pix qx) :
    Calls Tryz.prog 43 #[.agg #[.int .i64 W, .int .i64 H, .slice A n c], .agg #[.int .i64 W, .int .i64 H, .slice B n e0]] w fun e w' => ∃ A' out c', e = .returned (.tuple #[.agg #[.slice A' out.length c'], .int .i64 0]) ∧ RegAt w' (.agg #[.slice A' out.length c']) out ∧ (∀ x y, inB out x y = diffB W H px qx x y) ∧ Below w.heap.size w w' := by
  have hpl : px.length = W * H := by rw [← hn]; simpa [Gr.U8] using hr.1
  have hql : qx.length = W * H := by rw [← hn]; simpa [Gr.U8] using hq.1
  have hWH : H * W ≤ 16384 := by rw [Nat.mul_comm]; exact Gr.mul_le_128 hW.2 hH.2
  obtain ⟨j0, hj0, hy0, hy1, hy2⟩ := info_parts Tryz.infoR
  have HR := Lib.hid hr
  have HQ := Lib.hid hq
  have HN := Lib.hid hn
  have HPL := Lib.hid hpl
  have HQL := Lib.hid hql
  have HWH := Lib.hid hWH
  clear hr hq hn hpl hql hWH
  have xb := bal (bal (bal (bre w) (.cells #[.int .i64 W, .int .i64 H, .slice A n c] 75)) (.cells #[.int .i64 W, .int .i64 H, .slice B n e0] 75)) (.cells #[.slice none 0 0] 57)
  have x2 := ((Blk.new w 75 #[.int .i64 W, .int .i64 H, .slice A n c]).alloc (.cells #[.int .i64 W, .int .i64 H, .slice B n e0] 75)).alloc (.cells #[.slice none 0 0] 57)
  have x3 := (blk_new2 w (.cells #[.int .i64 W, .int .i64 H, .slice A n c] 75) 75 #[.int .i64 W, .int .i64 H, .slice B n e0]).alloc (.cells #[.slice none 0 0] 57)
  have x4 := blk_new3 w (.cells #[.int .i64 W, .int .i64 H, .slice A n c] 75) (.cells #[.int .i64 W, .int .i64 H, .slice B n e0] 75) 57 #[.slice none 0 0]
  go_enter Tryz.func43, Tryz.ntmps43
  go_upto_region 1 with fail
  obtain ⟨X, hX⟩ : ∃ X, ((w.alloc (.cells #[.int .i64 W, .int .i64 H, .slice A n c] 75)).alloc (.cells #[.int .i64 W, .int .i64 H, .slice B n e0] 75)).alloc (.cells #[.slice none 0 0] 57) = X := ⟨_, rfl⟩
  have hsz : X.heap.size = w.heap.size + 1 + 1 + 1 := by rw [← hX]; simp
  rw [hX] at xb x2 x3 x4 ⊢
  have HB := Lib.hid xb
  have K2 := Lib.hid x2
  have K3 := Lib.hid x3
  have K4 := Lib.hid x4
  have HSZ := Lib.hid hsz
  have a0 := x2.cellV (i := 0) (v := .int .i64 W) rfl
  have a1 := x2.cellV (i := 1) (v := .int .i64 H) rfl
  have a2 := x2.cellV (i := 2) (v := .slice A n c) rfl
  clear xb x2 x3 x4 hX hsz
  go_wp2_with fail
  refine (Gr.size_any W H A n c _).mono ?_
  rintro e w1 ⟨rfl, hb1⟩
  replace K2 := Lib.hid (K2.out.belowS hb1)
  replace K3 := Lib.hid (K3.out.belowS hb1)
  replace K4 := Lib.hid (K4.out.belowS hb1)
  replace HB := Lib.hid (bstep HB.out hb1)
  have HS1 := Lib.hid (show w.heap.size + 1 + 1 + 1 ≤ w1.heap.size by rw [← HSZ.out]; exact hb1.size)
  have a0 := K3.out.cellV (i := 0) (v := .int .i64 W) rfl
  have a1 := K3.out.cellV (i := 1) (v := .int .i64 H) rfl
  have a2 := K3.out.cellV (i := 2) (v := .slice B n e0) rfl
  clear hb1
  go_wp2_with fail
  refine (Gr.size_any W H B n e0 _).mono ?_
  rintro e w2 ⟨rfl, hb2⟩
  replace K2 := Lib.hid (K2.out.belowS hb2)
  replace K3 := Lib.hid (K3.out.belowS hb2)
  replace K4 := Lib.hid (K4.out.belowS hb2)
  replace HB := Lib.hid (bstep HB.out hb2)
  replace HS1 := Lib.hid (show w.heap.size + 1 + 1 + 1 ≤ w2.heap.size from Nat.le_trans HS1.out hb2.size)
  clear hb2 a0 a1 a2
  go_wp2_with fail
  go_loopw [35, 10, 11, 12, 13, 14] (fun i s10 _ _ _ _ wr => ∃ (y : Nat) (Al : Option Addr) (cl : Nat), i = .int .i64 y ∧ y ≤ H ∧ s10 = .slice Al (dAll W H px qx y).length cl ∧ wr.ownsRow (w.heap.size + 1 + 1 + 1) 103 4 (.slice Al (dAll W H px qx y).length cl) (dAll W H px qx y).length (rcs (dAll W H px qx y)) ∧ (Blk wr w.heap.size 75 #[.int .i64 W, .int .i64 H, .slice A n c] ∧ Blk wr (w.heap.size + 1) 75 #[.int .i64 W, .int .i64 H, .slice B n e0] ∧ Blk wr (w.heap.size + 1 + 1) 57 #[.slice none 0 0]) ∧ w.heap.size + 1 + 1 + 1 ≤ wr.heap.size ∧ Below w.heap.size w wr) (fun i _ _ _ _ _ _ => H - (intOf i).toNat)
  case atStart => exact ⟨0, none, 0, rfl, by omega, rfl, World.ownsRow_nil _ _ _ _, ⟨K2.out, K3.out, K4.out⟩, HS1.out, HB.out⟩
  case round =>
    obtain ⟨y, Al, cl, rfl, hy, rfl, hown, ⟨hk2, hk3, hk4⟩, hsz, hbr⟩ := hrel
    replace K2 := Lib.hid hk2
    replace K3 := Lib.hid hk3
    replace K4 := Lib.hid hk4
    replace HS1 := Lib.hid hsz
    replace HB := Lib.hid hbr
    have HO := Lib.hid hown
    clear hk2 hk3 hk4 hsz hbr hown
    have hdl := dAll_len (W := W) (H := H) (px := px) (qx := qx) y
    have hdl2 : (dAll W H px qx y).length ≤ 16384 := Nat.le_trans hdl (Nat.le_trans (Nat.mul_le_mul_right W hy) HWH.out)
    have HDL := Lib.hid hdl2
    clear hdl hdl2
    by_cases hlt : y < H
    · obtain ⟨r1, hr1⟩ : ∃ r, Gr.rowB W H px (y : Int) = r := ⟨_, rfl⟩
      obtain ⟨r2, hr2⟩ : ∃ r, Gr.rowB W H qx (y : Int) = r := ⟨_, rfl⟩
      have HR1 := Lib.hid hr1
      have HR2 := Lib.hid hr2
      have HRL := Lib.hid (show r1.length = W ∧ r2.length = W from ⟨hr1 ▸ rowB_length HPL.out hlt, hr2 ▸ rowB_length HQL.out hlt⟩)
      have y0 : (0 : Int) ≤ (y : Int) := by omega
      have y1 : (y : Int) < (H : Int) := by omega
      clear hr1 hr2
      go_upto_region 9 with fail
      go_cut [12, 13] from 38 to 61 (fun s12 s13 wx => s12 = .string ⟨r1.toArray⟩ ∧ s13 = .string ⟨r2.toArray⟩ ∧ Below wr.heap.size wr wx)
      case first =>
        as_aux_lemma =>
          have HBW := Lib.hid (show Below wr.heap.size wr wr.drew from (bre wr).drew)
          have KW := Lib.hid (fun (W' : World) (h : Below wr.heap.size wr W') => show (fun w' => w'.cell? ⟨w.heap.size, 0, none⟩ = some (.int .i64 W) ∧ w'.cell? ⟨w.heap.size, 1, none⟩ = some (.int .i64 H) ∧ w'.cell? ⟨w.heap.size, 2, none⟩ = some (.slice A n c) ∧ w'.cell? ⟨w.heap.size + 1, 0, none⟩ = some (.int .i64 W) ∧ w'.cell? ⟨w.heap.size + 1, 1, none⟩ = some (.int .i64 H) ∧ w'.cell? ⟨w.heap.size + 1, 2, none⟩ = some (.slice B n e0)) W' from ⟨(K2.out.belowS h).cellV (i := 0) rfl, (K2.out.belowS h).cellV (i := 1) rfl, (K2.out.belowS h).cellV (i := 2) rfl, (K3.out.belowS h).cellV (i := 0) rfl, (K3.out.belowS h).cellV (i := 1) rfl, (K3.out.belowS h).cellV (i := 2) rfl⟩)
          refine wp_region_noPanic ?_
          refine wp_region_held_drew (S := (fun w' => w'.cell? ⟨w.heap.size, 0, none⟩ = some (.int .i64 W) ∧ w'.cell? ⟨w.heap.size, 1, none⟩ = some (.int .i64 H) ∧ w'.cell? ⟨w.heap.size, 2, none⟩ = some (.slice A n c) ∧ w'.cell? ⟨w.heap.size + 1, 0, none⟩ = some (.int .i64 W) ∧ w'.cell? ⟨w.heap.size + 1, 1, none⟩ = some (.int .i64 H) ∧ w'.cell? ⟨w.heap.size + 1, 2, none⟩ = some (.slice B n e0))) (by kernel_rfl) ?_ (fun hHeld => ?_)
          · (try dsimp only)
            exact ⟨(K2.out.belowS HBW.out).cellV (i := 0) rfl, (K2.out.belowS HBW.out).cellV (i := 1) rfl, (K2.out.belowS HBW.out).cellV (i := 2) rfl, (K3.out.belowS HBW.out).cellV (i := 0) rfl, (K3.out.belowS HBW.out).cellV (i := 1) rfl, (K3.out.belowS HBW.out).cellV (i := 2) rfl⟩
          refine Tr.take_at 0 38 (.agg #[.int .i64 W, .int .i64 H, .slice A n c]) rfl rfl (by kernel_rfl) (by kernel_rfl) (by kernel_rfl) (fun _ _ _ h => h) (Or.inl ⟨by rfl, ?_⟩) (by assumption) ?_
          · intro W0 hSw
            (try dsimp only at hSw)
            go_simp
          simp only [List.set_cons_zero, List.set_cons_succ]
          refine Tr.take_at 1 39 (.int .i64 y) rfl rfl (by kernel_rfl) (by kernel_rfl) (by kernel_rfl) (fun _ _ _ h => h) (Or.inl ⟨by rfl, ?_⟩) (by assumption) ?_
          · intro W0 hSw
            (try dsimp only at hSw)
            go_simp
          simp only [List.set_cons_zero, List.set_cons_succ]
          refine Tr.take_at 3 41 (.agg #[.int .i64 W, .int .i64 H, .slice B n e0]) rfl rfl (by kernel_rfl) (by kernel_rfl) (by kernel_rfl) (fun _ _ _ h => h) (Or.inl ⟨by rfl, ?_⟩) (by assumption) ?_
          · intro W0 hSw
            (try dsimp only at hSw)
            go_simp
          simp only [List.set_cons_zero, List.set_cons_succ]
          refine Tr.take_at 4 42 (.int .i64 y) rfl rfl (by kernel_rfl) (by kernel_rfl) (by kernel_rfl) (fun _ _ _ h => h) (Or.inl ⟨by rfl, ?_⟩) (by assumption) ?_
          · intro W0 hSw
            (try dsimp only at hSw)
            go_simp
          simp only [List.set_cons_zero, List.set_cons_succ]
          refine wpAnyH_ready (rs := [2]) (by kernel_rfl) (by simp) ?_
          refine AllReadyH.cons rfl (fun K hK => ?_) AllReadyH.nil
          go_simp
          refine (Gr.row_any W H px (y : Int) A n c _ HN.out hW hH.2 hc (HR.out.below (bstep HB.out HBW.out)) hp).mono ?_
          rintro e wc1 ⟨rfl, hbA⟩
          rw [HR1.out]
          replace HBW := Lib.hid (bstep HBW.out hbA)
          clear hbA
          go_simp
          refine hK.out _ _ (KW.out _ HBW.out) (fun hHeld => ?_)
          clear hK K
          refine wpAnyH_ready (rs := [5]) (by kernel_rfl) (by simp) ?_
          refine AllReadyH.cons rfl (fun K hK => ?_) AllReadyH.nil
          go_simp
          refine (Gr.row_any W H qx (y : Int) B n e0 _ HN.out hW hH.2 he (HQ.out.below (bstep HB.out HBW.out)) hpq).mono ?_
          rintro e wc2 ⟨rfl, hbA⟩
          rw [HR2.out]
          replace HBW := Lib.hid (bstep HBW.out hbA)
          clear hbA
          go_simp
          refine hK.out _ _ (KW.out _ HBW.out) (fun hHeld => ?_)
          clear hK K
          refine Tr.take_at 6 12 (.string ⟨r1.toArray⟩) rfl rfl (by kernel_rfl) (by kernel_rfl) (by kernel_rfl) (fun _ _ _ h => h) (Or.inl ⟨by rfl, ?_⟩) (by assumption) ?_
          · intro W0 hSw
            (try dsimp only at hSw)
            go_simp
          simp only [List.set_cons_zero, List.set_cons_succ]
          refine Tr.take_at 7 13 (.string ⟨r2.toArray⟩) rfl rfl (by kernel_rfl) (by kernel_rfl) (by kernel_rfl) (fun _ _ _ h => h) (Or.inl ⟨by rfl, ?_⟩) (by assumption) ?_
          · intro W0 hSw
            (try dsimp only at hSw)
            go_simp
          simp only [List.set_cons_zero, List.set_cons_succ]
          refine wpAnyH_done (by kernel_rfl) ?_ _
          refine NoPanic.normal ?_
          go_wp2_with fail
          go_meet
          exact ⟨rfl, rfl, HBW.out⟩
      obtain ⟨rfl, rfl, hbc⟩ := hcut
      replace K2 := Lib.hid (K2.out.belowS hbc)
      replace K3 := Lib.hid (K3.out.belowS hbc)
      replace K4 := Lib.hid (K4.out.belowS hbc)
      replace HS1 := Lib.hid (Nat.le_trans HS1.out hbc.size)
      replace HB := Lib.hid (bstep HB.out hbc)
      replace HO := Lib.hid (ownsRow_below HO.out hbc)
      clear hbc
      go_wp2_with fail
      go_loopw [45, 10, 14] (fun i s10 _ wr => ∃ (m : Nat) (Al : Option Addr) (cl : Nat), i = .int .i64 m ∧ m ≤ W ∧ s10 = .slice Al (dAll W H px qx y ++ dRow W H px qx y m).length cl ∧ wr.ownsRow (w.heap.size + 1 + 1 + 1) 103 4 (.slice Al (dAll W H px qx y ++ dRow W H px qx y m).length cl) (dAll W H px qx y ++ dRow W H px qx y m).length (rcs (dAll W H px qx y ++ dRow W H px qx y m)) ∧ (Blk wr w.heap.size 75 #[.int .i64 W, .int .i64 H, .slice A n c] ∧ Blk wr (w.heap.size + 1) 75 #[.int .i64 W, .int .i64 H, .slice B n e0] ∧ Blk wr (w.heap.size + 1 + 1) 57 #[.slice none 0 0]) ∧ w.heap.size + 1 + 1 + 1 ≤ wr.heap.size ∧ Below w.heap.size w wr) (fun i _ _ _ => W - (intOf i).toNat)
      case atStart => exact ⟨0, Al, cl, rfl, by omega, by simp [dRow], by simpa [dRow] using HO.out, ⟨K2.out, K3.out, K4.out⟩, HS1.out, HB.out⟩
      case round =>
        obtain ⟨m, Al2, cl2, rfl, hm, rfl, hown, ⟨hk2, hk3, hk4⟩, hsz, hbr⟩ := hrel
        replace K2 := Lib.hid hk2
        replace K3 := Lib.hid hk3
        replace K4 := Lib.hid hk4
        replace HS1 := Lib.hid hsz
        replace HB := Lib.hid hbr
        have hrl := dRow_len (W := W) (H := H) (px := px) (qx := qx) y m
        obtain ⟨ls, hls⟩ : ∃ ls, dAll W H px qx y ++ dRow W H px qx y m = ls := ⟨_, rfl⟩
        have hlb : ls.length ≤ 20000 := by rw [← hls, List.length_append]; have := HDL.out; omega
        have HLS := Lib.hid hls
        rw [hls] at hown ⊢
        replace HO := Lib.hid hown
        clear hk2 hk3 hk4 hsz hbr hrl hls hown
        by_cases hlt2 : m < W
        · obtain ⟨q1, hq1, e1⟩ := rowB_get (W := W) (H := H) (px := px) HPL.out hp hlt2 hlt
          obtain ⟨q2, hq2, e2⟩ := rowB_get (W := W) (H := H) (px := qx) HQL.out hpq hlt2 hlt
          rw [HR1.out] at hq1
          rw [HR2.out] at hq2
          have HE1 := Lib.hid e1
          have HE2 := Lib.hid e2
          have k0 : (0 : Int) ≤ (m : Int) := by omega
          have k1 : (m : Int) < (W : Int) := by omega
          have l1 : (m : Int) < (r1.length : Int) := by have := HRL.out.1; omega
          have l2 : (m : Int) < (r2.length : Int) := by have := HRL.out.2; omega
          have n1 : m < r1.length := by omega
          have n2 : m < r2.length := by omega
          have g1 : r1[m] = q1 := by have := List.getElem?_eq_some_iff.1 hq1; exact this.2
          have g2 : r2[m] = q2 := by have := List.getElem?_eq_some_iff.1 hq2; exact this.2
          have s1 : (⟨r1.toArray⟩ : ByteArray)[m]'(by show m < r1.toArray.size; simpa using n1) = q1 := str_at hq1 _
          have s2 : (⟨r2.toArray⟩ : ByteArray)[m]'(by show m < r2.toArray.size; simpa using n2) = q2 := str_at hq2 _
          by_cases hne : Gr.gat W H px m y ≠ Gr.gat W H qx m y
          · have hb : ((q1.toNat : Int) != (q2.toNat : Int)) = true := by rw [e1, e2]; simpa using hne
            have hq : ¬ q1 = q2 := fun e => hne (by rw [← e1, ← e2, e])
            have hq' : ¬ q1.toNat = q2.toNat := fun e => hne (by rw [← e1, ← e2, e])
            clear e1 e2 hq1 hq2
            go_upto_region 13 with fail
            go_region
            have hd : Below wr.heap.size wr wr.drew := (bre wr).drew
            have z2 := K2.out.belowS hd
            have z3 := K3.out.belowS hd
            have z4 := K4.out.belowS hd
            have z5 := Nat.le_trans HS1.out hd.size
            have z6 := bstep HB.out hd
            have z7 := ownsRow_below HO.out hd
            obtain ⟨V, hV⟩ : ∃ V, wr.drew = V := ⟨_, rfl⟩
            rw [hV] at z2 z3 z4 z5 z6 z7 ⊢
            replace K2 := Lib.hid z2
            replace K3 := Lib.hid z3
            replace K4 := Lib.hid z4
            replace HS1 := Lib.hid z5
            replace HB := Lib.hid z6
            replace HO := Lib.hid z7
            clear hd z2 z3 z4 z5 z6 z7 hV k0 k1 l1 l2 n1 n2 g1 g2 s1 s2 hb hq hq'
            go_wp2_with (at_builtin; refine wpList_append_own _ rfl _ _ 31 rfl (w.heap.size + 1 + 1 + 1) 103 j0 _ 4 32 Tryz.underlying31 hj0 hy0 hy1 hy2 rfl (by decide) (.slice Al2 ls.length cl2) ls.length (rcs ls) rfl (HO.out.alloc _) ⟨V.heap.size, 0, none⟩ 1 1 [.int .i64 m, .int .i64 y, .int .i64 1, .int .i64 1] rfl rfl (news_new _ [.int .i64 m, .int .i64 y, .int .i64 1, .int .i64 1] _) (by simp [Value.oneCell']) (by simp only [maxLen]; omega) (by omega) (by have := HS1.out; simp; omega) ?_; intro v' w4 hown' hgrow _; obtain ⟨A9, c9, rfl, _⟩ := own_form hown'; have HO9 := Lib.hid hown'; have B2 := Lib.hid ((K2.out.alloc (.cells #[.int .i64 m, .int .i64 y, .int .i64 1, .int .i64 1] 103)).grown hgrow (fun e => by have := own_ge HO.out _ e.symm; omega)); have B3 := Lib.hid ((K3.out.alloc (.cells #[.int .i64 m, .int .i64 y, .int .i64 1, .int .i64 1] 103)).grown hgrow (fun e => by have := own_ge HO.out _ e.symm; omega)); have B4 := Lib.hid ((K4.out.alloc (.cells #[.int .i64 m, .int .i64 y, .int .i64 1, .int .i64 1] 103)).grown hgrow (fun e => by have := own_ge HO.out _ e.symm; omega)); have HB9 := Lib.hid ((bal HB.out (.cells #[.int .i64 m, .int .i64 y, .int .i64 1, .int .i64 1] 103)).grown hgrow (bal HB.out _).size (fun q e => by have := own_ge HO.out q e; omega)); have HS9 := Lib.hid (show w.heap.size + 1 + 1 + 1 ≤ w4.heap.size from Nat.le_trans (Nat.le_trans HS1.out (by simp)) hgrow.size); clear hown' hgrow)
            have hl2 : dAll W H px qx y ++ dRow W H px qx y (m + 1) = ls ++ [⟨m, y, 1, 1⟩] := by rw [dRow_yes hne, ← List.append_assoc, HLS.out]
            have HL2 := Lib.hid hl2
            clear hl2
            go_roundw
            case rel =>
              refine ⟨m + 1, A9, c9, by go_num, by omega, by rw [HL2.out, List.length_append]; rfl, ?_, ⟨B2.out, B3.out, B4.out⟩, HS9.out, HB9.out⟩
              rw [HL2.out, List.length_append, rcs_append]
              exact HO9.out
            case measure => simp [intOf]; omega
          · have hb : ((q1.toNat : Int) != (q2.toNat : Int)) = false := by rw [e1, e2]; simpa using hne
            have hqi : (q1.toNat : Int) = (q2.toNat : Int) := by rw [e1, e2]; simpa using hne
            have hq : q1 = q2 := UInt8.toNat_inj.1 (by omega)
            clear hqi
            have hq' : q1.toNat = q2.toNat := by rw [hq]
            clear e1 e2 hq1 hq2
            go_upto_region 13 with fail
            go_region
            have hd : Below wr.heap.size wr wr.drew := (bre wr).drew
            have z2 := K2.out.belowS hd
            have z3 := K3.out.belowS hd
            have z4 := K4.out.belowS hd
            have z5 := Nat.le_trans HS1.out hd.size
            have z6 := bstep HB.out hd
            have z7 := ownsRow_below HO.out hd
            obtain ⟨V, hV⟩ : ∃ V, wr.drew = V := ⟨_, rfl⟩
            rw [hV] at z2 z3 z4 z5 z6 z7 ⊢
            replace K2 := Lib.hid z2
            replace K3 := Lib.hid z3
            replace K4 := Lib.hid z4
            replace HS1 := Lib.hid z5
            replace HB := Lib.hid z6
            replace HO := Lib.hid z7
            clear hd z2 z3 z4 z5 z6 z7 hV k0 k1 l1 l2 n1 n2 g1 g2 s1 s2 hb hq hq'
            have HL2 := Lib.hid (show dAll W H px qx y ++ dRow W H px qx y (m + 1) = ls by rw [dRow_no hne, HLS.out])
            go_wp2_with fail
            go_roundw
            case rel => exact ⟨m + 1, Al2, cl2, by go_num, by omega, by rw [HL2.out], by rw [HL2.out]; exact HO.out, ⟨K2.out, K3.out, K4.out⟩, HS1.out, HB.out⟩
            case measure => simp [intOf]; omega
        · obtain rfl : m = W := by omega
          have k1 : ¬ (m : Int) < (m : Int) := by omega
          have HL2 := Lib.hid (show dAll m H px qx (y + 1) = ls by rw [dAll_succ, HLS.out])
          go_wp2_with fail
          go_roundw
          case rel => exact ⟨y + 1, Al2, cl2, by go_num, by omega, by rw [HL2.out], by rw [HL2.out]; exact HO.out, ⟨K2.out, K3.out, K4.out⟩, HS1.out, HB.out⟩
          case measure => simp [intOf]; omega
    · obtain rfl : y = H := by omega
      have y1 : ¬ (y : Int) < (y : Int) := by omega
      have hrd := RdR.of_own HO.out rfl
      have HRD := Lib.hid hrd
      clear hrd
      go_wp2_with fail
      refine (of_any Al (dAll W y px qx y).length cl (dAll W y px qx y) _ (by have := HDL.out; omega) HRD.out (fun r hr => by obtain ⟨a, b, ha, hb, _, rfl⟩ := dAll_mem.1 hr; dsimp only; omega)).mono ?_
      rintro e w3 ⟨out, Ao, co, rfl, hro, hcan, hin, hlo, hb3⟩
      have hin2 : ∀ x z, InR out x z ↔ diffB W y px qx x z = true := fun x z => (hin x z).trans (dAll_in hW.2 hH.2 x z)
      have HRG := Lib.hid (reg_near (c := co) hro hcan hlo hin2 (fun x z h => by
        unfold diffB at h
        rw [Bool.and_eq_true, Gr.has_iff] at h
        omega))
      have HIN := Lib.hid (show ∀ x z, inB out x z = diffB W y px qx x z from fun x z => by rw [Bool.eq_iff_iff, inB_iff]; exact hin2 x z)
      replace K4 := Lib.hid (K4.out.belowS hb3)
      replace HB := Lib.hid (bstep HB.out hb3)
      clear hro hcan hin hin2 hlo hb3
      have c0 := K4.out.cellV (i := 0) (v := .slice none 0 0) rfl
      have f0 := K4.out.frozen 0
      have l4 := K4.out.lt
      go_wp2_with fail
      have h9 := K4.out.set_ 0 (.slice Ao out.length co)
      have r0 := h9.cellV (i := 0) (v := .slice Ao out.length co) rfl
      have xb := bset (p := ⟨w.heap.size + 1 + 1, 0, none⟩) HB.out (by show w.heap.size ≤ w.heap.size + 1 + 1; omega) (.slice Ao out.length co)
      have xr := HRG.out.farS K4.out (.slice Ao out.length co)
      exact bodyPost_ret (v := .tuple #[.agg #[.slice Ao out.length co], .int .i64 0]) (by simp [results, Tryz.results43, go_sem, r0]) rfl ⟨Ao, out, co, rfl, xr, HIN.out, xb⟩
set_option maxRecDepth 100000 in
set_option maxHeartbeats 8000000 in
theorem diff_no (W H V K : Nat) (A B : Option Addr) (n c m e0 : Nat) (w : World) (hne : W ≠ V) :
    Calls Tryz.prog 43 #[.agg #[.int .i64 W, .int .i64 H, .slice A n c], .agg #[.int .i64 V, .int .i64 K, .slice B m e0]] w fun e w' => e = .returned (.tuple #[.agg #[.slice none 0 0], .int .i64 17]) ∧ Below w.heap.size w w' := by
  have xb := bal (bal (bal (bre w) (.cells #[.int .i64 W, .int .i64 H, .slice A n c] 75)) (.cells #[.int .i64 V, .int .i64 K, .slice B m e0] 75)) (.cells #[.slice none 0 0] 57)
  have x2 := ((Blk.new w 75 #[.int .i64 W, .int .i64 H, .slice A n c]).alloc (.cells #[.int .i64 V, .int .i64 K, .slice B m e0] 75)).alloc (.cells #[.slice none 0 0] 57)
  have x3 := (blk_new2 w (.cells #[.int .i64 W, .int .i64 H, .slice A n c] 75) 75 #[.int .i64 V, .int .i64 K, .slice B m e0]).alloc (.cells #[.slice none 0 0] 57)
  have x4 := blk_new3 w (.cells #[.int .i64 W, .int .i64 H, .slice A n c] 75) (.cells #[.int .i64 V, .int .i64 K, .slice B m e0] 75) 57 #[.slice none 0 0]
  go_enter Tryz.func43, Tryz.ntmps43
  go_upto_region 1 with fail
  obtain ⟨X, hX⟩ : ∃ X, ((w.alloc (.cells #[.int .i64 W, .int .i64 H, .slice A n c] 75)).alloc (.cells #[.int .i64 V, .int .i64 K, .slice B m e0] 75)).alloc (.cells #[.slice none 0 0] 57) = X := ⟨_, rfl⟩
  rw [hX] at xb x2 x3 x4 ⊢
  have HB := Lib.hid xb
  have K3 := Lib.hid x3
  have K4 := Lib.hid x4
  have a0 := x2.cellV (i := 0) (v := .int .i64 W) rfl
  have a1 := x2.cellV (i := 1) (v := .int .i64 H) rfl
  have a2 := x2.cellV (i := 2) (v := .slice A n c) rfl
  clear xb x2 x3 x4 hX
  go_wp2_with fail
  refine (Gr.size_any W H A n c _).mono ?_
  rintro e w1 ⟨rfl, hb1⟩
  replace K3 := Lib.hid (K3.out.belowS hb1)
  replace K4 := Lib.hid (K4.out.belowS hb1)
  replace HB := Lib.hid (bstep HB.out hb1)
  have a0 := K3.out.cellV (i := 0) (v := .int .i64 V) rfl
  have a1 := K3.out.cellV (i := 1) (v := .int .i64 K) rfl
  have a2 := K3.out.cellV (i := 2) (v := .slice B m e0) rfl
  clear hb1
  go_wp2_with fail
  refine (Gr.size_any V K B m e0 _).mono ?_
  rintro e w2 ⟨rfl, hb2⟩
  replace K4 := Lib.hid (K4.out.belowS hb2)
  replace HB := Lib.hid (bstep HB.out hb2)
  have hb : ((W : Int) != (V : Int)) = true := by rw [bne_iff_ne]; omega
  have c0 := K4.out.cellV (i := 0) (v := .slice none 0 0) rfl
  have f0 := K4.out.frozen 0
  have l4 := K4.out.lt
  clear hb2 a0 a1 a2
  go_wp2_with fail
  have h9 := K4.out.set_ 0 (.slice none 0 0)
  have r0 := h9.cellV (i := 0) (v := .slice none 0 0) rfl
  have xb := bset (p := ⟨w.heap.size + 1 + 1, 0, none⟩) HB.out (by show w.heap.size ≤ w.heap.size + 1 + 1; omega) (.slice none 0 0)
  exact bodyPost_ret (v := .tuple #[.agg #[.slice none 0 0], .int .i64 17]) (by simp [results, Tryz.results43, go_sem, r0]) rfl ⟨rfl, xb⟩
end Go.Proofs.YtdaedkolpfkdjaaGreat
end
