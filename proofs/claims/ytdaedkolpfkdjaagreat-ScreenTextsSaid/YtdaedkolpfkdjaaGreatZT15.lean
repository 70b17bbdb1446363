/-
  band.Of: the region of the places that any of some rectangles has: its rectangles stand in their one order.
  What rule.join keeps in memory while it walks: the rows that are left, and what is written.
-/
import Derived.Test.YtdaedkolpfkdjaaGreatZT14
import Derived.Test.YtdaedkolpfkdjaaGreatZT12
section
namespace Go.Proofs.YtdaedkolpfkdjaaGreat
open Go.RowKit Go.Shelf Go.Lib Go.Sort

theorem of_below {w x w' : World} {B : Nat} (hb : Below w.heap.size w x) (hB : w.heap.size ≤ B) (k0 : x.heap.size = w'.heap.size) (k1 : w'.os = x.os) (k2 : w'.tape = x.tape) (k3 : w'.output = x.output) (k4 : ∀ i, i < B → w'.heap[i]? = x.heap[i]?) : Below w.heap.size w w' :=
  ⟨k1.trans hb.os, k2.trans hb.tape, k3.trans hb.output, by rw [← k0]; exact hb.size, fun i hi => (k4 i (by omega)).trans (hb.block i hi)⟩

/-- a row of rectangles lies in a block of rectangles. -/
def TyS (w : World) (A : Option Addr) (n : Nat) : Prop := n = 0 ∨ ∃ g cs, A = some ⟨g, 0, none⟩ ∧ Blk w g 103 cs
def TyV (w : World) (v : Value) : Prop := ∃ A n c, v = .agg #[.slice A n c] ∧ TyS w A n
theorem TyS.below {w w' : World} {A : Option Addr} {n : Nat} (h : TyS w A n) (hb : Below w.heap.size w w') : TyS w' A n := by
  rcases h with h | ⟨g, cs, e, h⟩
  · exact .inl h
  · exact .inr ⟨g, cs, e, h.belowS hb⟩
theorem TyS.set {w : World} {A : Option Addr} {n : Nat} (h : TyS w A n) {b : Nat} {t : TypeId} {cs : Array Value} (hB : Blk w b t cs) (ht : t ≠ 103) (i : Nat) (u : Value) : TyS (w.setCell ⟨b, i, none⟩ u) A n := by
  rcases h with h | ⟨g, cs', e, h⟩
  · exact .inl h
  · refine .inr ⟨g, cs', e, h.far (p := ⟨b, i, none⟩) (fun e' => ?_) u⟩
    simp only at e'
    subst e'
    have h1 := (show w.heap[g]? = _ from hB).symm.trans (show w.heap[g]? = _ from h)
    injection h1 with h1
    injection h1 with _ h2 _
    exact ht h2
theorem TyV.below {w w' : World} {v : Value} (h : TyV w v) (hb : Below w.heap.size w w') : TyV w' v := by
  obtain ⟨A, n, c, e, h⟩ := h
  exact ⟨A, n, c, e, h.below hb⟩
theorem TyV.set {w : World} {v : Value} (h : TyV w v) {b : Nat} {t : TypeId} {cs : Array Value} (hB : Blk w b t cs) (ht : t ≠ 103) (i : Nat) (u : Value) : TyV (w.setCell ⟨b, i, none⟩ u) v := by
  obtain ⟨A, n, c, e, h⟩ := h
  exact ⟨A, n, c, e, h.set hB ht i u⟩
set_option maxRecDepth 1000000 in
set_option maxHeartbeats 4000000 in
theorem of_anyT (A : Option Addr) (n c : Nat) (l : List RC) (w : World) (hn : n ≤ 100000) (hr : RdR w A n l) (hm : ∀ r ∈ l, r.X ≤ 9223372036854775807 ∧ r.Y ≤ 9223372036854775807) :
    Calls Tryz.prog 74 #[.slice A n c] w fun e w' => ∃ (out : List RC) (A' : Option Addr) (c' : Nat), e = .returned (.agg #[.slice A' out.length c']) ∧ RdR w' A' out.length out ∧ Canon out ∧ (∀ x y, InR out x y ↔ InR (l.filter RC.cnt) x y) ∧ out.length ≤ 1000000000000 ∧ TyS w' A' out.length ∧ Below w.heap.size w w' := by
  obtain ⟨i0, hi0, hz0, hz1, hz2⟩ := info_parts Tryz.infoR
  obtain ⟨l2, hl2⟩ : ∃ l2, l.filter RC.cnt = l2 := ⟨_, rfl⟩
  rw [hl2]
  have HL2 := Lib.hid hl2
  clear hl2
  have HR := Lib.hid hr
  have HM := Lib.hid hm
  clear hr hm
  refine (callsIn_wide (n := 5)).1 ?_
  refine callsIn_of_wp_marks Tryz.func74 rfl trivial ?_ rfl
  refine wpIn_wide.2 ?_
  simp only [Tryz.ntmps74, List.size_toArray, List.length_cons, List.length_nil, Nat.reduceAdd, Nat.reduceSub, Array.replicate_succ, Array.replicate_zero, List.push_toArray, List.append_toArray, List.nil_append, List.cons_append]
  go_upto_region 1 with fail
  have hb0 := bal (bre w) (.cells #[.slice none 0 0] 57)
  have bx := Blk.new w 57 #[.slice none 0 0]
  obtain ⟨Z, hZ⟩ : ∃ Z, w.alloc (.cells #[.slice none 0 0] 57) = Z := ⟨_, rfl⟩
  rw [hZ] at hb0 bx ⊢
  have BZ := Lib.hid hb0
  have BX := Lib.hid bx
  have RZ := Lib.hid (HR.out.below hb0)
  clear hb0 bx hZ
  go_wp2_with fail
  go_loopw [3, 20] (fun v i wr => ∃ k : Nat, i = .int .i64 k ∧ k ≤ n ∧ wr.ownsRow Z.heap.size 103 4 v (cntL l k).length (rcs (cntL l k)) ∧ Below Z.heap.size Z wr) (fun _ i _ => n - (intOf i).toNat)
  case atStart => exact ⟨0, rfl, by omega, by simpa [cntL, rcs] using World.ownsRow_nil Z Z.heap.size 103 4, bre Z⟩
  case round =>
    obtain ⟨k, rfl, hk, ho, hB⟩ := hrel
    have HO := Lib.hid ho
    have HB := Lib.hid hB
    have hBs := hB.size
    clear ho hB
    by_cases hlt : k < n
    · obtain ⟨x, hx⟩ : ∃ x, l[k]? = some x := ⟨_, List.getElem?_eq_getElem (by have := HR.out.1; omega)⟩
      obtain ⟨b, off, rfl, hbl, hc⟩ := (RZ.out.below HB.out).2 (by omega)
      obtain ⟨x0, x1, x2, x3⟩ := hc k x hx
      obtain ⟨m1, m2⟩ := HM.out x (List.mem_of_getElem? hx)
      have k0 : (0 : Int) ≤ (k : Int) := by omega
      have k1 : (k : Int) < (n : Int) := by omega
      have hcl := cntL_len l k
      have HX := Lib.hid hx
      clear hc hx
      go_upto_region 5 with fail
      have bV := bal (bre wr) (.cells #[.int .i64 x.X, .int .i64 x.Y, .int .i64 x.W, .int .i64 x.H] 103)
      have bx := Blk.new wr 103 #[.int .i64 x.X, .int .i64 x.Y, .int .i64 x.W, .int .i64 x.H]
      obtain ⟨V, hV⟩ : ∃ V, wr.alloc (.cells #[.int .i64 x.X, .int .i64 x.Y, .int .i64 x.W, .int .i64 x.H] 103) = V := ⟨_, rfl⟩
      obtain ⟨gb, hgb⟩ : ∃ gb, wr.heap.size = gb := ⟨_, rfl⟩
      rw [hV] at bV bx ⊢
      rw [hgb] at bx ⊢
      have BV := Lib.hid bV
      have BXV := Lib.hid bx
      have v0 := bx.cellV (i := 0) (v := .int .i64 x.X) rfl
      have v1 := bx.cellV (i := 1) (v := .int .i64 x.Y) rfl
      have v2 := bx.cellV (i := 2) (v := .int .i64 x.W) rfl
      have v3 := bx.cellV (i := 3) (v := .int .i64 x.H) rfl
      have vs := bV.size
      clear hV x0 x1 x2 x3 bx bV
      cases hcx : x.cnt
      · have HT := Lib.hid (cntL_no HX.out hcx)
        go_wp2_with (go_at_call 124; refine (bcounts_any x _ m1 m2).mono ?_; rintro e w' ⟨rfl, rfl⟩; rw [hcx])
        go_roundw
        case rel => exact ⟨k + 1, by go_num, by omega, by rw [HT.out]; exact ownsRow_below HO.out (bal BV.out _), bstep HB.out (bal BV.out _)⟩
        case measure => simp [intOf]; omega
      · have HT := Lib.hid (cntL_yes HX.out hcx)
        go_upto_region 6 with (go_at_call 124; refine (bcounts_any x _ m1 m2).mono ?_; rintro e w' ⟨rfl, rfl⟩; rw [hcx])
        have bW := bal BV.out (.cells #[.int .i64 x.X, .int .i64 x.Y, .int .i64 x.W, .int .i64 x.H] 103)
        have bx := BXV.out.alloc (.cells #[.int .i64 x.X, .int .i64 x.Y, .int .i64 x.W, .int .i64 x.H] 103)
        obtain ⟨W, hW⟩ : ∃ W, V.alloc (.cells #[.int .i64 x.X, .int .i64 x.Y, .int .i64 x.W, .int .i64 x.H] 103) = W := ⟨_, rfl⟩
        rw [hW] at bW bx ⊢
        have y0 := bx.cellV (i := 0) (v := .int .i64 x.X) rfl
        have y1 := bx.cellV (i := 1) (v := .int .i64 x.Y) rfl
        have y2 := bx.cellV (i := 2) (v := .int .i64 x.W) rfl
        have y3 := bx.cellV (i := 3) (v := .int .i64 x.H) rfl
        have OW := Lib.hid (ownsRow_below HO.out bW)
        have BW := Lib.hid (bstep HB.out bW)
        have ws := BW.out.size
        clear hW v0 v1 v2 v3 bx bW
        go_wp2_with (at_builtin; refine wpList_append_own _ rfl _ _ 31 rfl Z.heap.size 103 i0 _ 4 32 Tryz.underlying31 hi0 hz0 hz1 hz2 rfl (by decide) _ _ _ rfl (OW.out.alloc _) ⟨W.heap.size, 0, none⟩ 1 1 [.int .i64 x.X, .int .i64 x.Y, .int .i64 x.W, .int .i64 x.H] rfl rfl (four_new _ _ _ _ _ _) (by simp [Value.oneCell']) (by simp only [maxLen]; omega) (by omega) (by simp; omega) ?_; intro v' w4 hown' hgrow _)
        have hB4 : Below Z.heap.size Z w4 := (BW.out.alloc BW.out.size _).grown hgrow (by simp; omega) (own_ge OW.out)
        go_roundw
        case rel => exact ⟨k + 1, by go_num, by omega, by rw [HT.out, rcs_append, List.length_append]; exact hown', hB4⟩
        case measure => simp [intOf]; omega
    · obtain rfl : k = n := by omega
      have hal : cntL l k = l.filter RC.cnt := by
        unfold cntL
        rw [List.take_of_length_le (by rw [HR.out.1]; exact Nat.le_refl _)]
      have hcl := cntL_len l k
      have ho := HO.out
      have hl2c : ∀ r ∈ l2, r.cnt = true := fun r hr => by rw [← HL2.out] at hr; exact (List.mem_filter.1 hr).2
      rw [hal, HL2.out] at ho hcl
      obtain ⟨Aa, ca, rfl⟩ : ∃ Aa ca, u3 = .slice Aa l2.length ca := by
        rcases ho.2 with ⟨e1, e2⟩ | ⟨g, cap, cur, e1, _⟩
        · exact ⟨none, 0, by rw [e1, e2]⟩
        · exact ⟨_, _, e1⟩
      have HO2 := Lib.hid ho
      have HC2 := Lib.hid hl2c
      clear HO ho hal hl2c HL2 RZ HR HM
      go_upto_region 9 with (go_at_call 125; refine (sortYX_any Z.heap.size _ _ _ l2 _ HO2.out rfl (by omega)).mono ?_; rintro e w5 ⟨al, rfl, hperm, hsort, hown5, hgr5⟩; have HP := Lib.hid hperm; have HS := Lib.hid hsort; have HO5 := Lib.hid hown5; have HG5 := Lib.hid hgr5; clear hperm hsort hown5 hgr5)
      have hB5 : Below Z.heap.size Z w5 := HB.out.grown HG5.out HB.out.size (fun q e => own_ge HO2.out q e)
      have HB5 := Lib.hid hB5
      have hlen : al.length = l2.length := HP.out.length_eq
      have hzs := BZ.out.size
      have hz5 := hB5.size
      clear HG5 HO2 HB hB5
      by_cases h0 : l2.length = 0
      · obtain rfl : l2 = [] := List.eq_nil_of_length_eq_zero h0
        go_upto_region 10 with (go_at_call 129; refine (edges_zero _ _ _).mono ?_; rintro e w6 ⟨Ae, ce, rfl, hb6⟩; have HB6 := Lib.hid (bstep HB5.out hb6); clear hb6)
        have bV := bstep HB6.out (bal (bre w6) (.cells #[.slice none 0 0] 31))
        have bx := Blk.new w6 31 #[.slice none 0 0]
        have h6s := HB6.out.size
        go_wp2_with fail
        obtain ⟨V, hV⟩ : ∃ V, w6.alloc (.cells #[.slice none 0 0] 31) = V := ⟨_, rfl⟩
        obtain ⟨g7, hg7⟩ : ∃ g7, w6.heap.size = g7 := ⟨_, rfl⟩
        rw [hV] at bV bx ⊢
        rw [hg7] at bx h6s ⊢
        have BV := Lib.hid bV
        have BXV := Lib.hid bx
        clear bV bx hV hg7
        go_loopw [11] (fun i wr => i = .int .i64 0 ∧ wr = V) (fun _ _ => 0)
        case atStart => exact ⟨rfl, rfl⟩
        case round =>
          obtain ⟨rfl, hw⟩ := hrel
          rw [hw]
          clear hw
          have hlw := BX.out.lt
          have c7 := BXV.out.cellV (i := 0) (v := .slice none 0 0) rfl
          have hr := (BX.out.below BV.out (by omega)).cellV (i := 0) (v := .slice none 0 0) rfl
          have hrf := (BX.out.below BV.out (by omega)).frozen 0
          have hvs := BV.out.size
          go_wp2_with (go_at_call 135; refine (clip_nil _).mono ?_; rintro e w' ⟨rfl, rfl⟩)
          refine ⟨.agg #[.slice none 0 0], by simp [results, Tryz.results74, go_sem, hr], ⟨[], none, 0, rfl, ⟨rfl, fun h => absurd h (by simp)⟩, ⟨[], rfl, ⟨by simp, by simp, by simp⟩⟩, fun x y => Iff.rfl, Nat.zero_le _, .inl rfl, ?_⟩⟩
          have hb := BZ.out.trans (BV.out.mono hzs)
          exact bset hb (Nat.le_refl _) _
      · obtain ⟨ga, rfl⟩ : ∃ ga, Aa = some ⟨ga, 0, none⟩ := by
          rcases HO5.out.2 with ⟨_, e0⟩ | ⟨g, cap, cur, e1, _⟩
          · omega
          · injection e1 with e1 _ _
            exact ⟨g, e1⟩
        obtain ⟨hga, hca, hcm, rest, hba, _⟩ := own_rcs HO5.out
        have hra := RdR.of_blk hba
        rw [hlen] at hra
        have hcal : ∀ r ∈ al, r.cnt = true := fun r hr => HC2.out r (HP.out.mem_iff.1 hr)
        have HAC := Lib.hid hcal
        have hga5 := hba.lt
        have hsY : al.Pairwise (fun a b => a.Y ≤ b.Y) := HS.out.imp (by
          intro a b h
          rw [ltYX] at h
          simp at h
          omega)
        have HSY := Lib.hid hsY
        have HRA := Lib.hid hra
        clear HO5 HS hsY hcal hba hra HC2 hga hca hcm
        go_upto_region 10 with (go_at_call 129; refine (edges_any _ _ _ al _ (by omega) (by omega) HRA.out (fun r hr => cnt_ok (HAC.out r hr))).mono ?_; rintro e w6 ⟨gy, cy, ys, rfl, hys, hgy, hyr, hym, hb6⟩; have HYS := Lib.hid hys; have HYR := Lib.hid hyr; have HYM := Lib.hid hym; have HB6 := Lib.hid hb6; clear hys hyr hym hb6)
        have HRA6 := Lib.hid (HRA.out.below HB6.out)
        have BZ6 := Lib.hid (bstep HB5.out HB6.out)
        have H6 := HB6
        clear HRA HB6 HB5
        go_wp2_with fail
        have hyc : ∀ j y, ys[j]? = some y → gy < w6.heap.size ∧ w6.cell? ⟨gy, j, none⟩ = some (.int .i64 y) := fun j y hj => by
          have hjl := (List.getElem?_eq_some_iff.1 hj).1
          obtain ⟨b, off, e, hl, hc⟩ := HYS.out.2 (by omega)
          injection e with e
          injection e with e1 e2
          subst e1
          subst e2
          refine ⟨hl, ?_⟩
          have := hc j (.int .i64 y) (by simp [I64, hj])
          rwa [Nat.zero_add] at this
        have HYC := Lib.hid hyc
        clear hyc
        have HYS7 := Lib.hid (HYS.out.below (bal (bre w6) (.cells #[.slice none 0 0] 31)))
        have HRA7 := Lib.hid (HRA6.out.below (bal (bre w6) (.cells #[.slice none 0 0] 31)))
        have BV := Lib.hid (bstep BZ6.out (bal (bre w6) (.cells #[.slice none 0 0] 31)))
        have bx := Blk.new w6 31 #[.slice none 0 0]
        have h6s := BZ6.out.size
        obtain ⟨V, hV⟩ : ∃ V, w6.alloc (.cells #[.slice none 0 0] 31) = V := ⟨_, rfl⟩
        obtain ⟨g7, hg7⟩ : ∃ g7, w6.heap.size = g7 := ⟨_, rfl⟩
        rw [hV] at HYS7 HRA7 BV bx ⊢
        have hga7 : ga < g7 := by
          have := H6.out.size
          omega
        rw [hg7] at bx h6s HYC ⊢
        have BXV := Lib.hid bx
        have hyc : ∀ j y, ys[j]? = some y → gy < g7 ∧ V.cell? ⟨gy, j, none⟩ = some (.int .i64 y) := fun j y hj => by
          obtain ⟨h1, h2⟩ := HYC.out j y hj
          refine ⟨h1, ?_⟩
          rw [← hV]
          exact ((bal (bre w6) (.cells #[.slice none 0 0] 31)).cell (p := ⟨gy, j, none⟩) (by rw [hg7]; exact h1)).trans h2
        have HYV := Lib.hid hyc
        clear bx hV HYS HRA6 BZ6 hyc HYC
        have hyl : ys.length ≤ 2097153 := by
          have hin : ∀ y ∈ ys, -1048576 ≤ y ∧ y ≤ 1048576 := fun y hy => by
            obtain ⟨r, hr, h⟩ := (mem_ysL _ _).1 ((HYM.out y).1 hy)
            have := (cnt_iff r).1 (HAC.out r hr)
            omega
          refine Classical.byContradiction fun hc => ?_
          have h1 := rise_len HYR.out hin (k := 2097153) (by omega)
          have h2 := hin _ (List.getElem_mem (l := ys) (n := 2097153) (by omega))
          omega
        have hpos : 0 < ys.length := by
          cases al with
          | nil => simp at hlen; omega
          | cons r al => exact List.length_pos_of_mem ((HYM.out r.Y).2 ((mem_ysL _ _).2 ⟨r, by simp, .inl rfl⟩))
        have h7V := BXV.out.lt
        have hst : RelV V g7 al ys [] (.slice none 0 0) (.int .i64 0) (.int .i64 0) (.int .i64 0) V := by
          refine ⟨0, ys[0], [], [], 0, 0, .slice none 0 0, rfl, rfl, rfl, ⟨List.getElem?_eq_getElem hpos, of_start (fun r hr => edges_first HYR.out (List.getElem?_eq_getElem hpos) _ ((HYM.out r.Y).2 ((mem_ysL _ _).2 ⟨r, hr, .inl rfl⟩))), by simp, by simp, ⟨grown_of_below (bre V) _, BXV.out, ?_, ?_, fun g h => by cases h⟩, Marks.nil _ _⟩⟩
          · simpa [rcs] using World.ownsRow_nil V V.heap.size 103 4
          · simpa [rcs] using World.ownsRow_nil V V.heap.size 103 4
        have hC : OfCtx V g7 ga gy l2.length al ys := ⟨h7V, hga7, hlen, by omega, by omega, HYV.out, HRA7.out, HAC.out, HSY.out, HYR.out, HYM.out, hyl⟩
        refine of_loop V g7 ga gy l2.length _ _ al ys hC [] V _ _ _ _ _ _ _ _ _ _ _ _ _ _ _ _ _ _ _ _ _ _ _ _ _ _ _ _ _ _ _ _ _ _ _ _ _ _ _ _ _ _ _ _ _ _ _ _ _ _ _ _ _ _ _ _ _ _ _ _ _ _ _ _ _ _ _ _ _ _ _ _ _ _ _ _ _ _ _ _ _ _ _ _ _ _ _ _ _ _ _ _ _ _ _ _ _ _ _ _ _ _ _ _ _ _ _ _ _ _ _ _ _ _ _ _ _ _ _ _ _ _ _ _ _ _ _ _ _ _ _ _ hst ?_
        clear hst hC
        intro a' wr hI
        unfold WX at hI
        obtain ⟨u8, hI⟩ := hI
        obtain ⟨u9, hI⟩ := hI
        obtain ⟨u10, hI⟩ := hI
        obtain ⟨u11, hI⟩ := hI
        obtain ⟨u12, hI⟩ := hI
        obtain ⟨u13, hI⟩ := hI
        obtain ⟨u14, hI⟩ := hI
        obtain ⟨u15, hI⟩ := hI
        obtain ⟨u16, hI⟩ := hI
        obtain ⟨u17, hI⟩ := hI
        obtain ⟨u35, hI⟩ := hI
        obtain ⟨u36, hI⟩ := hI
        obtain ⟨u37, hI⟩ := hI
        obtain ⟨u38, hI⟩ := hI
        obtain ⟨u39, hI⟩ := hI
        obtain ⟨u40, hI⟩ := hI
        obtain ⟨u41, hI⟩ := hI
        obtain ⟨u42, hI⟩ := hI
        obtain ⟨u43, hI⟩ := hI
        obtain ⟨u44, hI⟩ := hI
        obtain ⟨u45, hI⟩ := hI
        obtain ⟨u46, hI⟩ := hI
        obtain ⟨u47, hI⟩ := hI
        obtain ⟨u48, hI⟩ := hI
        obtain ⟨u49, hI⟩ := hI
        obtain ⟨u50, hI⟩ := hI
        obtain ⟨u51, hI⟩ := hI
        obtain ⟨u52, hI⟩ := hI
        obtain ⟨u53, hI⟩ := hI
        obtain ⟨u54, hI⟩ := hI
        obtain ⟨u55, hI⟩ := hI
        obtain ⟨u56, hI⟩ := hI
        obtain ⟨u57, hI⟩ := hI
        obtain ⟨u58, hI⟩ := hI
        obtain ⟨u59, hI⟩ := hI
        obtain ⟨u60, hI⟩ := hI
        obtain ⟨u61, hI⟩ := hI
        obtain ⟨u62, hI⟩ := hI
        obtain ⟨u63, hI⟩ := hI
        obtain ⟨u64, hI⟩ := hI
        obtain ⟨u65, hI⟩ := hI
        obtain ⟨u66, hI⟩ := hI
        obtain ⟨u67, hI⟩ := hI
        obtain ⟨u68, hI⟩ := hI
        obtain ⟨u69, hI⟩ := hI
        obtain ⟨u70, hI⟩ := hI
        obtain ⟨u71, hI⟩ := hI
        obtain ⟨u72, hI⟩ := hI
        obtain ⟨u73, hI⟩ := hI
        obtain ⟨u74, hI⟩ := hI
        obtain ⟨u75, hI⟩ := hI
        obtain ⟨u76, hI⟩ := hI
        obtain ⟨u77, hI⟩ := hI
        obtain ⟨u78, hI⟩ := hI
        obtain ⟨u79, hI⟩ := hI
        obtain ⟨u80, hI⟩ := hI
        obtain ⟨u81, hI⟩ := hI
        obtain ⟨u82, hI⟩ := hI
        obtain ⟨u83, hI⟩ := hI
        obtain ⟨u84, hI⟩ := hI
        obtain ⟨u85, hI⟩ := hI
        obtain ⟨u86, hI⟩ := hI
        obtain ⟨u87, hI⟩ := hI
        obtain ⟨u88, hI⟩ := hI
        obtain ⟨u89, hI⟩ := hI
        obtain ⟨u90, hI⟩ := hI
        obtain ⟨u91, hI⟩ := hI
        obtain ⟨u92, hI⟩ := hI
        obtain ⟨u93, hI⟩ := hI
        obtain ⟨u94, hI⟩ := hI
        obtain ⟨u95, hI⟩ := hI
        obtain ⟨u96, hI⟩ := hI
        obtain ⟨u97, hI⟩ := hI
        obtain ⟨u98, hI⟩ := hI
        obtain ⟨u99, hI⟩ := hI
        obtain ⟨u100, hI⟩ := hI
        obtain ⟨u101, hI⟩ := hI
        obtain ⟨u102, hI⟩ := hI
        obtain ⟨u103, hI⟩ := hI
        obtain ⟨u104, hI⟩ := hI
        obtain ⟨u105, hI⟩ := hI
        obtain ⟨u106, hI⟩ := hI
        obtain ⟨u107, hI⟩ := hI
        obtain ⟨u108, hI⟩ := hI
        obtain ⟨u109, hI⟩ := hI
        obtain ⟨u110, hI⟩ := hI
        obtain ⟨u111, hI⟩ := hI
        obtain ⟨u112, hI⟩ := hI
        obtain ⟨u113, hI⟩ := hI
        obtain ⟨u114, hI⟩ := hI
        obtain ⟨u115, hI⟩ := hI
        obtain ⟨u116, hI⟩ := hI
        obtain ⟨u117, hI⟩ := hI
        obtain ⟨u118, hI⟩ := hI
        obtain ⟨u119, hI⟩ := hI
        obtain ⟨u120, hI⟩ := hI
        obtain ⟨u121, hI⟩ := hI
        obtain ⟨u122, hI⟩ := hI
        obtain ⟨u123, hI⟩ := hI
        obtain ⟨u124, hI⟩ := hI
        obtain ⟨u125, hI⟩ := hI
        obtain ⟨u126, hI⟩ := hI
        obtain ⟨u127, hI⟩ := hI
        obtain ⟨u128, hI⟩ := hI
        obtain ⟨u129, hI⟩ := hI
        obtain ⟨u130, hI⟩ := hI
        obtain ⟨ds, hE, ha⟩ := hI
        subst ha
        obtain ⟨k, v, out, row, above, next, vo, vr, hkk, R⟩ := hE
        have hmax : ∀ r ∈ al, r.Y + r.H ≤ v := fun r hr => edges_last HYR.out R.atv hkk _ ((HYM.out _).2 ((mem_ysL _ _).2 ⟨r, hr, .inr rfl⟩))
        obtain ⟨hca, hpl⟩ := of_end R.inv hmax
        have HCA := Lib.hid hca
        have HMM := Lib.hid R.mem
        have HMK := Lib.hid R.marks
        have hlw := BX.out.lt
        have hlt7 : Z.heap.size ≤ g7 := h6s
        have c7 := HMM.out.box.cellV (i := 0) (v := vo) rfl
        have hVs := BV.out.size
        have brx := (BX.out.below BV.out hlw).grown HMM.out.grown (by intro e; injection e with e; omega)
        have hrf := brx.frozen 0
        have hr0 := brx.cellV (i := 0) (v := .slice none 0 0) rfl
        have HBRX := Lib.hid brx
        have hbw : Below w.heap.size w wr := (BZ.out.trans (BV.out.mono hzs)).grown HMM.out.grown (by omega) (fun q e => by cases e; omega)
        have HBW := Lib.hid hbw
        have hmem : ∀ x y, InR out x y ↔ InR l2 x y := fun x y => (hpl x y).trans ⟨fun ⟨r, hr, h⟩ => ⟨r, HP.out.mem_iff.1 hr, h⟩, fun ⟨r, hr, h⟩ => ⟨r, HP.out.mem_iff.2 hr, h⟩⟩
        have HIM := Lib.hid hmem
        have hwV : w.heap.size ≤ V.heap.size := by omega
        have hol9 : out.length ≤ 1000000000000 := Nat.le_trans R.outLen (Nat.le_trans (Nat.mul_le_mul (show k ≤ 2097153 by omega) (show al.length ≤ 100000 by omega)) (by decide))
        clear hca hpl hmem hbw hmax hkk R brx
        rcases HMM.out.own.2 with ⟨e1, e0⟩ | ⟨g, cap, cur, e1, hgb, hgk, q1, q2, q3, q4⟩
        · have c8 := c7
          rw [e1] at c8
          clear c7
          obtain rfl : out = [] := List.eq_nil_of_length_eq_zero e0
          go_wp2_with (go_at_call 135; refine (clip_nil _).mono ?_; rintro e w' ⟨rfl, rfl⟩)
          refine leaves_marks ds _ (HMK.out.setCell _ _) (fun w' k0 k1 k2 k3 k4 k5 => ?_)
          have hb2 := bset HBW.out (p := ⟨w.heap.size, 0, none⟩) (Nat.le_refl _) (.slice none 0 0)
          have hr := (show Blk w' w.heap.size _ _ from k5 _ _ (HBRX.out.set_ 0 (.slice none 0 0)) rfl).cellV (i := 0) (v := .slice none 0 0) rfl
          refine ⟨.agg #[.slice none 0 0], by simp [results, Tryz.results74, go_sem, hr], ⟨[], none, 0, rfl, ⟨rfl, fun h => absurd h (by simp)⟩, HCA.out, HIM.out, hol9, .inl rfl, of_below hb2 hwV k0 k1 k2 k3 k4⟩⟩
        · have c8 := c7
          rw [e1] at c8
          clear c7
          have HB8 := Lib.hid (show Blk wr g 103 cur from hgk)
          have HQ4 := Lib.hid q4
          have hne : w.heap.size ≠ g := by omega
          clear hgk q3 q4
          go_wp2_with (go_at_call 135; refine (clip_any _ _ _ _ q1).mono ?_; rintro e w' ⟨rfl, rfl⟩)
          refine leaves_marks ds _ (HMK.out.setCell _ _) (fun w' k0 k1 k2 k3 k4 k5 => ?_)
          have hb2 := bset HBW.out (p := ⟨w.heap.size, 0, none⟩) (Nat.le_refl _) (.slice (some ⟨g, 0, none⟩) out.length out.length)
          have hr := (show Blk w' w.heap.size _ _ from k5 _ _ (HBRX.out.set_ 0 (.slice (some ⟨g, 0, none⟩) out.length out.length)) rfl).cellV (i := 0) (v := .slice (some ⟨g, 0, none⟩) out.length out.length) rfl
          have hbb : Blk wr g 103 (rcs out ++ cur.toList.drop (out.length * 4)).toArray := by
            rw [← HQ4.out, List.take_append_drop]
            exact HB8.out
          have hb3 := hbb.far (p := ⟨w.heap.size, 0, none⟩) (Ne.symm hne) (.slice (some ⟨g, 0, none⟩) out.length out.length)
          refine ⟨.agg #[.slice (some ⟨g, 0, none⟩) out.length out.length], by simp [results, Tryz.results74, go_sem, hr], ⟨out, some ⟨g, 0, none⟩, out.length, rfl, ?_, HCA.out, HIM.out, hol9, .inr ⟨g, (rcs out ++ cur.toList.drop (out.length * 4)).toArray, rfl, ?_⟩, of_below hb2 hwV k0 k1 k2 k3 k4⟩⟩
          · exact RdR.of_blk (show Blk w' g _ _ from k5 _ _ hb3 rfl)
          · exact k5 _ _ hb3 rfl
theorem of_any (A : Option Addr) (n c : Nat) (l : List RC) (w : World) (hn : n ≤ 100000) (hr : RdR w A n l) (hm : ∀ r ∈ l, r.X ≤ 9223372036854775807 ∧ r.Y ≤ 9223372036854775807) :
    Calls Tryz.prog 74 #[.slice A n c] w fun e w' => ∃ (out : List RC) (A' : Option Addr) (c' : Nat), e = .returned (.agg #[.slice A' out.length c']) ∧ RdR w' A' out.length out ∧ Canon out ∧ (∀ x y, InR out x y ↔ InR (l.filter RC.cnt) x y) ∧ out.length ≤ 1000000000000 ∧ Below w.heap.size w w' := by
  refine (of_anyT A n c l w hn hr hm).mono ?_
  rintro e w' ⟨out, A', c', rfl, h1, h2, h3, h4, _, h5⟩
  exact ⟨out, A', c', rfl, h1, h2, h3, h4, h5⟩

end Go.Proofs.YtdaedkolpfkdjaaGreat
end

section
namespace Go.Proofs.YtdaedkolpfkdjaaGreat
open Go.RowKit Go.Shelf

/-- a region's value: its rectangles. -/
def RegAt (w : World) (v : Value) (l : List RC) : Prop := ∃ A c, v = .agg #[.slice A l.length c] ∧ RdR w A l.length l ∧ Canon l ∧ l.length ≤ 1000000000000 ∧ ∀ r ∈ l, r.cnt = true
theorem RegAt.below {w w' : World} {v : Value} {l : List RC} (h : RegAt w v l) (hb : Below w.heap.size w w') : RegAt w' v l := by
  obtain ⟨A, c, e, h1, h2⟩ := h
  exact ⟨A, c, e, h1.below hb, h2⟩

theorem rcs_flat' {w : World} {b : Nat} (rs : List RC) : ∀ (off : Nat), (∀ i r, rs[i]? = some r → RcAt w b (off + i * 4) r) → ∀ j u, (rcs rs)[j]? = some u → w.cell? ⟨b, off + j, none⟩ = some u := by
  induction rs with
  | nil => intro off _ j u h; simp [rcs] at h
  | cons r rs ih =>
    intro off h j u hj
    obtain ⟨a0, a1, a2, a3⟩ := h 0 r rfl
    simp only [Nat.zero_mul, Nat.add_zero] at a0 a1 a2 a3
    have e : rcs (r :: rs) = .int .i64 r.X :: .int .i64 r.Y :: .int .i64 r.W :: .int .i64 r.H :: rcs rs := by simp [rcs, RC.cells]
    rw [e] at hj
    match j, hj with
    | 0, hj => simp at hj; subst hj; exact a0
    | 1, hj => simp at hj; subst hj; exact a1
    | 2, hj => simp at hj; subst hj; exact a2
    | 3, hj => simp at hj; subst hj; exact a3
    | j + 4, hj =>
      have := ih (off + 4) (fun i r' hi => by
        have := h (i + 1) r' (by simpa using hi)
        rwa [show off + (i + 1) * 4 = off + 4 + i * 4 from by omega] at this) j u (by simpa using hj)
      rwa [show off + (j + 4) = off + 4 + j from by omega]
theorem rcs_one' (rs : List RC) : ∀ u ∈ rcs rs, u.oneCell' = true := by
  intro u hu
  obtain ⟨r, _, hr⟩ := List.mem_flatMap.1 hu
  exact cells_one r u hr
theorem RdR_none {w : World} {A : Option Addr} {n : Nat} {rs : List RC} (h : RdR w A n rs) (hA : A = none) : n = 0 ∧ rs = [] := by
  have h0 : n = 0 := by
    refine Classical.byContradiction fun hn => ?_
    obtain ⟨b, off, e, _⟩ := h.2 (by omega)
    rw [hA] at e
    cases e
  exact ⟨h0, List.eq_nil_of_length_eq_zero (h.1.trans h0)⟩
/-- a new slice that reads as these rectangles. -/
def EndS (w : World) (n : Nat) (rs : List RC) (e : Ending) (w' : World) : Prop := ∃ A c, e = .returned (.slice A n c) ∧ RdR w' A n rs ∧ n ≤ c ∧ c ≤ maxLen ∧ Below w.heap.size w w'

set_option maxRecDepth 100000 in
set_option maxHeartbeats 1000000 in
theorem cloneR_any (A : Option Addr) (n c : Nat) (rs : List RC) (w : World) (hn : n ≤ 1000000000000) (hr : RdR w A n rs) :
    Calls Tryz.prog 181 #[.slice A n c] w fun e w' => EndS w n rs e w' := by
  obtain ⟨i0, hi0, hz0, hz1, hz2⟩ := info_parts Tryz.infoR
  have qn : ∀ (w : World) (a : Option Addr) (n c n' c' : Nat), (binOp .eql 31 (.slice a n c) (.slice none n' c')).run Tryz.prog w = .ok (.bool a.isNone) w := fun w a n c n' c' => Lib.run_eql_slice_nil w _ _ a n c n' c' Tryz.underlying31
  have HR := Lib.hid hr
  clear hr
  cases A with
  | none =>
    obtain ⟨rfl, rfl⟩ := RdR_none HR.out rfl
    go_enter Tryz.func181, Tryz.ntmps181
    go_wp2_with fail
    go_ret
    exact ⟨none, 0, rfl, ⟨rfl, fun h => absurd h (by omega)⟩, Nat.le_refl _, Nat.zero_le _, bre _⟩
  | some a =>
    go_enter Tryz.func181, Tryz.ntmps181
    have hown : (w.alloc (.cells #[] 103)).ownsRow w.heap.size 103 4 (.slice (some ⟨w.heap.size, 0, none⟩) 0 0) 0 (rcs []) := rcs_own (cs := []) (Nat.le_refl _) (Nat.le_refl _) (Nat.zero_le _) (Blk.new w _ _) rfl rfl rfl
    have HOWN := Lib.hid hown
    have hnews : ∀ j u, (rcs rs)[j]? = some u → (w.alloc (.cells #[] 103)).cell? (a.add j) = some u := fun j u hj => by
      have hl := (List.getElem?_eq_some_iff.1 hj).1
      rw [rcs_len, HR.out.1] at hl
      obtain ⟨b, off, e, hb, hc⟩ := HR.out.2 (by omega)
      injection e with e
      subst e
      have h1 := rcs_flat' rs off hc j u hj
      have h2 := (World.cell?_alloc_lt w (.cells #[] 103) ⟨b, off + j, none⟩ hb).trans h1
      unfold Addr.add
      split
      · rename_i e0; subst e0; exact h2
      · exact h2
    have HNEW := Lib.hid hnews
    have hrl : (rcs rs).length = n * 4 := by rw [rcs_len, HR.out.1]
    have HRL := Lib.hid hrl
    clear hown hnews hrl
    go_wp2_with (at_builtin; refine wpList_append_own _ rfl _ _ 31 rfl w.heap.size 103 i0 _ 4 32 Tryz.underlying31 hi0 hz0 hz1 hz2 rfl (by decide) _ _ _ rfl HOWN.out a n c (rcs rs) rfl HRL.out HNEW.out (rcs_one' rs) (by simp only [maxLen]; omega) (by omega) (by simp) ?_; intro v' w4 hown' hgrow _; have HO' := Lib.hid hown'; have HG := Lib.hid hgrow; clear hown' hgrow)
    have ho : w4.ownsRow w.heap.size 103 4 v' n (rcs rs) := by
      have := HO'.out
      rwa [Nat.zero_add, show rcs [] = [] from rfl, List.nil_append] at this
    have hB : Below w.heap.size w w4 := (bal (bre w) _).grown HG.out (by simp) (fun g e => by cases e; exact Nat.le_refl _)
    have hcm : ∃ A c, v' = .slice A n c ∧ n ≤ c ∧ c ≤ maxLen := by
      rcases ho.2 with ⟨rfl, rfl⟩ | ⟨g, cap, cur, rfl, _, _, hc, hm, _⟩
      · exact ⟨_, _, rfl, Nat.le_refl _, Nat.zero_le _⟩
      · exact ⟨_, _, rfl, hc, hm⟩
    obtain ⟨A', c', rfl, hc1, hc2⟩ := hcm
    go_ret
    exact ⟨A', c', rfl, RdR.of_own ho HR.out.1, hc1, hc2, hB⟩

set_option maxRecDepth 100000 in
set_option maxHeartbeats 1000000 in
theorem rectsR_any (v : Value) (rs : List RC) (w : World) (hr : RegAt w v rs) :
    Calls Tryz.prog 148 #[v] w fun e w' => EndS w rs.length rs e w' := by
  obtain ⟨A, c, rfl, hr, _, hn, _⟩ := hr
  have HR := Lib.hid hr
  obtain ⟨n, hn'⟩ : ∃ n, rs.length = n := ⟨_, rfl⟩
  rw [hn'] at HR hn ⊢
  clear hr hn'
  go_enter Tryz.func148, Tryz.ntmps148
  go_wp2_with (go_at_call 181; refine (cloneR_any _ _ _ rs _ hn (HR.out.below (bal (bre w) _))).mono ?_; rintro e w1 ⟨A', c', rfl, hr1, hc1, hc2, hb1⟩; have HR1 := Lib.hid hr1; have HC1 := Lib.hid hc1; have HC2 := Lib.hid hc2; have HB1 := Lib.hid hb1; clear hr1 hc1 hc2 hb1)
  go_ret
  exact ⟨A', c', rfl, HR1.out, HC1.out, HC2.out, bstep (bal (bre w) _) HB1.out⟩

theorem tellY_any : TellFn 183 RC.Y RC.H := by
  refine ⟨fun args W => by simp [go_sem], fun r w h => ?_⟩
  go_enter Tryz.func183, Tryz.ntmps183
  go_wp2_with fail
  go_quiet (fail)
  go_wp2_with fail
  go_ret2
  exact ⟨rfl, below_drewN (bal (bre w) _) _⟩
theorem tellX_any : TellFn 185 RC.X RC.W := by
  refine ⟨fun args W => by simp [go_sem], fun r w h => ?_⟩
  go_enter Tryz.func185, Tryz.ntmps185
  go_wp2_with fail
  go_quiet (fail)
  go_wp2_with fail
  go_ret2
  exact ⟨rfl, below_drewN (bal (bre w) _) _⟩
/-- a rule that is a function. -/
def KeepFn (f : Nat) (keep : Bool → Bool → Bool) : Prop := CallsF f ∧ ∀ (a b : Bool) (w : World), Calls Tryz.prog f #[.bool a, .bool b] w fun e w' => e = .returned (.bool (keep a b)) ∧ w = w'

theorem RowAt.blk {B : Nat} {w : World} {g : Nat} {t : TypeId} {l : List RC} (h : RowAt B w g t l) : ∃ cs, Blk w g t cs := by
  obtain ⟨A, c, h, _⟩ := h
  exact ⟨_, h⟩
theorem RowAt.notRow {B : Nat} {w : World} {g base e size n : Nat} {t : TypeId} {l : List RC} {v : Value} {xs : List Value} (h : RowAt B w g t l) (ho : w.ownsRow base e size v n xs) (ht : t ≠ e) : v.ownBlock ≠ some g := by
  obtain ⟨cs, hb⟩ := h.blk
  exact own_other ho hb ht
theorem own_notRow {B : Nat} {w w' : World} {g base e size n : Nat} {t : TypeId} {l : List RC} {v : Value} {xs : List Value} (ho : w.ownsRow base e size v n xs) (h : RowAt B w g t l) (ht : t ≠ e) (hg : w.grownBy w' (some g)) : w'.ownsRow base e size v n xs :=
  ho.kept hg (.inr (fun e' => h.notRow ho ht e'))
/-- a slice of rectangles in a variable stays where another row grows. -/
theorem RowAt.keepOut {B : Nat} {w w' : World} {g n : Nat} {t : TypeId} {l cells : List RC} {v : Value} (h : RowAt B w g t l) (ho : w.ownsRow B 103 4 v n (rcs cells)) (ht : t ≠ 103) (hg : w.grownBy w' v.ownBlock) : RowAt B w' g t l := by
  have hn := h.notRow ho ht
  obtain ⟨A, c, h1, h2, h3, h4, h5⟩ := h
  refine ⟨A, c, h1.grown hg (fun e => hn e.symm), ⟨h2.1, fun hl => ?_⟩, h3, h4, h5⟩
  obtain ⟨b, off, e, hb, hc⟩ := h2.2 hl
  have hlt := h5 hl _ e
  refine ⟨b, off, e, Nat.lt_of_lt_of_le hb hg.size, fun i r hi => ?_⟩
  have hk : ∀ o u, w.cell? ⟨b, o, none⟩ = some u → w'.cell? ⟨b, o, none⟩ = some u := fun o u hu => by
    have h5 := hg.block b hb (fun e => by have := own_ge ho b e.symm; dsimp only at hlt; omega)
    have : w'.cell? ⟨b, o, none⟩ = w.cell? ⟨b, o, none⟩ := by simp only [World.cell?, h5]
    rw [this]; exact hu
  obtain ⟨c0, c1, c2, c3⟩ := hc i r hi
  exact ⟨hk _ _ c0, hk _ _ c1, hk _ _ c2, hk _ _ c3⟩

/-- what the outer rounds keep. -/
structure JO (V : World) (la lb : List RC) (vo : Value) (cells : List RC) (wr : World) : Prop where
  up : RowAt V.heap.size wr V.heap.size 291 la
  dn : RowAt V.heap.size wr (V.heap.size + 1) 291 lb
  out : wr.ownsRow V.heap.size 103 4 vo cells.length (rcs cells)
  bel : Below V.heap.size V wr
section
variable {V : World} {la lb la' lb' lp lq lp' lq' cells cells' : List RC} {vo vo' vx : Value} {xs : List Int} {wr w' : World} {g16 : Nat}
theorem JO.below (h : JO V la lb vo cells wr) (hb : Below wr.heap.size wr w') : JO V la lb vo cells w' :=
  ⟨h.up.below hb, h.dn.below hb, ownsRow_below h.out hb, bstep h.bel hb⟩
theorem JO.rowUp (h : JO V la lb vo cells wr) (hu : RowAt V.heap.size w' V.heap.size 291 la') (hg : wr.grownBy w' (some V.heap.size)) : JO V la' lb vo cells w' :=
  ⟨hu, h.dn.other h.up (by omega) hg, own_notRow h.out h.up (by decide) hg, h.bel.grown hg h.bel.size (fun q e => by cases e; exact Nat.le_refl _)⟩
theorem JO.rowDn (h : JO V la lb vo cells wr) (hu : RowAt V.heap.size w' (V.heap.size + 1) 291 lb') (hg : wr.grownBy w' (some (V.heap.size + 1))) : JO V la lb' vo cells w' :=
  ⟨h.up.other h.dn (by omega) hg, hu, own_notRow h.out h.dn (by decide) hg, h.bel.grown hg h.bel.size (fun q e => by cases e; omega)⟩

/-- what the inner rounds keep. -/
structure JM (V : World) (g16 : Nat) (la lb lp lq : List RC) (vx : Value) (xs : List Int) (vo : Value) (cells : List RC) (wr : World) : Prop where
  o : JO V la lb vo cells wr
  p : RowAt V.heap.size wr g16 31 lp
  q : RowAt V.heap.size wr (g16 + 1) 31 lq
  xs : OwnI wr V.heap.size vx xs
  g16 : V.heap.size + 1 < g16
theorem JM.below (h : JM V g16 la lb lp lq vx xs vo cells wr) (hb : Below wr.heap.size wr w') : JM V g16 la lb lp lq vx xs vo cells w' :=
  ⟨h.o.below hb, h.p.below hb, h.q.below hb, ownsRow_below h.xs hb, h.g16⟩
theorem JM.rowP (h : JM V g16 la lb lp lq vx xs vo cells wr) (hu : RowAt V.heap.size w' g16 31 lp') (hg : wr.grownBy w' (some g16)) : JM V g16 la lb lp' lq vx xs vo cells w' :=
  ⟨⟨h.o.up.other h.p (by have := h.g16; omega) hg, h.o.dn.other h.p (by have := h.g16; omega) hg, own_notRow h.o.out h.p (by decide) hg, h.o.bel.grown hg h.o.bel.size (fun q e => by cases e; have := h.g16; omega)⟩, hu, h.q.other h.p (by omega) hg, own_notRow h.xs h.p (by decide) hg, h.g16⟩
theorem JM.rowQ (h : JM V g16 la lb lp lq vx xs vo cells wr) (hu : RowAt V.heap.size w' (g16 + 1) 31 lq') (hg : wr.grownBy w' (some (g16 + 1))) : JM V g16 la lb lp lq' vx xs vo cells w' :=
  ⟨⟨h.o.up.other h.q (by have := h.g16; omega) hg, h.o.dn.other h.q (by have := h.g16; omega) hg, own_notRow h.o.out h.q (by decide) hg, h.o.bel.grown hg h.o.bel.size (fun q e => by cases e; have := h.g16; omega)⟩, h.p.other h.q (by omega) hg, hu, own_notRow h.xs h.q (by decide) hg, h.g16⟩
/-- the cells written grow. -/
theorem JM.outs (h : JM V g16 la lb lp lq vx xs vo cells wr) (ho : w'.ownsRow V.heap.size 103 4 vo' cells'.length (rcs cells')) (hg : wr.grownBy w' vo.ownBlock) : JM V g16 la lb lp lq vx xs vo' cells' w' := by
  have hx : vx.ownBlock = none ∨ vx.ownBlock ≠ vo.ownBlock := by
    cases hv : vx.ownBlock with
    | none => exact .inl rfl
    | some g =>
      right
      obtain ⟨cs, hb⟩ := own_cells h.xs hv
      exact fun e => own_other h.o.out hb (by decide) e.symm
  exact ⟨⟨h.o.up.keepOut h.o.out (by decide) hg, h.o.dn.keepOut h.o.out (by decide) hg, ho, h.o.bel.grown hg h.o.bel.size (own_ge h.o.out)⟩, h.p.keepOut h.o.out (by decide) hg, h.q.keepOut h.o.out (by decide) hg, h.xs.kept hg hx, h.g16⟩
end

end Go.Proofs.YtdaedkolpfkdjaaGreat
end
