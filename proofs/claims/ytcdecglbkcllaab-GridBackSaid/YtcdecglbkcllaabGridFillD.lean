/-
  The walks of the laws' small rectangles: Rect, Rects, In.
-/
import Derived.Test.YtcdecglbkcllaabGridFillC
namespace Go.Proofs.Ytcdecglbkcllaab
open Go.RowKit Go.Shelf

structure Sm where
  x : Int
  y : Int
  w : Int
  h : Int
def Sm.ok (s : Sm) : Prop := (-128 ≤ s.x ∧ s.x ≤ 127) ∧ (-128 ≤ s.y ∧ s.y ≤ 127) ∧ (0 ≤ s.w ∧ s.w ≤ 255) ∧ (0 ≤ s.h ∧ s.h ≤ 255)
def Sm.rc (s : Sm) : RC := ⟨s.x, s.y, s.w % 32, s.h % 32⟩
def SmAt (w : World) (b o : Nat) (s : Sm) : Prop := w.cell? ⟨b, o, none⟩ = some (.int .i8 s.x) ∧ w.cell? ⟨b, o + 1, none⟩ = some (.int .i8 s.y) ∧ w.cell? ⟨b, o + 1 + 1, none⟩ = some (.int .u8 s.w) ∧ w.cell? ⟨b, o + 1 + 1 + 1, none⟩ = some (.int .u8 s.h)
/-- a slice of them reads as a list. -/
def RdS (w : World) (A : Option Addr) (n : Nat) (ss : List Sm) : Prop :=
  ss.length = n ∧ (0 < n → ∃ b off, A = some ⟨b, off, none⟩ ∧ b < w.heap.size ∧ ∀ i s, ss[i]? = some s → SmAt w b (off + i * 4) s)
theorem RdS.below {w w' : World} {A : Option Addr} {n : Nat} {ss : List Sm} (h : RdS w A n ss) (hb : Below w.heap.size w w') : RdS w' A n ss :=
  ⟨h.1, fun h0 => by
    obtain ⟨b, off, e, hbl, hc⟩ := h.2 h0
    refine ⟨b, off, e, Nat.lt_of_lt_of_le hbl hb.size, fun i s hi => ?_⟩
    obtain ⟨c0, c1, c2, c3⟩ := hc i s hi
    exact ⟨(hb.cell (p := ⟨b, _, none⟩) hbl).trans c0, (hb.cell (p := ⟨b, _, none⟩) hbl).trans c1, (hb.cell (p := ⟨b, _, none⟩) hbl).trans c2, (hb.cell (p := ⟨b, _, none⟩) hbl).trans c3⟩⟩

set_option maxRecDepth 100000 in
set_option maxHeartbeats 1000000 in
theorem small_any (s : Sm) (w : World) (hs : s.ok) : Calls Try.prog 33 #[.agg #[.int .i8 s.x, .int .i8 s.y, .int .u8 s.w, .int .u8 s.h]] w fun e w' => e = .returned (.agg #[.int .i64 s.rc.X, .int .i64 s.rc.Y, .int .i64 s.rc.W, .int .i64 s.rc.H]) ∧ Below w.heap.size w w' := by
  obtain ⟨⟨x1, x2⟩, ⟨y1, y2⟩, ⟨w1, w2⟩, ⟨h1, h2⟩⟩ := hs
  obtain ⟨x, y, sw, sh⟩ := s
  dsimp only [Sm.rc] at *
  go_enter Try.func33, Try.ntmps33
  go_wp2_with fail
  refine bodyPost_ret (v := .agg #[.int .i64 x, .int .i64 y, .int .i64 (sw % 32), .int .i64 (sh % 32)]) (by simp [results, Try.results33, go_sem]) rfl ⟨rfl, ?_⟩
  exact bal (bal (bre w) _) _

set_option maxRecDepth 100000 in
set_option maxHeartbeats 1000000 in
theorem smalls_any (A : Option Addr) (n c : Nat) (ss : List Sm) (w : World) (hn : n ≤ 100000) (hr : RdS w A n ss) (hok : ∀ s ∈ ss, s.ok) :
    Calls Try.prog 29 #[.slice A n c] w fun e w' => ∃ A' c', e = .returned (.slice A' n c') ∧ RdR w' A' n (ss.map Sm.rc) ∧ Fr w.heap.size A' ∧ Below w.heap.size w w' := by
  obtain ⟨i0, hi0, hz0, hz1, hz2⟩ := info_parts Try.infoR
  have HR := Lib.hid hr
  have HOK := Lib.hid hok
  clear hr hok
  go_enter Try.func29, Try.ntmps29
  go_wp2_with fail
  go_loopw [3, 8] (fun v i wr => ∃ k : Nat, i = .int .i64 k ∧ k ≤ n ∧ wr.ownsRow w.heap.size 43 4 v k (rcs ((ss.take k).map Sm.rc)) ∧ Below w.heap.size w wr) (fun _ i _ => n - (intOf i).toNat)
  case atStart => exact ⟨0, rfl, by omega, by simpa [rcs] using World.ownsRow_nil w w.heap.size 43 4, bre w⟩
  case round =>
    obtain ⟨k, rfl, hk, ho, hB⟩ := hrel
    have HO := Lib.hid ho
    have HB := Lib.hid hB
    have hBs := hB.size
    clear ho hB
    by_cases hlt : k < n
    · obtain ⟨s, hx⟩ : ∃ s, ss[k]? = some s := ⟨_, List.getElem?_eq_getElem (by have := HR.out.1; omega)⟩
      obtain ⟨b, off, rfl, hbl, hc⟩ := (HR.out.below HB.out).2 (by omega)
      obtain ⟨x0, x1, x2, x3⟩ := hc k s hx
      have hs := HOK.out s (List.mem_of_getElem? hx)
      have k0 : (0 : Int) ≤ (k : Int) := by omega
      have k1 : (k : Int) < (n : Int) := by omega
      have htk : (ss.take (k + 1)).map Sm.rc = (ss.take k).map Sm.rc ++ [s.rc] := by rw [List.take_add_one, hx]; simp
      have HTK := Lib.hid htk
      have HS := Lib.hid hs
      clear hc hx htk hs
      go_upto_region 5 with fail
      have bV := bal (bre wr) (.cells #[.int .i8 s.x, .int .i8 s.y, .int .u8 s.w, .int .u8 s.h] 72)
      have bx := Blk.new wr 72 #[.int .i8 s.x, .int .i8 s.y, .int .u8 s.w, .int .u8 s.h]
      obtain ⟨V, hV⟩ : ∃ V, wr.alloc (.cells #[.int .i8 s.x, .int .i8 s.y, .int .u8 s.w, .int .u8 s.h] 72) = V := ⟨_, rfl⟩
      obtain ⟨gb, hgb⟩ : ∃ gb, wr.heap.size = gb := ⟨_, rfl⟩
      rw [hV] at bV bx ⊢
      rw [hgb] at bx ⊢
      have v0 := bx.cellV (i := 0) (v := .int .i8 s.x) rfl
      have v1 := bx.cellV (i := 1) (v := .int .i8 s.y) rfl
      have v2 := bx.cellV (i := 2) (v := .int .u8 s.w) rfl
      have v3 := bx.cellV (i := 3) (v := .int .u8 s.h) rfl
      have OV := Lib.hid (ownsRow_below HO.out bV)
      have BV := Lib.hid (bstep HB.out bV)
      clear hV hgb bV bx x0 x1 x2 x3 HO HB
      go_wp2_with (first
        | (go_at_call 33; refine (small_any s _ HS.out).mono ?_; rintro e w3 ⟨rfl, hb3⟩; have OW := Lib.hid (ownsRow_below OV.out hb3); have BW := Lib.hid (bstep BV.out hb3); have ws := BW.out.size; clear hb3)
        | (at_builtin; refine wpList_append_own _ rfl _ _ 60 rfl w.heap.size 43 i0 _ 4 32 Try.underlying60 hi0 hz0 hz1 hz2 rfl (by decide) _ _ _ rfl (OW.out.alloc _) ⟨w3.heap.size, 0, none⟩ 1 1 [.int .i64 s.rc.X, .int .i64 s.rc.Y, .int .i64 s.rc.W, .int .i64 s.rc.H] rfl rfl (four_new _ _ _ _ _ _) (by simp [Value.oneCell']) (by simp only [maxLen]; omega) (by omega) (by simp; omega) ?_; intro v' w4 hown' hgrow _))
      have hB4 : Below w.heap.size w w4 := (BW.out.alloc BW.out.size _).grown hgrow (by simp; omega) (own_ge OW.out)
      go_roundw
      case rel => exact ⟨k + 1, by go_num, by omega, by rw [HTK.out, rcs_append]; exact hown', hB4⟩
      case measure => simp [intOf]; omega
    · obtain rfl : k = n := by omega
      have hal : ss.take k = ss := List.take_of_length_le (by rw [HR.out.1]; exact Nat.le_refl _)
      have ho := HO.out
      rw [hal] at ho
      obtain ⟨A', c', rfl, _⟩ := own_form ho
      have HO2 := Lib.hid ho
      clear ho hal HO
      go_wp2_with fail
      go_ret
      exact ⟨A', c', rfl, RdR.of_own HO2.out (by rw [List.length_map]; exact HR.out.1), Fr.own HO2.out, HB.out⟩

/-- has one of them a place? -/
def RC.hasI (r : RC) (x y : Int) : Bool := decide (r.X ≤ x) && decide (x < r.X + r.W) && (decide (r.Y ≤ y) && decide (y < r.Y + r.H))
def inSm (ss : List Sm) (x y : Int) : Bool := ss.any fun s => s.rc.hasI x y
theorem inSm_yes {ss : List Sm} {k : Nat} {s : Sm} {x y : Int} (h : ss[k]? = some s) (hs : s.rc.hasI x y = true) : inSm ss x y = true := List.any_eq_true.2 ⟨s, List.mem_of_getElem? h, hs⟩
theorem inSm_no {ss : List Sm} {k : Nat} {s : Sm} {x y : Int} (h : ss[k]? = some s) (hs : s.rc.hasI x y = false) (h0 : inSm (ss.take k) x y = false) : inSm (ss.take (k + 1)) x y = false := by
  rw [List.take_add_one, h]
  unfold inSm at *
  simp [h0, hs]

set_option maxRecDepth 100000 in
set_option maxHeartbeats 2000000 in
theorem inSm_any (A : Option Addr) (n c : Nat) (ss : List Sm) (x y : Int) (w : World) (hn : n ≤ 100000) (hr : RdS w A n ss) (hok : ∀ s ∈ ss, s.ok) :
    Calls Try.prog 30 #[.slice A n c, .int .i64 x, .int .i64 y] w fun e w' => e = .returned (.bool (inSm ss x y)) ∧ Below w.heap.size w w' := by
  have HR := Lib.hid hr
  have HOK := Lib.hid hok
  clear hr hok
  go_enter Try.func30, Try.ntmps30
  go_wp2_with fail
  go_loopw [12] (fun i wr => ∃ k : Nat, i = .int .i64 k ∧ k ≤ n ∧ inSm (ss.take k) x y = false ∧ Below w.heap.size w wr) (fun i _ => n - (intOf i).toNat)
  case atStart => exact ⟨0, rfl, by omega, rfl, bre w⟩
  case round =>
    obtain ⟨k, rfl, hk, hno, hB⟩ := hrel
    have HB := Lib.hid hB
    have HNO := Lib.hid hno
    clear hB hno
    by_cases hlt : k < n
    · obtain ⟨s, hx⟩ : ∃ s, ss[k]? = some s := ⟨_, List.getElem?_eq_getElem (by have := HR.out.1; omega)⟩
      obtain ⟨b, off, rfl, hbl, hc⟩ := (HR.out.below HB.out).2 (by omega)
      obtain ⟨x0, x1, x2, x3⟩ := hc k s hx
      have hs := HOK.out s (List.mem_of_getElem? hx)
      have k0 : (0 : Int) ≤ (k : Int) := by omega
      have k1 : (k : Int) < (n : Int) := by omega
      have HX := Lib.hid hx
      have HS := Lib.hid hs
      clear hc hx
      go_upto_region 4 with fail
      have bV := bal (bre wr) (.cells #[.int .i8 s.x, .int .i8 s.y, .int .u8 s.w, .int .u8 s.h] 72)
      have bx := Blk.new wr 72 #[.int .i8 s.x, .int .i8 s.y, .int .u8 s.w, .int .u8 s.h]
      obtain ⟨V, hV⟩ : ∃ V, wr.alloc (.cells #[.int .i8 s.x, .int .i8 s.y, .int .u8 s.w, .int .u8 s.h] 72) = V := ⟨_, rfl⟩
      obtain ⟨gb, hgb⟩ : ∃ gb, wr.heap.size = gb := ⟨_, rfl⟩
      rw [hV] at bV bx ⊢
      rw [hgb] at bx ⊢
      have v0 := bx.cellV (i := 0) (v := .int .i8 s.x) rfl
      have v1 := bx.cellV (i := 1) (v := .int .i8 s.y) rfl
      have v2 := bx.cellV (i := 2) (v := .int .u8 s.w) rfl
      have v3 := bx.cellV (i := 3) (v := .int .u8 s.h) rfl
      have BV := Lib.hid (bstep HB.out bV)
      have hb : (-128 ≤ s.rc.X ∧ s.rc.X ≤ 127) ∧ (-128 ≤ s.rc.Y ∧ s.rc.Y ≤ 127) ∧ (0 ≤ s.rc.W ∧ s.rc.W ≤ 31) ∧ (0 ≤ s.rc.H ∧ s.rc.H ≤ 31) := by
        obtain ⟨h1, h2, h3, h4⟩ := hs
        dsimp only [Sm.rc]
        omega
      clear hV hgb bV bx x0 x1 x2 x3 HB hs
      go_upto_region 5 with (go_at_call 33; refine (small_any s _ HS.out).mono ?_; rintro e w3 ⟨rfl, hb3⟩; have BW := Lib.hid (bstep BV.out hb3); clear hb3)
      obtain ⟨r, hr⟩ : ∃ r, s.rc = r := ⟨_, rfl⟩
      rw [hr] at hb ⊢
      have HRC := Lib.hid hr
      have bX := bal (bre w3) (.cells #[.int .i64 r.X, .int .i64 r.Y, .int .i64 r.W, .int .i64 r.H] 43)
      have bx := Blk.new w3 43 #[.int .i64 r.X, .int .i64 r.Y, .int .i64 r.W, .int .i64 r.H]
      obtain ⟨X, hX⟩ : ∃ X, w3.alloc (.cells #[.int .i64 r.X, .int .i64 r.Y, .int .i64 r.W, .int .i64 r.H] 43) = X := ⟨_, rfl⟩
      obtain ⟨gx, hgx⟩ : ∃ gx, w3.heap.size = gx := ⟨_, rfl⟩
      rw [hX] at bX bx ⊢
      rw [hgx] at bx ⊢
      have u0 := bx.cellV (i := 0) (v := .int .i64 r.X) rfl
      have u1 := bx.cellV (i := 1) (v := .int .i64 r.Y) rfl
      have u2 := bx.cellV (i := 2) (v := .int .i64 r.W) rfl
      have u3 := bx.cellV (i := 3) (v := .int .i64 r.H) rfl
      have BX := Lib.hid (bstep BW.out bX)
      clear hX hgx bX bx v0 v1 v2 v3 hr BW BV
      have t : decide (r.X ≤ x) = false ∨ (decide (r.X ≤ x) = true ∧ (decide (x < r.X + r.W) = false ∨ (decide (x < r.X + r.W) = true ∧ (decide (r.Y ≤ y) = false ∨ (decide (r.Y ≤ y) = true ∧ (decide (y < r.Y + r.H) = false ∨ decide (y < r.Y + r.H) = true)))))) := by
        simp only [decide_eq_true_eq, decide_eq_false_iff_not]; omega
      rcases t with t1 | ⟨t1, t2 | ⟨t2, t3 | ⟨t3, t4 | t4⟩⟩⟩
      case inr.inr.inr.inr =>
        have hin : r.hasI x y = true := by simp [RC.hasI, t1, t2, t3, t4]
        have HT := Lib.hid (inSm_yes HX.out (by rw [HRC.out]; exact hin))
        clear hin
        go_wp2_with fail
        go_ret
        exact ⟨by rw [HT.out]; rfl, BX.out⟩
      all_goals
        have hin : r.hasI x y = false := by simp [RC.hasI, *]
        have HT := Lib.hid (inSm_no HX.out (by rw [HRC.out]; exact hin) HNO.out)
        clear hin
        go_wp2_with fail
        go_roundw
        case rel => exact ⟨k + 1, by go_num, by omega, HT.out, BX.out⟩
        case measure => simp [intOf]; omega
    · obtain rfl : k = n := by omega
      have hal : ss.take k = ss := List.take_of_length_le (by rw [HR.out.1]; exact Nat.le_refl _)
      have hno := HNO.out
      rw [hal] at hno
      have HN := Lib.hid hno
      clear hal hno
      go_wp2_with fail
      go_ret
      exact ⟨by rw [HN.out]; rfl, HB.out⟩

end Go.Proofs.Ytcdecglbkcllaab
