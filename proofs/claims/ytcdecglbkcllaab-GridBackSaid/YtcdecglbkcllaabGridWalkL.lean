/-
  The walk of the law GridCrops.
-/
import Derived.Test.YtcdecglbkcllaabGridWalkK
namespace Go.Proofs.Ytcdecglbkcllaab
open Go.RowKit

set_option maxRecDepth 100000 in
set_option maxHeartbeats 2000000 in
theorem gridCrops_skip (a b : Int) (A : Option Addr) (m c : Nat) (X Y rw rh out : Int) (w : World) (h : 300 < m ∨ (40 < rw ∧ rw ≤ 128) ∨ (40 < rh ∧ rh ≤ 128)) :
    Calls Try.prog 4 #[.agg #[.int .u8 a, .int .u8 b, .slice A m c], .agg #[.int .i64 X, .int .i64 Y, .int .i64 rw, .int .i64 rh], .int .u8 out] w fun e w' => e = .returned (.bool true) ∧ Below w.heap.size w w' := by
  by_cases h1 : 300 < m
  · have d1 : decide ((300 : Int) < (m : Int)) = true := by simp; omega
    clear h
    go_enter Try.func4, Try.ntmps4
    go_wp2_with (go_at_call 13; refine (awake_any _).mono ?_; rintro e w3 ⟨rfl, hb3⟩)
    go_ret
    exact ⟨rfl, bstep (bal (bal (bre w) _) _) hb3⟩
  · have d1 : decide ((300 : Int) < (m : Int)) = false := by simp; omega
    by_cases h2 : 40 < rw ∧ rw ≤ 128
    · have d2 := h2.1
      have d3 := h2.2
      clear h h2
      go_enter Try.func4, Try.ntmps4
      go_wp2_with (go_at_call 13; refine (awake_any _).mono ?_; rintro e w3 ⟨rfl, hb3⟩)
      go_ret
      exact ⟨rfl, bstep (bal (bal (bre w) _) _) hb3⟩
    · have d2 := (show 40 < rh by omega)
      have d3 := (show rh ≤ 128 by omega)
      clear h
      by_cases h4 : 40 < rw
      · have d4 : 128 < rw := by omega
        clear h2
        go_enter Try.func4, Try.ntmps4
        go_wp2_with (go_at_call 13; refine (awake_any _).mono ?_; rintro e w3 ⟨rfl, hb3⟩)
        go_ret
        exact ⟨rfl, bstep (bal (bal (bre w) _) _) hb3⟩
      · clear h2
        go_enter Try.func4, Try.ntmps4
        go_wp2_with (go_at_call 13; refine (awake_any _).mono ?_; rintro e w3 ⟨rfl, hb3⟩)
        go_ret
        exact ⟨rfl, bstep (bal (bal (bre w) _) _) hb3⟩

/-- what Crop tells, of whatever rectangle. -/
def CropR (W H : Nat) (px : List Int) (X Y rw rh out : Int) (w' : World) (cw ch : Nat) (A' : Option Addr) (n' : Nat) (er : Int) : Prop :=
  ((sideB rw && sideB rh) = false ∧ cw = 0 ∧ ch = 0 ∧ n' = 0 ∧ er = 17) ∨ ((sideB rw && sideB rh) = true ∧ (coordB X && coordB Y) = false ∧ cw = 0 ∧ ch = 0 ∧ n' = 0 ∧ er = 1) ∨
  ((sideB rw && sideB rh) = true ∧ (coordB X && coordB Y) = true ∧ rw = cw ∧ rh = ch ∧ n' = cw * ch ∧ er = 0 ∧ Rd w' A' n' (U8 (cropL W H px X Y cw ch out)))
section
variable {W H : Nat} {px : List Int} {X Y rw rh out : Int} {w w' : World} {cw ch : Nat} {A' : Option Addr} {n' : Nat} {er : Int}
theorem CropR.below (h : CropR W H px X Y rw rh out w cw ch A' n' er) (hb : Below w.heap.size w w') : CropR W H px X Y rw rh out w' cw ch A' n' er := by
  rcases h with h | h | ⟨h1, h2, h3, h4, h5, h6, h7⟩
  · exact .inl h
  · exact .inr (.inl h)
  · exact .inr (.inr ⟨h1, h2, h3, h4, h5, h6, h7.below hb⟩)
theorem CropR.far (h : CropR W H px X Y rw rh out w cw ch A' n' er) {lo : Nat} (hf : Fr lo A') {p : Addr} (hp : p.block < lo) (u : Value) : CropR W H px X Y rw rh out (w.setCell p u) cw ch A' n' er := by
  rcases h with h | h | ⟨h1, h2, h3, h4, h5, h6, h7⟩
  · exact .inl h
  · exact .inr (.inl h)
  · exact .inr (.inr ⟨h1, h2, h3, h4, h5, h6, h7.far (fun a ea => by have := hf a ea; omega) u⟩)
end
theorem crop_all (W H : Nat) (px : List Int) (X Y rw rh out : Int) (A : Option Addr) (n c : Nat) (w : World) (hn : n = W * H) (hW : W ≤ 128) (hH : H ≤ 128) (hr : Rd w A n (U8 px)) :
    Calls Try.prog 18 #[.agg #[.int .i64 W, .int .i64 H, .slice A n c], .agg #[.int .i64 X, .int .i64 Y, .int .i64 rw, .int .i64 rh], .int .u8 out] w fun e w' => ∃ (cw ch : Nat) (A' : Option Addr) (n' c' : Nat) (er : Int), e = .returned (.tuple #[.agg #[.int .i64 cw, .int .i64 ch, .slice A' n' c'], .int .i64 er]) ∧ CropR W H px X Y rw rh out w' cw ch A' n' er ∧ Fr w.heap.size A' ∧ Below w.heap.size w w' := by
  cases hs : (sideB rw && sideB rh)
  · exact (crop_size W H X Y rw rh out A n c w hs).mono fun e w' ⟨h1, h2⟩ => ⟨0, 0, none, 0, 0, 17, h1, .inl ⟨hs, rfl, rfl, rfl, rfl⟩, (fun a ea => by cases ea), h2⟩
  · have hs' := hs
    simp only [Bool.and_eq_true] at hs'
    cases hc : (coordB X && coordB Y)
    · exact (crop_range W H X Y rw rh out A n c w hs'.1 hs'.2 hc).mono fun e w' ⟨h1, h2⟩ => ⟨0, 0, none, 0, 0, 1, h1, .inr (.inl ⟨hs, hc, rfl, rfl, rfl, rfl⟩), (fun a ea => by cases ea), h2⟩
    · have hc' := hc
      simp only [sideB, decide_eq_true_eq] at hs'
      simp only [coordB, Bool.and_eq_true, decide_eq_true_eq] at hc'
      obtain ⟨cw, rfl⟩ := Int.eq_ofNat_of_zero_le (show 0 ≤ rw by omega)
      obtain ⟨ch, rfl⟩ := Int.eq_ofNat_of_zero_le (show 0 ≤ rh by omega)
      exact (crop_any W H px X Y cw ch out A n c w hn hW hH hr hc'.1 hc'.2 (by omega) (by omega)).mono fun e w' ⟨A', c', h1, h2, h3, h4, h5⟩ => ⟨cw, ch, A', cw * ch, c', 0, h1, .inr (.inr ⟨hs, hc, rfl, rfl, rfl, rfl, h2⟩), h4, h5⟩
theorem is_zero (A A' : Option Addr) (c c' : Nat) (w : World) :
    Calls Try.prog 15 #[.agg #[.int .i64 0, .int .i64 0, .slice A 0 c], .agg #[.int .i64 0, .int .i64 0, .slice A' 0 c']] w fun e w' => e = .returned (.bool true) ∧ Below w.heap.size w w' :=
  is_any 0 0 [] A A' 0 c c' w rfl (by omega) (by omega) (Rd.nil _ _) (Rd.nil _ _)

structure GInv (a b : Int) (A : Option Addr) (m c : Nat) (X Y rw rh : Int) (w wr : World) : Prop where
  bx : Blk wr w.heap.size 41 #[.int .u8 a, .int .u8 b, .slice A m c]
  br : Blk wr (w.heap.size + 1) 43 #[.int .i64 X, .int .i64 Y, .int .i64 rw, .int .i64 rh]
  bb : Below w.heap.size w wr
section
variable {a b : Int} {A : Option Addr} {m c : Nat} {X Y rw rh : Int} {w wr w' : World}
theorem GInv.new : GInv a b A m c X Y rw rh w ((w.alloc (.cells #[.int .u8 a, .int .u8 b, .slice A m c] 41)).alloc (.cells #[.int .i64 X, .int .i64 Y, .int .i64 rw, .int .i64 rh] 43)) := by
  have h := Blk.new (w.alloc (.cells #[.int .u8 a, .int .u8 b, .slice A m c] 41)) 43 #[.int .i64 X, .int .i64 Y, .int .i64 rw, .int .i64 rh]
  rw [World.size_alloc] at h
  exact ⟨(Blk.new w _ _).alloc _, h, bal (bal (bre w) _) _⟩
theorem GInv.below (h : GInv a b A m c X Y rw rh w wr) (hb : Below wr.heap.size wr w') : GInv a b A m c X Y rw rh w w' :=
  ⟨h.bx.belowS hb, h.br.belowS hb, bstep h.bb hb⟩
theorem GInv.alloc (h : GInv a b A m c X Y rw rh w wr) (o : Obj) : GInv a b A m c X Y rw rh w (wr.alloc o) := h.below (bal (bre _) _)
theorem GInv.set_ (h : GInv a b A m c X Y rw rh w wr) {p : Addr} (hp : w.heap.size + 1 < p.block) (u : Value) : GInv a b A m c X Y rw rh w (wr.setCell p u) :=
  ⟨h.bx.far (by omega) _, h.br.far (by omega) _, bset h.bb (by omega) _⟩
theorem GInv.cells (h : GInv a b A m c X Y rw rh w wr) : wr.cell? ⟨w.heap.size, 0, none⟩ = some (.int .u8 a) ∧ wr.cell? ⟨w.heap.size, 1, none⟩ = some (.int .u8 b) ∧ wr.cell? ⟨w.heap.size, 2, none⟩ = some (.slice A m c) ∧ wr.cell? ⟨w.heap.size + 1, 0, none⟩ = some (.int .i64 X) ∧ wr.cell? ⟨w.heap.size + 1, 1, none⟩ = some (.int .i64 Y) ∧ wr.cell? ⟨w.heap.size + 1, 2, none⟩ = some (.int .i64 rw) ∧ wr.cell? ⟨w.heap.size + 1, 3, none⟩ = some (.int .i64 rh) :=
  ⟨h.bx.cellV rfl, h.bx.cellV rfl, h.bx.cellV rfl, h.br.cellV rfl, h.br.cellV rfl, h.br.cellV rfl, h.br.cellV rfl⟩
theorem GInv.lt (h : GInv a b A m c X Y rw rh w wr) : w.heap.size + 1 < wr.heap.size := h.br.lt
theorem g_cells {g cw ch n' c' : Nat} {A' : Option Addr} (h : GInv a b A m c X Y rw rh w wr) (hb : Blk wr g 25 #[.int .i64 cw, .int .i64 ch, .slice A' n' c']) :
    wr.cell? ⟨g, 0, none⟩ = some (.int .i64 cw) ∧ wr.cell? ⟨g, 1, none⟩ = some (.int .i64 ch) ∧ wr.cell? ⟨g, 2, none⟩ = some (.slice A' n' c') ∧ wr.cell? ⟨w.heap.size, 0, none⟩ = some (.int .u8 a) ∧ wr.cell? ⟨w.heap.size, 1, none⟩ = some (.int .u8 b) ∧ wr.cell? ⟨w.heap.size, 2, none⟩ = some (.slice A m c) ∧ wr.cell? ⟨w.heap.size + 1, 0, none⟩ = some (.int .i64 X) ∧ wr.cell? ⟨w.heap.size + 1, 1, none⟩ = some (.int .i64 Y) ∧ wr.cell? ⟨w.heap.size + 1, 2, none⟩ = some (.int .i64 rw) ∧ wr.cell? ⟨w.heap.size + 1, 3, none⟩ = some (.int .i64 rh) :=
  ⟨hb.cellV rfl, hb.cellV rfl, hb.cellV rfl, h.cells⟩
/-- where the grid c was laid ahead of the calls: what the store leaves. -/
theorem after_set {W H : Nat} {px : List Int} {out : Int} {cw ch n' c' g : Nat} {A' : Option Addr} {er : Int} (h : GInv a b A m c X Y rw rh w wr) (hg : w.heap.size + 1 < g)
    (hb : Blk wr g 25 #[.int .i64 0, .int .i64 0, .slice none 0 0]) (hc : CropR W H px X Y rw rh out wr cw ch A' n' er) {lo : Nat} (hf : Fr lo A') (hl : g < lo) :
    Blk (((wr.setCell ⟨g, 0, none⟩ (.int .i64 cw)).setCell ⟨g, 1, none⟩ (.int .i64 ch)).setCell ⟨g, 2, none⟩ (.slice A' n' c')) g 25 #[.int .i64 cw, .int .i64 ch, .slice A' n' c'] ∧
    GInv a b A m c X Y rw rh w (((wr.setCell ⟨g, 0, none⟩ (.int .i64 cw)).setCell ⟨g, 1, none⟩ (.int .i64 ch)).setCell ⟨g, 2, none⟩ (.slice A' n' c')) ∧
    CropR W H px X Y rw rh out (((wr.setCell ⟨g, 0, none⟩ (.int .i64 cw)).setCell ⟨g, 1, none⟩ (.int .i64 ch)).setCell ⟨g, 2, none⟩ (.slice A' n' c')) cw ch A' n' er :=
  ⟨((hb.set_ 0 _).set_ 1 _).set_ 2 _, ((h.set_ (p := ⟨g, 0, none⟩) hg _).set_ (p := ⟨g, 1, none⟩) hg _).set_ (p := ⟨g, 2, none⟩) hg _, ((hc.far hf (p := ⟨g, 0, none⟩) hl _).far hf (p := ⟨g, 1, none⟩) hl _).far hf (p := ⟨g, 2, none⟩) hl _⟩
end

set_option maxRecDepth 100000 in
set_option maxHeartbeats 4000000 in
theorem gridCrops_go (a b : Int) (W H : Nat) (ps : List Int) (A : Option Addr) (m c : Nat) (X Y rw rh out : Int) (w : World) (ha : a % 16 + 1 = W) (hb : b % 16 + 1 = H) (ha0 : 0 ≤ a ∧ a ≤ 255) (hb0 : 0 ≤ b ∧ b ≤ 255) (hm : m ≤ 300) (hr : Rd w A m (U8 ps)) (h1 : ¬ (40 < rw ∧ rw ≤ 128)) (h2 : ¬ (40 < rh ∧ rh ≤ 128)) :
    Calls Try.prog 4 #[.agg #[.int .u8 a, .int .u8 b, .slice A m c], .agg #[.int .i64 X, .int .i64 Y, .int .i64 rw, .int .i64 rh], .int .u8 out] w fun e w' => e = .returned (.bool true) ∧ Below w.heap.size w w' := by
  have d1 : decide ((300 : Int) < (m : Int)) = false := by simp; omega
  have hW : W ≤ 16 := by omega
  have hH : H ≤ 16 := by omega
  have HR := Lib.hid hr
  have HA := Lib.hid ha
  have HB := Lib.hid hb
  clear hr ha hb
  have e1 : rw ≤ 40 ∨ (40 < rw ∧ 128 < rw) := by omega
  have e2 : rh ≤ 40 ∨ (40 < rh ∧ 128 < rh) := by omega
  clear h1 h2
  have E1 := Lib.hid e1
  have E2 := Lib.hid e2
  clear e1 e2
  go_enter Try.func4, Try.ntmps4
  go_upto_region 1 with fail
  have I0 := Lib.hid (GInv.new (a := a) (b := b) (A := A) (m := m) (c := c) (X := X) (Y := Y) (rw := rw) (rh := rh) (w := w))
  obtain ⟨Z, hZ⟩ : ∃ Z, (w.alloc (.cells #[.int .u8 a, .int .u8 b, .slice A m c] 41)).alloc (.cells #[.int .i64 X, .int .i64 Y, .int .i64 rw, .int .i64 rh] 43) = Z := ⟨_, rfl⟩
  rw [hZ] at I0 ⊢
  clear hZ
  go_cut [32] (fun s32 wx => s32 = .bool false ∧ wx = Z)
  case first =>
    obtain ⟨q0, q1, q2, q3, q4, q5, q6⟩ := I0.out.cells
    rcases E1.out with h3 | ⟨h3, h5⟩
    all_goals rcases E2.out with h4 | ⟨h4, h6⟩
    all_goals
      go_wp2_with fail
      go_meet
      refine ⟨?_, rfl⟩
      first | rfl | (congr 1; simp; omega)
  case rest =>
    obtain ⟨rfl, rfl⟩ := hcut
    clear E1 E2
    go_upto_region 3 with fail
    obtain ⟨q0, q1, q2, q3, q4, q5, q6⟩ := I0.out.cells
    have zz := I0.out.lt
    go_cut [7, 8] (fun s7 s8 wx => ∃ (g cw ch : Nat) (A' : Option Addr) (n' c' : Nat) (er : Int), s7 = .pointer (some ⟨g, 0, none⟩) ∧ s8 = .int .i64 er ∧ w.heap.size + 1 < g ∧ Blk wx g 25 #[.int .i64 cw, .int .i64 ch, .slice A' n' c'] ∧ GInv a b A m c X Y rw rh w wx ∧ CropR W H (pl (W * H) ps m) X Y rw rh out wx cw ch A' n' er)
    case first =>
      go_region_held3 (fun w' => w'.cell? ⟨w.heap.size, 0, none⟩ = some (.int .u8 a) ∧ w'.cell? ⟨w.heap.size, 1, none⟩ = some (.int .u8 b) ∧ w'.cell? ⟨w.heap.size, 2, none⟩ = some (.slice A m c) ∧ w'.cell? ⟨w.heap.size + 1, 0, none⟩ = some (.int .i64 X) ∧ w'.cell? ⟨w.heap.size + 1, 1, none⟩ = some (.int .i64 Y) ∧ w'.cell? ⟨w.heap.size + 1, 2, none⟩ = some (.int .i64 rw) ∧ w'.cell? ⟨w.heap.size + 1, 3, none⟩ = some (.int .i64 rh))
        (first | with_reducible exact J2.out.cells | with_reducible exact (((J2.out.set_ (p := ⟨w1.heap.size, 0, none⟩) zz1 _).set_ (p := ⟨w1.heap.size, 1, none⟩) zz1 _).set_ (p := ⟨w1.heap.size, 2, none⟩) zz1 _).cells | with_reducible exact (((J2.out.set_ (p := ⟨wc.heap.size, 0, none⟩) zz _).set_ (p := ⟨wc.heap.size, 1, none⟩) zz _).set_ (p := ⟨wc.heap.size, 2, none⟩) zz _).cells | with_reducible exact (J2.out.alloc _).cells | with_reducible exact J1.out.cells | with_reducible exact (J1.out.alloc _).cells | with_reducible exact (I0.out.alloc _).cells | go_keep)
        (first | (go_at_call 17; refine (make_any a b W H ps A m c _ HA.out HB.out ha0 hb0 hm (by first | exact (HR.out.below I0.out.bb).alike rfl | exact (HR.out.below (I0.out.alloc _).bb).alike rfl)).mono ?_; rintro e w1 ⟨A1, c1, rfl, r1, k1, f1, b1⟩; have R1 := Lib.hid r1; have B1 := Lib.hid b1; have J1 : Hid (GInv a b A m c X Y rw rh w w1) := (by first | exact Lib.hid (GInv.below I0.out (undrewX b1 rfl rfl rfl rfl)) | exact Lib.hid (GInv.below (I0.out.alloc (.cells #[.int .i64 0, .int .i64 0, .slice none 0 0] 25)) (undrewX b1 rfl rfl rfl rfl))); have zz1 := J1.out.lt; clear r1 b1 f1) | (go_at_call 18; refine (crop_all W H (pl (W * H) ps m) X Y rw rh out A1 (W * H) c1 _ rfl (by omega) (by omega) (by first | exact R1.out | exact R1.out.below (bal (bre _) _))).mono ?_; rintro e w2 ⟨cw, ch, A', n', c', er, rfl, r2, f2, b2⟩; have R2 := Lib.hid r2; have F2 := Lib.hid f2; have B2 := Lib.hid b2; have J2 : Hid (GInv a b A m c X Y rw rh w w2) := (by first | exact Lib.hid (GInv.below J1.out b2) | exact Lib.hid (GInv.below (J1.out.alloc _) b2)); first | (have bZ : Blk w2 wc.heap.size 25 #[.int .i64 0, .int .i64 0, .slice none 0 0] := (((Blk.new wc 25 #[.int .i64 0, .int .i64 0, .slice none 0 0]).belowS (undrewX (w := wc.alloc (.cells #[.int .i64 0, .int .i64 0, .slice none 0 0] 25)) B1.out rfl rfl rfl rfl)).belowS b2); have x0 := bZ.cellV (i := 0) rfl; have x1 := bZ.cellV (i := 1) rfl; have x2 := bZ.cellV (i := 2) rfl; have y0 := bZ.frozen 0; have y1 := bZ.frozen 1; have y2 := bZ.frozen 2; have BZ := Lib.hid bZ; clear bZ b2 r2 f2) | (have bZ : Blk w2 w1.heap.size 25 #[.int .i64 0, .int .i64 0, .slice none 0 0] := ((Blk.new w1 25 #[.int .i64 0, .int .i64 0, .slice none 0 0]).belowS b2); have x0 := bZ.cellV (i := 0) rfl; have x1 := bZ.cellV (i := 1) rfl; have x2 := bZ.cellV (i := 2) rfl; have y0 := bZ.frozen 0; have y1 := bZ.frozen 1; have y2 := bZ.frozen 2; have BZ := Lib.hid bZ; clear bZ b2 r2 f2) | (clear b2 r2 f2)))
      all_goals
        go_wp2_with fail
        go_meet
        first
          | exact ⟨w2.heap.size, cw, ch, A', n', c', er, rfl, rfl, J2.out.lt, Blk.new w2 _ _, J2.out.alloc _, R2.out.below (bal (bre _) _)⟩
          | (have hl : w1.heap.size < (w1.alloc (.cells #[.int .i64 0, .int .i64 0, .slice none 0 0] 25)).heap.size := (by simp)
             obtain ⟨k1, k2, k3⟩ := after_set (c' := c') J2.out zz1 BZ.out R2.out F2.out hl
             exact ⟨w1.heap.size, cw, ch, A', n', c', er, rfl, rfl, zz1, k1, k2, k3⟩)
          | (have hl : wc.heap.size < w1.heap.size := (by have := B1.out.size; simp at this; omega)
             obtain ⟨k1, k2, k3⟩ := after_set (c' := c') J2.out zz BZ.out R2.out F2.out hl
             exact ⟨wc.heap.size, cw, ch, A', n', c', er, rfl, rfl, zz, k1, k2, k3⟩)
    case rest =>
      obtain ⟨g, cw, ch, A', n', c', er, rfl, rfl, hg, bG, gi, cr⟩ := hcut
      clear q0 q1 q2 q3 q4 q5 q6 zz I0
      have CR := Lib.hid cr
      have GI := Lib.hid gi
      have BG := Lib.hid bG
      have gl := bG.lt
      obtain ⟨q0, q1, q2, q3, q4, q5, q6⟩ := gi.cells
      clear cr gi bG
      rcases CR.out with ⟨hs, rfl, rfl, rfl, rfl⟩ | ⟨hs, hc, rfl, rfl, rfl, rfl⟩ | ⟨hs, hc, rfl, rfl, rfl, rfl, hrd⟩
      · have g0 : wc.cell? ⟨g, 0, none⟩ = some (.int .i64 0) := BG.out.cellV rfl
        have g1 : wc.cell? ⟨g, 1, none⟩ = some (.int .i64 0) := BG.out.cellV rfl
        have g2 : wc.cell? ⟨g, 2, none⟩ = some (.slice A' 0 c') := BG.out.cellV rfl
        go_wp2_with (first
          | (go_at_call 11; refine (rsize_any _ _ _).mono ?_; rintro e w' ⟨rfl, rfl⟩)
          | (go_at_call 15; refine (is_zero _ _ _ _ _).mono ?_; rintro e w5 ⟨rfl, b5⟩; have B5 := Lib.hid b5; clear b5)
          | (go_at_call 13; refine (awake_any _).mono ?_; rintro e w6 ⟨rfl, b6⟩; have B6 := Lib.hid b6; clear b6))
        go_ret
        exact ⟨rfl, bstep (bstep GI.out.bb B5.out) B6.out⟩
      · have g0 : wc.cell? ⟨g, 0, none⟩ = some (.int .i64 0) := BG.out.cellV rfl
        have g1 : wc.cell? ⟨g, 1, none⟩ = some (.int .i64 0) := BG.out.cellV rfl
        have g2 : wc.cell? ⟨g, 2, none⟩ = some (.slice A' 0 c') := BG.out.cellV rfl
        have t : decide (X < -1048576) = true ∨ (decide (X < -1048576) = false ∧ (decide (1048576 < X) = true ∨ (decide (1048576 < X) = false ∧ (decide (Y < -1048576) = true ∨ (decide (Y < -1048576) = false ∧ decide (1048576 < Y) = true))))) := by simp [coordB] at hc; simp; omega
        clear hc
        rcases t with d1 | ⟨d1, d2 | ⟨d2, d3 | ⟨d3, d4⟩⟩⟩
        all_goals
          go_wp2_with (first
            | (go_at_call 11; refine (rsize_any _ _ _).mono ?_; rintro e w' ⟨rfl, rfl⟩)
            | (go_at_call 15; refine (is_zero _ _ _ _ _).mono ?_; rintro e w5 ⟨rfl, b5⟩; have B5 := Lib.hid b5; clear b5)
            | (go_at_call 13; refine (awake_any _).mono ?_; rintro e w6 ⟨rfl, b6⟩; have B6 := Lib.hid b6; clear b6))
          go_ret
          exact ⟨rfl, bstep (bstep GI.out.bb B5.out) B6.out⟩
      · have g0 : wc.cell? ⟨g, 0, none⟩ = some (.int .i64 cw) := BG.out.cellV rfl
        have g1 : wc.cell? ⟨g, 1, none⟩ = some (.int .i64 ch) := BG.out.cellV rfl
        have g2 : wc.cell? ⟨g, 2, none⟩ = some (.slice A' (cw * ch) c') := BG.out.cellV rfl
        have hsd : (1 ≤ cw ∧ cw ≤ 128) ∧ (1 ≤ ch ∧ ch ≤ 128) := by simp [sideB] at hs; omega
        have hco : (-1048576 ≤ X ∧ X ≤ 1048576) ∧ (-1048576 ≤ Y ∧ Y ≤ 1048576) := by simp [coordB] at hc; omega
        have d1 : decide (X < -1048576) = false := by simp; omega
        have d2 : decide (1048576 < X) = false := by simp; omega
        have d3 : decide (Y < -1048576) = false := by simp; omega
        have d4 : decide (1048576 < Y) = false := by simp; omega
        have HCO := Lib.hid hco
        have HSD := Lib.hid hsd
        have RD := Lib.hid hrd
        clear hc hco hrd
        go_wp2_with (go_at_call 11; refine (rsize_any _ _ _).mono ?_; rintro e w' ⟨rfl, rfl⟩)
        go_region_held3 (fun w' => w'.cell? ⟨g, 0, none⟩ = some (.int .i64 cw) ∧ w'.cell? ⟨g, 1, none⟩ = some (.int .i64 ch) ∧ w'.cell? ⟨g, 2, none⟩ = some (.slice A' (cw * ch) c') ∧ w'.cell? ⟨w.heap.size, 0, none⟩ = some (.int .u8 a) ∧ w'.cell? ⟨w.heap.size, 1, none⟩ = some (.int .u8 b) ∧ w'.cell? ⟨w.heap.size, 2, none⟩ = some (.slice A m c) ∧ w'.cell? ⟨w.heap.size + 1, 0, none⟩ = some (.int .i64 X) ∧ w'.cell? ⟨w.heap.size + 1, 1, none⟩ = some (.int .i64 Y) ∧ w'.cell? ⟨w.heap.size + 1, 2, none⟩ = some (.int .i64 cw) ∧ w'.cell? ⟨w.heap.size + 1, 3, none⟩ = some (.int .i64 ch))
          (first | with_reducible exact K8.out | with_reducible exact K7.out | with_reducible exact K6.out | with_reducible exact K5.out | go_keep)
          (first | (go_at_call 20; refine (ref_any a b W H ps A m c _ HA.out HB.out ha0 hb0 hm (by exact (HR.out.below GI.out.bb).alike rfl)).mono ?_; rintro e w5 ⟨A5, c5, rfl, r5, b5'⟩; have b5 := undrewX (w := wc) b5' rfl rfl rfl rfl; have R5 := Lib.hid r5; have B5 := Lib.hid b5; have K5 := Lib.hid (g_cells (GI.out.below b5) (BG.out.belowS b5)); clear r5 b5 b5') | (go_at_call 19; refine (rcrop_any W H (pl (W * H) ps m) X Y cw ch out A5 (W * H) c5 w5 rfl (by omega) (by omega) R5.out HCO.out.1 HCO.out.2 HSD.out.1 HSD.out.2).mono ?_; rintro e w6 ⟨A6, c6, rfl, r6, b6⟩; have R6 := Lib.hid r6; have B6 := Lib.hid (bstep B5.out b6); have K6 := Lib.hid (g_cells (GI.out.below B6.out) (BG.out.belowS B6.out)); clear r6 b6) | (go_at_call 15; refine (is_any cw ch (cropL W H (pl (W * H) ps m) X Y cw ch out) _ _ _ _ _ _ rfl HSD.out.1.2 HSD.out.2.2 (by exact RD.out.below B6.out) R6.out).mono ?_; rintro e w7 ⟨rfl, b7⟩; have B7 := Lib.hid (bstep B6.out b7); have K7 := Lib.hid (g_cells (GI.out.below B7.out) (BG.out.belowS B7.out)); clear b7) | (go_at_call 13; refine (awake_any _).mono ?_; rintro e w8 ⟨rfl, b8⟩; have B8 := Lib.hid (bstep B7.out b8); have K8 := Lib.hid (g_cells (GI.out.below B8.out) (BG.out.belowS B8.out)); clear b8))
        go_wp2_with fail
        go_ret
        exact ⟨rfl, bstep GI.out.bb B8.out⟩

/-- the law, of whatever plane, rectangle and pixel. -/
theorem gridCrops_all (a b : Int) (ps : List Int) (A : Option Addr) (m c : Nat) (X Y rw rh out : Int) (w : World) (ha0 : 0 ≤ a ∧ a ≤ 255) (hb0 : 0 ≤ b ∧ b ≤ 255) (hr : Rd w A m (U8 ps)) :
    Calls Try.prog 4 #[.agg #[.int .u8 a, .int .u8 b, .slice A m c], .agg #[.int .i64 X, .int .i64 Y, .int .i64 rw, .int .i64 rh], .int .u8 out] w fun e w' => e = .returned (.bool true) ∧ Below w.heap.size w w' := by
  by_cases h : 300 < m ∨ (40 < rw ∧ rw ≤ 128) ∨ (40 < rh ∧ rh ≤ 128)
  · exact gridCrops_skip a b A m c X Y rw rh out w h
  · exact gridCrops_go a b (a % 16 + 1).toNat (b % 16 + 1).toNat ps A m c X Y rw rh out w (by omega) (by omega) ha0 hb0 (by omega) hr (by omega) (by omega)

end Go.Proofs.Ytcdecglbkcllaab
