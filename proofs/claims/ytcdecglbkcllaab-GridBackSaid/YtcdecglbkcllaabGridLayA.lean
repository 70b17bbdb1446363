/-
  The walks of what Lay does in a stretch, and of a grid's Lay.
-/
import Derived.Test.YtcdecglbkcllaabGridFillC
namespace Go.Proofs.Ytcdecglbkcllaab
open Go.RowKit Go.Shelf

/-- what Lay lays at a place. -/
def layS (hw hh : Nat) (hpx : List Int) (dx dy : Int) : Nat → Nat → Option Int := fun x y => if hasB hw hh ((x : Int) - dx) ((y : Int) - dy) then some (gat hw hh hpx ((x : Int) - dx) ((y : Int) - dy)) else none
theorem Rd.grown {w w' : World} {A : Option Addr} {n : Nat} {vs : List Value} {gp : Nat} (h : Rd w A n vs) (hg : w.grownBy w' (some gp)) (hA : 0 < n → ∀ a, A = some a → a.block ≠ gp) : Rd w' A n vs :=
  ⟨h.1, fun h0 => by
    obtain ⟨b, off, e, hb, hc⟩ := h.2 h0
    have hne : some b ≠ some gp := fun e' => hA h0 _ e (by injection e')
    exact ⟨b, off, e, Nat.lt_of_lt_of_le hb hg.size, fun i v hi => hg.cell (hc i v hi) hne⟩⟩
/-- what the function has captured. -/
structure LayK (W H n bh bx by' bo gp hw hh nh ch : Nat) (Ah : Option Addr) (hpx : List Int) (dx dy : Int) (w : World) : Prop where
  h : Blk w bh 25 #[.int .i64 hw, .int .i64 hh, .slice Ah nh ch]
  x : Blk w bx 3 #[.int .i64 dx]
  y : Blk w by' 3 #[.int .i64 dy]
  o : Blk w bo 25 #[.int .i64 W, .int .i64 H, .slice (some ⟨gp, 0, none⟩) n n]
  r : Rd w Ah nh (U8 hpx)
theorem LayK.cells {W H n bh bx by' bo gp hw hh nh ch : Nat} {Ah : Option Addr} {hpx : List Int} {dx dy : Int} {w : World} (k : LayK W H n bh bx by' bo gp hw hh nh ch Ah hpx dx dy w) :
    w.cell? ⟨bo, 2, none⟩ = some (.slice (some ⟨gp, 0, none⟩) n n) ∧ w.cell? ⟨bo, 0, none⟩ = some (.int .i64 W) ∧ w.cell? ⟨bh, 0, none⟩ = some (.int .i64 hw) ∧ w.cell? ⟨bh, 1, none⟩ = some (.int .i64 hh) ∧ w.cell? ⟨bh, 2, none⟩ = some (.slice Ah nh ch) ∧ w.cell? ⟨bx, 0, none⟩ = some (.int .i64 dx) ∧ w.cell? ⟨by', 0, none⟩ = some (.int .i64 dy) :=
  ⟨k.o.cellV rfl, k.o.cellV rfl, k.h.cellV rfl, k.h.cellV rfl, k.h.cellV rfl, k.x.cellV rfl, k.y.cellV rfl⟩
theorem LayK.below {W H n bh bx by' bo gp hw hh nh ch : Nat} {Ah : Option Addr} {hpx : List Int} {dx dy : Int} {w w' : World} (k : LayK W H n bh bx by' bo gp hw hh nh ch Ah hpx dx dy w) (hb : Below w.heap.size w w') : LayK W H n bh bx by' bo gp hw hh nh ch Ah hpx dx dy w' :=
  ⟨k.h.belowS hb, k.x.belowS hb, k.y.belowS hb, k.o.belowS hb, k.r.below hb⟩
theorem LayK.grown {W H n bh bx by' bo gp hw hh nh ch : Nat} {Ah : Option Addr} {hpx : List Int} {dx dy : Int} {w w' : World} (k : LayK W H n bh bx by' bo gp hw hh nh ch Ah hpx dx dy w) (hg : w.grownBy w' (some gp)) (h1 : bh ≠ gp) (h2 : bx ≠ gp) (h3 : by' ≠ gp) (h4 : bo ≠ gp) (hA : 0 < nh → ∀ a, Ah = some a → a.block ≠ gp) :
    LayK W H n bh bx by' bo gp hw hh nh ch Ah hpx dx dy w' :=
  ⟨k.h.grown hg (fun e => h1 (by injection e)), k.x.grown hg (fun e => h2 (by injection e)), k.y.grown hg (fun e => h3 (by injection e)), k.o.grown hg (fun e => h4 (by injection e)), k.r.grown hg hA⟩

theorem cell_far {w : World} {p : Addr} {u v : Value} {b o : Nat} (h : w.cell? ⟨b, o, none⟩ = some v) (hb : b ≠ p.block) : (w.setCell p u).cell? ⟨b, o, none⟩ = some v :=
  (World.cell?_of_block (a := ⟨b, o, none⟩) (Below.heap_setCell w p u b hb)).trans h
theorem lay_cells {w : World} {bo bh bx by' gp : Nat} {u v1 v2 v3 v4 v5 v6 v7 : Value} (i : Nat) (h : w.cell? ⟨bo, 2, none⟩ = some v1 ∧ w.cell? ⟨bo, 0, none⟩ = some v2 ∧ w.cell? ⟨bh, 0, none⟩ = some v3 ∧ w.cell? ⟨bh, 1, none⟩ = some v4 ∧ w.cell? ⟨bh, 2, none⟩ = some v5 ∧ w.cell? ⟨bx, 0, none⟩ = some v6 ∧ w.cell? ⟨by', 0, none⟩ = some v7)
    (h1 : bh ≠ gp) (h2 : bx ≠ gp) (h3 : by' ≠ gp) (h4 : bo ≠ gp) : (w.setCell ⟨gp, i, none⟩ u).cell? ⟨bo, 2, none⟩ = some v1 ∧ (w.setCell ⟨gp, i, none⟩ u).cell? ⟨bo, 0, none⟩ = some v2 ∧ (w.setCell ⟨gp, i, none⟩ u).cell? ⟨bh, 0, none⟩ = some v3 ∧ (w.setCell ⟨gp, i, none⟩ u).cell? ⟨bh, 1, none⟩ = some v4 ∧ (w.setCell ⟨gp, i, none⟩ u).cell? ⟨bh, 2, none⟩ = some v5 ∧ (w.setCell ⟨gp, i, none⟩ u).cell? ⟨bx, 0, none⟩ = some v6 ∧ (w.setCell ⟨gp, i, none⟩ u).cell? ⟨by', 0, none⟩ = some v7 :=
  ⟨cell_far h.1 h4, cell_far h.2.1 h4, cell_far h.2.2.1 h1, cell_far h.2.2.2.1 h1, cell_far h.2.2.2.2.1 h1, cell_far h.2.2.2.2.2.1 h2, cell_far h.2.2.2.2.2.2 h3⟩

set_option maxRecDepth 100000 in
set_option maxHeartbeats 4000000 in
theorem lay1_any (W H n bh bx by' bo gp hw hh nh ch : Nat) (Ah : Option Addr) (hpx : List Int) (dx dy : Int) (a b y : Nat) (yi ai bi : Int) (M : Nat → Nat → Bool) (px : List Int) (w : World) (hy : yi = y) (hai : ai = a) (hbi : bi = b) (hW : W ≤ 128) (hH : H ≤ 128) (hn : n = W * H) (hl : px.length = n) (hyH : y < H) (hab : a ≤ b) (hbW : b ≤ W)
    (hhw : hw ≤ 128) (hhh : hh ≤ 128) (hnh : nh = hw * hh) (hdx : -1048576 ≤ dx ∧ dx ≤ 1048576) (hdy : -1048576 ≤ dy ∧ dy ≤ 1048576)
    (k : LayK W H n bh bx by' bo gp hw hh nh ch Ah hpx dx dy w) (hg : Blk w gp 22 (U8 (lay W (layS hw hh hpx dx dy) M px)).toArray) (h1 : bh ≠ gp) (h2 : bx ≠ gp) (h3 : by' ≠ gp) (h4 : bo ≠ gp) (hA : 0 < nh → ∀ a, Ah = some a → a.block ≠ gp) :
    Calls Try.prog 52 #[.int .i64 yi, .int .i64 ai, .int .i64 bi, .pointer (some ⟨bh, 0, none⟩), .pointer (some ⟨bx, 0, none⟩), .pointer (some ⟨by', 0, none⟩), .pointer (some ⟨bo, 0, none⟩)] w fun e w' => e = .returned (.tuple #[]) ∧ Blk w' gp 22 (U8 (lay W (layS hw hh hpx dx dy) (strB M y a b) px)).toArray ∧ w.grownBy w' (some gp) := by
  have HK := Lib.hid k
  have HG := Lib.hid hg
  have HY := Lib.hid hy
  have HA := Lib.hid hai
  have HBI := Lib.hid hbi
  have HN := Lib.hid hn
  have HL := Lib.hid hl
  have HNH := Lib.hid hnh
  have HAA := Lib.hid hA
  have hy0 : 0 ≤ yi := by omega
  have hy1 : yi ≤ 128 := by omega
  have m1 : 0 ≤ yi * (W : Int) := Int.mul_nonneg hy0 (by omega)
  have m2 : yi * (W : Int) ≤ 16384 := by
    have : yi * (W : Int) ≤ 128 * 128 := Int.mul_le_mul (by omega) (by omega) (by omega) (by omega)
    omega
  have hnn : n ≤ 16384 := by rw [hn]; exact mul_le_128 hW hH
  obtain ⟨hdx1, hdx2⟩ := hdx
  obtain ⟨hdy1, hdy2⟩ := hdy
  clear k hg hy hn hl hai hbi hnh hA
  go_enter Try.func52, Try.ntmps52
  go_wp2_with fail
  go_loopw [10] (fun s10 wr => ∃ (x : Nat) (xi : Int), s10 = .int .i64 xi ∧ xi = x ∧ a ≤ x ∧ x ≤ b ∧ Blk wr gp 22 (U8 (lay W (layS hw hh hpx dx dy) (strB M y a x) px)).toArray ∧ w.grownBy wr (some gp)) (fun i _ => b - (intOf i).toNat)
  case atStart => exact ⟨a, ai, rfl, HA.out, Nat.le_refl _, hab, by rw [str_start]; exact HG.out, grown_of_below (bre w) _⟩
  case round =>
    obtain ⟨x, xi, rfl, hx, hx1, hx2, hB, hG⟩ := hrel
    have hbi := HBI.out
    have KR := HK.out.grown hG h1 h2 h3 h4 HAA.out
    by_cases hlt : xi < bi
    · have hxb : x < b := by omega
      have hidx : (yi * (W : Int) + xi).toNat = y * W + x := by
        rw [HY.out, hx, ← Int.natCast_mul, ← Int.natCast_add]
        exact Int.toNat_natCast _
      have hin : y * W + x < n := by
        rw [HN.out]
        have h1 : (y + 1) * W ≤ H * W := Nat.mul_le_mul_right W (by omega)
        rw [Nat.succ_mul, Nat.mul_comm H W] at h1
        omega
      have m3 : yi * (W : Int) + xi < (n : Int) := by omega
      have m4 : 0 ≤ yi * (W : Int) + xi := by omega
      have x0 : 0 ≤ xi := by omega
      have x9 : xi ≤ 128 := by omega
      have hS : layS hw hh hpx dx dy x y = if hasB hw hh (xi - dx) (yi - dy) then some (gat hw hh hpx (xi - dx) (yi - dy)) else none := by
        unfold layS
        rw [HY.out, hx]
      obtain ⟨k2, k0, q0, q1, q2, qx, qy⟩ := KR.cells
      have HKR := Lib.hid KR
      have HX := Lib.hid hx
      have HBB := Lib.hid hB
      have HGG := Lib.hid hG
      have HI := Lib.hid hidx
      clear hx hB hG hidx hbi KR
      cases hh2 : hasB hw hh (xi - dx) (yi - dy)
      · rw [hh2] at hS
        have HS := Lib.hid (hS.trans (if_neg (by decide)))
        clear hS
        go_wp2_with (go_at_call 35; refine (has_any _ _ _ _ _ _ _ _).mono ?_; rintro e w' ⟨rfl, rfl⟩; rw [hh2])
        go_roundw
        case rel =>
          refine ⟨x + 1, xi + 1, by go_num, by rw [HX.out]; rfl, by omega, by omega, ?_, grown_bel HGG.out (bal (bre wr) _)⟩
          rw [← str_skip (by omega) HS.out]
          exact HBB.out.alloc _
        case measure => have := HX.out; have := HBI.out; simp [intOf]; omega
      · rw [hh2] at hS
        have HS := Lib.hid (hS.trans (if_pos rfl))
        clear hS
        go_upto_region 4 with (go_at_call 35; refine (has_any _ _ _ _ _ _ _ _).mono ?_; rintro e w' ⟨rfl, rfl⟩; rw [hh2])
        have bV := bal (bre wr) (.cells #[.int .i64 hw, .int .i64 hh, .slice Ah nh ch] 25)
        obtain ⟨V, hV⟩ : ∃ V, wr.alloc (.cells #[.int .i64 hw, .int .i64 hh, .slice Ah nh ch] 25) = V := ⟨_, rfl⟩
        rw [hV] at bV ⊢
        have HKV := Lib.hid (HKR.out.below bV)
        have HBV := Lib.hid (HBB.out.belowS bV)
        have HGV := Lib.hid (grown_bel HGG.out bV)
        clear hV bV k2 k0 q0 q1 q2 qx qy HKR HBB HGG
        obtain ⟨k2, k0, q0, q1, q2, qx, qy⟩ := HKV.out.cells
        have w1 : IntKind.i64.wrap (yi * (W : Int)) = yi * (W : Int) := IntWalk.i64_in _ (by omega)
        have w2 : IntKind.i64.wrap (yi * (W : Int) + xi) = yi * (W : Int) + xi := IntWalk.i64_in _ (by omega)
        have w3 : IntKind.i64.wrap (xi - dx) = xi - dx := IntWalk.i64_in _ (by omega)
        have w4 : IntKind.i64.wrap (yi - dy) = yi - dy := IntWalk.i64_in _ (by omega)
        obtain ⟨q, hq⟩ : ∃ q, (lay W (layS hw hh hpx dx dy) (strB M y a x) px)[(yi * (W : Int) + xi).toNat]? = some q := ⟨_, List.getElem?_eq_getElem (by rw [lay_len, HL.out, HI.out]; exact hin)⟩
        have HQ := Lib.hid hq
        clear hq
        go_region_held3 (fun w' => w'.cell? ⟨bo, 2, none⟩ = some (.slice (some ⟨gp, 0, none⟩) n n) ∧ w'.cell? ⟨bo, 0, none⟩ = some (.int .i64 W) ∧ w'.cell? ⟨bh, 0, none⟩ = some (.int .i64 hw) ∧ w'.cell? ⟨bh, 1, none⟩ = some (.int .i64 hh) ∧ w'.cell? ⟨bh, 2, none⟩ = some (.slice Ah nh ch) ∧ w'.cell? ⟨bx, 0, none⟩ = some (.int .i64 dx) ∧ w'.cell? ⟨by', 0, none⟩ = some (.int .i64 dy))
          (first | with_reducible exact HK5.out | with_reducible exact lay_cells _ HK5.out h1 h2 h3 h4 | go_keep)
          (first | (go_at_call 14; refine (at_any hw hh hpx (xi - dx) (yi - dy) Ah nh ch _ HNH.out hhw hhh (by exact HKV.out.r.alike rfl)).mono ?_; rintro e w5 ⟨rfl, b5'⟩; have b5 := undrewX (w := V) b5' rfl rfl rfl rfl; have HK5 := Lib.hid (HKV.out.below b5).cells; have HB5 := Lib.hid (HBV.out.belowS b5); have HG5 := Lib.hid (grown_bel HGV.out b5); have cg := HB5.out.cellV (i := (yi * (W : Int) + xi).toNat) (v := .int .u8 q) (by simpa using u8_get HQ.out); have fg := HB5.out.frozen (yi * (W : Int) + xi).toNat; obtain ⟨t2, t0, u0, u1, u2, ux, uy⟩ := (HKV.out.below b5).cells; clear b5 b5'))
        go_wp2_with fail
        go_roundw
        case rel =>
          refine ⟨x + 1, xi + 1, by go_num, by rw [HX.out]; rfl, by omega, by omega, ?_, HG5.out.andThen (grown_setCell _ _ _) (fun j hj => .inr hj)⟩
          have h2 := HB5.out.putU8 (yi * (W : Int) + xi).toNat (gat hw hh hpx (xi - dx) (yi - dy))
          rw [HI.out, str_step hx1 (by omega) HS.out] at h2
          rw [HI.out]
          exact h2
        case measure => have := HX.out; have := HBI.out; simp [intOf]; omega
    · obtain rfl : x = b := by omega
      have HBB := Lib.hid hB
      have HGG := Lib.hid hG
      clear hx hB hG hbi KR
      go_wp2_with fail
      exact bodyPost_end (v := .tuple #[]) (by simp [results, Try.results52, go_sem]) rfl ⟨rfl, HBB.out, HGG.out⟩

end Go.Proofs.Ytcdecglbkcllaab
