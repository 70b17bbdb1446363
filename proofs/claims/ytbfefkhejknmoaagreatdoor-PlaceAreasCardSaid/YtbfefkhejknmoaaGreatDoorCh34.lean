/-
  The walk of gravity.Shift at gravities that may be, and rectangles that may be windows'.
-/
import Derived.Test.YtbfefkhejknmoaaGreatDoorCh6
import Derived.Test.YtbfefkhejknmoaaGreatDoorCh11
namespace Go.Proofs.YtbfefkhejknmoaaGreatDoor
open Go.RowKit

/-- the table of halves. -/
def halvesL : List (Int × Int) := [(0, 0), (0, 0), (1, 0), (2, 0), (0, 1), (1, 1), (2, 1), (0, 2), (1, 2), (2, 2)]
/-- the world has the table. -/
def Halves (w : World) : Prop := 0 < w.heap.size ∧ ∀ k h, halvesL[k]? = some h → w.cell? ⟨0, k * 2, none⟩ = some (.int .i64 h.1) ∧ w.cell? ⟨0, k * 2 + 1, none⟩ = some (.int .i64 h.2)
theorem Halves.below {w w' : World} {B : Nat} (h : Halves w) (hb : Below B w w') (hB : 0 < B) : Halves w' :=
  ⟨Nat.lt_of_lt_of_le h.1 hb.size, fun k x hx => ⟨(hb.cell (p := ⟨0, k * 2, none⟩) hB).trans (h.2 k x hx).1, (hb.cell (p := ⟨0, k * 2 + 1, none⟩) hB).trans (h.2 k x hx).2⟩⟩
def halfX (g : Int) : Int := (halvesL.getD g.toNat (0, 0)).1
def halfY (g : Int) : Int := (halvesL.getD g.toNat (0, 0)).2
/-- by how much contents move. -/
def shX (g : Int) (was now : RC) : Int := if g = 0 then 0 else if g = 10 then was.X - now.X else partI (now.W - was.W) (halfX g)
def shY (g : Int) (was now : RC) : Int := if g = 0 then 0 else if g = 10 then was.Y - now.Y else partI (now.H - was.H) (halfY g)

set_option maxRecDepth 100000 in
set_option maxHeartbeats 4000000 in
theorem shift_any (g : Int) (was now : RC) (w : World) (hg : gravC g = 0) (hw : was.win) (hn : now.win) (hH : Halves w) :
    Calls Tryz.prog 41 #[.int .i64 g, .agg #[.int .i64 was.X, .int .i64 was.Y, .int .i64 was.W, .int .i64 was.H], .agg #[.int .i64 now.X, .int .i64 now.Y, .int .i64 now.W, .int .i64 now.H]] w fun e w' => e = .returned (.tuple #[.agg #[.int .i64 (shX g was now), .int .i64 (shY g was now)], .bool (!(decide (g = 0)))]) ∧ Below w.heap.size w w' := by
  have HBE := Lib.hid (bal (bal (bal (bre w) (.cells #[.int .i64 was.X, .int .i64 was.Y, .int .i64 was.W, .int .i64 was.H] 29)) (.cells #[.int .i64 now.X, .int .i64 now.Y, .int .i64 now.W, .int .i64 now.H] 29)) (.cells #[.int .i64 0, .int .i64 0] 59))
  have H4 := Lib.hid (((Blk.new w 29 #[.int .i64 was.X, .int .i64 was.Y, .int .i64 was.W, .int .i64 was.H]).alloc (.cells #[.int .i64 now.X, .int .i64 now.Y, .int .i64 now.W, .int .i64 now.H] 29)).alloc (.cells #[.int .i64 0, .int .i64 0] 59))
  have H5 := Lib.hid ((blk_new2 w (.cells #[.int .i64 was.X, .int .i64 was.Y, .int .i64 was.W, .int .i64 was.H] 29) 29 #[.int .i64 now.X, .int .i64 now.Y, .int .i64 now.W, .int .i64 now.H]).alloc (.cells #[.int .i64 0, .int .i64 0] 59))
  have H6 := Lib.hid (blk_new3 w (.cells #[.int .i64 was.X, .int .i64 was.Y, .int .i64 was.W, .int .i64 was.H] 29) (.cells #[.int .i64 now.X, .int .i64 now.Y, .int .i64 now.W, .int .i64 now.H] 29) 59 #[.int .i64 0, .int .i64 0])
  have hb0 := hH.1
  have HH := Lib.hid hH
  clear hH
  have hgb : 0 ≤ g ∧ g ≤ 10 := by
    unfold gravC at hg
    split at hg
    · assumption
    · cases hg
  by_cases h0 : g = 0
  · subst h0
    have e1 : shX 0 was now = 0 := rfl
    have e2 : shY 0 was now = 0 := rfl
    rw [e1, e2]
    clear e1 e2 hgb
    go_enter Tryz.func41, Tryz.ntmps41
    go_wp2_with fail
    exact bodyPost_ret (v := .tuple #[.agg #[.int .i64 0, .int .i64 0], .bool false]) (by simp [results, Tryz.results41, go_sem]) rfl ⟨rfl, HBE.out⟩
  · have d0 : (g == 0) = false := by simp [h0]
    have HG := Lib.hid hg
    clear hg
    rw [show decide (g = 0) = false by simp [h0]]
    obtain ⟨sx, hsx⟩ : ∃ sx, shX g was now = sx := ⟨_, rfl⟩
    obtain ⟨sy, hsy⟩ : ∃ sy, shY g was now = sy := ⟨_, rfl⟩
    rw [hsx, hsy]
    have HSX := Lib.hid hsx
    have HSY := Lib.hid hsy
    clear hsx hsy
    go_enter Tryz.func41, Tryz.ntmps41
    go_upto_region 3 with (first
      | (go_at_call 43; refine (gcheck_any _ _).mono ?_; rintro e w' ⟨rfl, rfl⟩; rw [HG.out])
      | (go_at_call 61; with_reducible refine (rempty_no was _ hw).mono ?_; rintro e w1 ⟨rfl, hb1⟩; have b5 := H5.out.belowS hb1; have p0 := b5.cellV (i := 0) (v := .int .i64 now.X) rfl; have p1 := b5.cellV (i := 1) (v := .int .i64 now.Y) rfl; have p2 := b5.cellV (i := 2) (v := .int .i64 now.W) rfl; have p3 := b5.cellV (i := 3) (v := .int .i64 now.H) rfl; have HB1 := Lib.hid hb1; clear b5 hb1)
      | (go_at_call 61; with_reducible refine (rempty_no now _ hn).mono ?_; rintro e w2 ⟨rfl, hb2⟩; have HB2 := Lib.hid hb2; clear hb2))
    have HBW := Lib.hid (bstep (bstep HBE.out HB1.out) HB2.out)
    have K4 := Lib.hid ((H4.out.belowS HB1.out).belowS HB2.out)
    have K5 := Lib.hid ((H5.out.belowS HB1.out).belowS HB2.out)
    have K6 := Lib.hid ((H6.out.belowS HB1.out).belowS HB2.out)
    have hs2 := K6.out.lt
    have HH2 := Lib.hid (HH.out.below HBW.out hb0)
    clear H4 H5 H6 HB1 HB2 HBE HH p0 p1 p2 p3
    have q0 := K6.out.cellV (i := 0) (v := .int .i64 0) rfl
    have q1 := K6.out.cellV (i := 1) (v := .int .i64 0) rfl
    have f0 := K6.out.frozen 0
    have f1 := K6.out.frozen 1
    have p0 := K4.out.cellV (i := 0) (v := .int .i64 was.X) rfl
    have p1 := K4.out.cellV (i := 1) (v := .int .i64 was.Y) rfl
    have p2 := K4.out.cellV (i := 2) (v := .int .i64 was.W) rfl
    have p3 := K4.out.cellV (i := 3) (v := .int .i64 was.H) rfl
    have s0 := K5.out.cellV (i := 0) (v := .int .i64 now.X) rfl
    have s1 := K5.out.cellV (i := 1) (v := .int .i64 now.Y) rfl
    have s2 := K5.out.cellV (i := 2) (v := .int .i64 now.W) rfl
    have s3 := K5.out.cellV (i := 3) (v := .int .i64 now.H) rfl
    obtain ⟨⟨hx1, hx2⟩, ⟨hy1, hy2⟩, ⟨hw1, hw2⟩, hh1, hh2⟩ := hw
    obtain ⟨⟨nx1, nx2⟩, ⟨ny1, ny2⟩, ⟨nw1, nw2⟩, nh1, nh2⟩ := hn
    by_cases h10 : g = 10
    · subst h10
      go_wp2_with fail
      have hb9 := (K6.out.set_ 0 (.int .i64 (was.X - now.X))).set_ 1 (.int .i64 (was.Y - now.Y))
      have r0 := hb9.cellV (i := 0) (v := .int .i64 (was.X - now.X)) rfl
      have r1 := hb9.cellV (i := 1) (v := .int .i64 (was.Y - now.Y)) rfl
      have e1 : sx = was.X - now.X := HSX.out.symm
      have e2 : sy = was.Y - now.Y := HSY.out.symm
      rw [e1, e2]
      exact bodyPost_ret (v := .tuple #[.agg #[.int .i64 (was.X - now.X), .int .i64 (was.Y - now.Y)], .bool true]) (by simp [results, Tryz.results41, go_sem, r0, r1]) rfl ⟨rfl, bset (bset HBW.out (by show w.heap.size ≤ w.heap.size + 1 + 1; omega) _) (by show w.heap.size ≤ w.heap.size + 1 + 1; omega) _⟩
    · have d1 : (g == 10) = false := by simp [h10]
      obtain ⟨k, rfl⟩ : ∃ k : Nat, g = (k : Int) := ⟨g.toNat, by omega⟩
      have hk : k < 10 := by omega
      obtain ⟨⟨hx, hy⟩, hv⟩ : ∃ h, halvesL[k]? = some h := ⟨_, List.getElem?_eq_getElem (by simpa [halvesL] using hk)⟩
      obtain ⟨v0, v1⟩ := HH2.out.2 k _ hv
      have ex : halfX (k : Int) = hx := by
        unfold halfX
        rw [show ((k : Nat) : Int).toNat = k by omega, List.getD, hv]
        rfl
      have ey : halfY (k : Int) = hy := by
        unfold halfY
        rw [show ((k : Nat) : Int).toNat = k by omega, List.getD, hv]
        rfl
      have EX := Lib.hid ex
      have EY := Lib.hid ey
      have k1 : (k : Int) < 10 := by omega
      have k0 : (0 : Int) ≤ (k : Int) := by omega
      dsimp only at v0 v1
      clear hv ex ey
      go_upto_region 6 with fail
      have hBX := bal HBW.out (.cells #[.int .i64 hx, .int .i64 hy] 111)
      have k8 := Blk.new w2 111 #[.int .i64 hx, .int .i64 hy]
      have k4 := K4.out.alloc (.cells #[.int .i64 hx, .int .i64 hy] 111)
      have k5 := K5.out.alloc (.cells #[.int .i64 hx, .int .i64 hy] 111)
      have k6 := K6.out.alloc (.cells #[.int .i64 hx, .int .i64 hy] 111)
      obtain ⟨W3, hW3⟩ : ∃ W3, w2.alloc (.cells #[.int .i64 hx, .int .i64 hy] 111) = W3 := ⟨_, rfl⟩
      rw [hW3] at hBX k8 k4 k5 k6 ⊢
      have HBX := Lib.hid hBX
      have K8 := Lib.hid k8
      have K4 := Lib.hid k4
      have K5 := Lib.hid k5
      have K6 := Lib.hid k6
      clear hBX k8 k4 k5 k6 hW3
      clear q0 q1 f0 f1 p0 p1 p2 p3 s0 s1 s2 s3 v0 v1 HH2
      have ws1 : IntKind.i64.wrap (now.W - was.W) = now.W - was.W := IntWalk.i64_in _ (by omega)
      have ws2 : IntKind.i64.wrap (now.H - was.H) = now.H - was.H := IntWalk.i64_in _ (by omega)
      have q0 := K6.out.cellV (i := 0) (v := .int .i64 0) rfl
      have q1 := K6.out.cellV (i := 1) (v := .int .i64 0) rfl
      have f0 := K6.out.frozen 0
      have f1 := K6.out.frozen 1
      refine wp_region_noPanic ?_
      refine wp_region_held_drew (S := (fun w' => w'.cell? ⟨w.heap.size, 2, none⟩ = some (.int .i64 was.W) ∧ w'.cell? ⟨w.heap.size, 3, none⟩ = some (.int .i64 was.H) ∧ w'.cell? ⟨w.heap.size + 1, 2, none⟩ = some (.int .i64 now.W) ∧ w'.cell? ⟨w.heap.size + 1, 3, none⟩ = some (.int .i64 now.H) ∧ w'.cell? ⟨w2.heap.size, 0, none⟩ = some (.int .i64 hx) ∧ w'.cell? ⟨w2.heap.size, 1, none⟩ = some (.int .i64 hy))) (by kernel_rfl) ?_ (fun hHeld => ?_)
      · (try dsimp only)
        exact ⟨K4.out.cellV (i := 2) rfl, K4.out.cellV (i := 3) rfl, K5.out.cellV (i := 2) rfl, K5.out.cellV (i := 3) rfl, K8.out.cellV (i := 0) rfl, K8.out.cellV (i := 1) rfl⟩
      refine Tr.take_at 0 41 (.pointer (some ⟨w.heap.size + 1, 2, none⟩)) rfl rfl (by kernel_rfl) (by kernel_rfl) (by kernel_rfl) (fun _ _ _ h => h) (Or.inl ⟨by rfl, ?_⟩) (by assumption) ?_
      · intro W0 hSw
        (try dsimp only at hSw)
        go_simp
      simp only [List.set_cons_zero, List.set_cons_succ]
      refine Tr.take_at 1 42 (.int .i64 now.W) rfl rfl (by kernel_rfl) (by kernel_rfl) (by kernel_rfl) (fun _ _ _ h => h) (Or.inl ⟨by rfl, ?_⟩) (by assumption) ?_
      · intro W0 hSw
        (try dsimp only at hSw)
        go_simp
      simp only [List.set_cons_zero, List.set_cons_succ]
      refine Tr.take_at 2 43 (.pointer (some ⟨w.heap.size, 2, none⟩)) rfl rfl (by kernel_rfl) (by kernel_rfl) (by kernel_rfl) (fun _ _ _ h => h) (Or.inl ⟨by rfl, ?_⟩) (by assumption) ?_
      · intro W0 hSw
        (try dsimp only at hSw)
        go_simp
      simp only [List.set_cons_zero, List.set_cons_succ]
      refine Tr.take_at 3 44 (.int .i64 was.W) rfl rfl (by kernel_rfl) (by kernel_rfl) (by kernel_rfl) (fun _ _ _ h => h) (Or.inl ⟨by rfl, ?_⟩) (by assumption) ?_
      · intro W0 hSw
        (try dsimp only at hSw)
        go_simp
      simp only [List.set_cons_zero, List.set_cons_succ]
      refine Tr.take_at 4 45 (.int .i64 (now.W - was.W)) rfl rfl (by kernel_rfl) (by kernel_rfl) (by kernel_rfl) (fun _ _ _ h => h) (Or.inl ⟨by rfl, ?_⟩) (by assumption) ?_
      · intro W0 hSw
        (try dsimp only at hSw)
        go_simp
      simp only [List.set_cons_zero, List.set_cons_succ]
      refine Tr.take_at 5 46 (.pointer (some ⟨w2.heap.size, 0, none⟩)) rfl rfl (by kernel_rfl) (by kernel_rfl) (by kernel_rfl) (fun _ _ _ h => h) (Or.inl ⟨by rfl, ?_⟩) (by assumption) ?_
      · intro W0 hSw
        (try dsimp only at hSw)
        go_simp
      simp only [List.set_cons_zero, List.set_cons_succ]
      refine Tr.take_at 6 47 (.int .i64 hx) rfl rfl (by kernel_rfl) (by kernel_rfl) (by kernel_rfl) (fun _ _ _ h => h) (Or.inl ⟨by rfl, ?_⟩) (by assumption) ?_
      · intro W0 hSw
        (try dsimp only at hSw)
        go_simp
      simp only [List.set_cons_zero, List.set_cons_succ]
      refine Tr.take_at 8 49 (.pointer (some ⟨w.heap.size + 1, 3, none⟩)) rfl rfl (by kernel_rfl) (by kernel_rfl) (by kernel_rfl) (fun _ _ _ h => h) (Or.inl ⟨by rfl, ?_⟩) (by assumption) ?_
      · intro W0 hSw
        (try dsimp only at hSw)
        go_simp
      simp only [List.set_cons_zero, List.set_cons_succ]
      refine Tr.take_at 9 50 (.int .i64 now.H) rfl rfl (by kernel_rfl) (by kernel_rfl) (by kernel_rfl) (fun _ _ _ h => h) (Or.inl ⟨by rfl, ?_⟩) (by assumption) ?_
      · intro W0 hSw
        (try dsimp only at hSw)
        go_simp
      simp only [List.set_cons_zero, List.set_cons_succ]
      refine Tr.take_at 10 51 (.pointer (some ⟨w.heap.size, 3, none⟩)) rfl rfl (by kernel_rfl) (by kernel_rfl) (by kernel_rfl) (fun _ _ _ h => h) (Or.inl ⟨by rfl, ?_⟩) (by assumption) ?_
      · intro W0 hSw
        (try dsimp only at hSw)
        go_simp
      simp only [List.set_cons_zero, List.set_cons_succ]
      refine Tr.take_at 11 52 (.int .i64 was.H) rfl rfl (by kernel_rfl) (by kernel_rfl) (by kernel_rfl) (fun _ _ _ h => h) (Or.inl ⟨by rfl, ?_⟩) (by assumption) ?_
      · intro W0 hSw
        (try dsimp only at hSw)
        go_simp
      simp only [List.set_cons_zero, List.set_cons_succ]
      refine Tr.take_at 12 53 (.int .i64 (now.H - was.H)) rfl rfl (by kernel_rfl) (by kernel_rfl) (by kernel_rfl) (fun _ _ _ h => h) (Or.inl ⟨by rfl, ?_⟩) (by assumption) ?_
      · intro W0 hSw
        (try dsimp only at hSw)
        go_simp
      simp only [List.set_cons_zero, List.set_cons_succ]
      refine Tr.take_at 13 54 (.pointer (some ⟨w2.heap.size, 1, none⟩)) rfl rfl (by kernel_rfl) (by kernel_rfl) (by kernel_rfl) (fun _ _ _ h => h) (Or.inl ⟨by rfl, ?_⟩) (by assumption) ?_
      · intro W0 hSw
        (try dsimp only at hSw)
        go_simp
      simp only [List.set_cons_zero, List.set_cons_succ]
      refine Tr.take_at 14 55 (.int .i64 hy) rfl rfl (by kernel_rfl) (by kernel_rfl) (by kernel_rfl) (fun _ _ _ h => h) (Or.inl ⟨by rfl, ?_⟩) (by assumption) ?_
      · intro W0 hSw
        (try dsimp only at hSw)
        go_simp
      simp only [List.set_cons_zero, List.set_cons_succ]
      refine wpAnyH_ready (rs := [7]) (by kernel_rfl) (by simp) ?_
      refine AllReadyH.cons rfl (fun K hK => ?_) AllReadyH.nil
      go_simp
      refine (part_any _ _ _ (by omega)).mono ?_
      rintro e w' ⟨rfl, rfl⟩
      go_simp
      refine hK.out _ _ ?_ (fun hHeld => ?_)
      · (try dsimp only)
        exact ⟨K4.out.cellV (i := 2) rfl, K4.out.cellV (i := 3) rfl, K5.out.cellV (i := 2) rfl, K5.out.cellV (i := 3) rfl, K8.out.cellV (i := 0) rfl, K8.out.cellV (i := 1) rfl⟩
      clear hK K
      refine wpAnyH_ready (rs := [15]) (by kernel_rfl) (by simp) ?_
      refine AllReadyH.cons rfl (fun K hK => ?_) AllReadyH.nil
      go_simp
      refine (part_any _ _ _ (by omega)).mono ?_
      rintro e w' ⟨rfl, rfl⟩
      go_simp
      refine hK.out _ _ ?_ (fun hHeld => ?_)
      · (try dsimp only)
        exact ⟨K4.out.cellV (i := 2) rfl, K4.out.cellV (i := 3) rfl, K5.out.cellV (i := 2) rfl, K5.out.cellV (i := 3) rfl, K8.out.cellV (i := 0) rfl, K8.out.cellV (i := 1) rfl⟩
      clear hK K
      refine Tr.take_at 16 57 (.agg #[.int .i64 (partI (now.W - was.W) hx), .int .i64 (partI (now.H - was.H) hy)]) rfl rfl (by kernel_rfl) (by kernel_rfl) (by kernel_rfl) (fun _ _ _ h => h) (Or.inl ⟨by rfl, ?_⟩) (by assumption) ?_
      · intro W0 hSw
        (try dsimp only at hSw)
        go_simp
      simp only [List.set_cons_zero, List.set_cons_succ]
      refine wpAnyH_ready (rs := [17]) (by kernel_rfl) (by simp) ?_
      refine AllReadyH.cons rfl (fun K hK => ?_) AllReadyH.nil
      go_simp
      refine hK.out _ _ ?_ (fun hHeld => ?_)
      · (try dsimp only)
        exact ⟨((K4.out.far (by show _ ≠ _; simp only; omega) _).far (by show _ ≠ _; simp only; omega) _).cellV (i := 2) rfl, ((K4.out.far (by show _ ≠ _; simp only; omega) _).far (by show _ ≠ _; simp only; omega) _).cellV (i := 3) rfl, ((K5.out.far (by show _ ≠ _; simp only; omega) _).far (by show _ ≠ _; simp only; omega) _).cellV (i := 2) rfl, ((K5.out.far (by show _ ≠ _; simp only; omega) _).far (by show _ ≠ _; simp only; omega) _).cellV (i := 3) rfl, ((K8.out.far (by show _ ≠ _; simp only; omega) _).far (by show _ ≠ _; simp only; omega) _).cellV (i := 0) rfl, ((K8.out.far (by show _ ≠ _; simp only; omega) _).far (by show _ ≠ _; simp only; omega) _).cellV (i := 1) rfl⟩
      clear hK K
      refine Tr.take_at 18 7 (.bool true) rfl rfl (by kernel_rfl) (by kernel_rfl) (by kernel_rfl) (fun _ _ _ h => h) (Or.inl ⟨by rfl, ?_⟩) (by assumption) ?_
      · intro W0 hSw
        (try dsimp only at hSw)
        go_simp
      simp only [List.set_cons_zero, List.set_cons_succ]
      refine wpAnyH_done (by kernel_rfl) ?_ _
      refine NoPanic.normal ?_
      have hb9 := (K6.out.set_ 0 (.int .i64 (partI (now.W - was.W) hx))).set_ 1 (.int .i64 (partI (now.H - was.H) hy))
      have r0 := hb9.cellV (i := 0) (v := .int .i64 (partI (now.W - was.W) hx)) rfl
      have r1 := hb9.cellV (i := 1) (v := .int .i64 (partI (now.H - was.H) hy)) rfl
      go_wp2_with fail
      have e1 : sx = partI (now.W - was.W) hx := by
        rw [← HSX.out]
        unfold shX
        rw [if_neg h0, if_neg h10, EX.out]
      have e2 : sy = partI (now.H - was.H) hy := by
        rw [← HSY.out]
        unfold shY
        rw [if_neg h0, if_neg h10, EY.out]
      rw [e1, e2]
      exact bodyPost_ret (v := .tuple #[.agg #[.int .i64 (partI (now.W - was.W) hx), .int .i64 (partI (now.H - was.H) hy)], .bool true]) (by simp [results, Tryz.results41, go_sem, r0, r1]) rfl ⟨rfl, (bset (p := ⟨w.heap.size + 1 + 1, 1, none⟩) (bset (p := ⟨w.heap.size + 1 + 1, 0, none⟩) HBX.out (by show w.heap.size ≤ w.heap.size + 1 + 1; omega) _) (by show w.heap.size ≤ w.heap.size + 1 + 1; omega) _).drew⟩

end Go.Proofs.YtbfefkhejknmoaaGreatDoor
