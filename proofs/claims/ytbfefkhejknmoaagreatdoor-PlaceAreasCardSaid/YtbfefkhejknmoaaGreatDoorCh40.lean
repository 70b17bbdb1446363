/-
  The walk of boxOf: the document's box as the program's.
-/
import Derived.Test.YtbfefkhejknmoaaGreatDoorCh28
import Derived.Test.YtbfefkhejknmoaaGreatDoorCh39
import Derived.Test.YtbfefkhejknmoaaGreatDoorCh11
namespace Go.Proofs.YtbfefkhejknmoaaGreatDoor
open Go.RowKit

theorem RdR.far {W : World} {A : Option Addr} {n : Nat} {rs : List RC} (h : RdR W A n rs) {g : Nat} (hA : 0 < n → ∀ a, A = some a → a.block ≠ g) (i : Nat) (u : Value) : RdR (W.setCell ⟨g, i, none⟩ u) A n rs :=
  ⟨h.1, fun hn => by
    obtain ⟨b, off, e, hb, hc⟩ := h.2 hn
    have hne : b ≠ g := hA hn _ e
    have hk : ∀ o v, W.cell? ⟨b, o, none⟩ = some v → (W.setCell ⟨g, i, none⟩ u).cell? ⟨b, o, none⟩ = some v := fun o v hv => (World.cell?_setCell_other W ⟨g, i, none⟩ ⟨b, o, none⟩ u (fun e' => by cases e'; exact hne rfl)).trans hv
    exact ⟨b, off, e, by simpa [World.setCell] using hb, fun i r hi => by
      obtain ⟨c0, c1, c2, c3⟩ := hc i r hi
      exact ⟨hk _ _ c0, hk _ _ c1, hk _ _ c2, hk _ _ c3⟩⟩⟩
theorem rdR_neZ {W : World} {A : Option Addr} {n g : Nat} {t : TypeId} {rs : List RC} (h : RdR W A n rs) (hp : ∀ r ∈ rs, 0 < r.W) (hB : Blk W g t #[.int .i64 0, .int .i64 0, .int .i64 0, .int .i64 0, .bool false, .int .i64 0, .int .i64 0, .bool false, .slice none 0 0]) : 0 < n → ∀ a, A = some a → a.block ≠ g := by
  intro hn a ea e
  obtain ⟨b, off, e', hb, hc⟩ := h.2 hn
  rw [ea] at e'
  cases e'
  dsimp only at e
  subst e
  obtain ⟨r, hr⟩ : ∃ r, rs[0]? = some r := ⟨_, List.getElem?_eq_getElem (by rw [h.1]; exact hn)⟩
  have hw := hp r (List.mem_of_getElem? hr)
  obtain ⟨c0, c1, c2, c3⟩ := hc 0 r hr
  rw [hB.cell] at c0 c1 c2 c3
  match off, c0, c1, c2, c3 with
  | 0, _, _, c2, _ => simp at c2; omega
  | 1, _, _, _, c3 => simp at c3
  | 2, _, _, c2, _ => simp at c2
  | 3, _, c1, _, _ => simp at c1
  | 4, c0, _, _, _ => simp at c0
  | 5, _, _, c2, _ => simp at c2
  | 6, _, c1, _, _ => simp at c1
  | 7, c0, _, _, _ => simp at c0
  | 8, c0, _, _, _ => simp at c0
  | o + 9, c0, _, _, _ => simp at c0

set_option maxRecDepth 100000 in
set_option maxHeartbeats 4000000 in
theorem boxof_go (id X Y W H : Int) (M : Bool) (G B : Int) (S : Bool) (As : Option Addr) (ns cs : Nat) (sh : List RC) (w : World) (hs : RdR w As ns sh) (hn : ns ≤ 100000) (hm : ∀ r ∈ sh, r.X ≤ 9223372036854775807 ∧ r.Y ≤ 9223372036854775807) :
    Calls Tryz.prog 33 #[.agg #[.int .u32 id, .int .i64 X, .int .i64 Y, .int .i64 W, .int .i64 H, .bool M, .int .i64 G, .int .i64 B, .bool S, .slice As ns cs]] w fun e w' => ∃ (out : List RC) (A5 : Option Addr) (c5 : Nat), e = .returned (.agg #[.int .i64 X, .int .i64 Y, .int .i64 W, .int .i64 H, .bool M, .int .i64 G, .int .i64 B, .bool S, .slice A5 out.length c5]) ∧ RdR w' A5 out.length out ∧ Canon out ∧ (∀ x y, InR out x y ↔ InR (sh.filter RC.cnt) x y) ∧ out.length ≤ 1000000000000 ∧ Below w.heap.size w w' := by
  have K1 := Lib.hid ((Blk.new w 79 #[.int .u32 id, .int .i64 X, .int .i64 Y, .int .i64 W, .int .i64 H, .bool M, .int .i64 G, .int .i64 B, .bool S, .slice As ns cs]).alloc (.cells #[.int .i64 0, .int .i64 0, .int .i64 0, .int .i64 0, .bool false, .int .i64 0, .int .i64 0, .bool false, .slice none 0 0] 46))
  have K2 := Lib.hid (blk_new2 w (.cells #[.int .u32 id, .int .i64 X, .int .i64 Y, .int .i64 W, .int .i64 H, .bool M, .int .i64 G, .int .i64 B, .bool S, .slice As ns cs] 79) 46 #[.int .i64 0, .int .i64 0, .int .i64 0, .int .i64 0, .bool false, .int .i64 0, .int .i64 0, .bool false, .slice none 0 0])
  have HB0 := Lib.hid (bal (bal (bre w) (.cells #[.int .u32 id, .int .i64 X, .int .i64 Y, .int .i64 W, .int .i64 H, .bool M, .int .i64 G, .int .i64 B, .bool S, .slice As ns cs] 79)) (.cells #[.int .i64 0, .int .i64 0, .int .i64 0, .int .i64 0, .bool false, .int .i64 0, .int .i64 0, .bool false, .slice none 0 0] 46))
  have HSD := Lib.hid (hs.below HB0.out.drew)
  clear hs
  go_enter Tryz.func33, Tryz.ntmps33
  go_upto_region 1 with fail
  obtain ⟨X0, hX0⟩ : ∃ X0, (w.alloc (.cells #[.int .u32 id, .int .i64 X, .int .i64 Y, .int .i64 W, .int .i64 H, .bool M, .int .i64 G, .int .i64 B, .bool S, .slice As ns cs] 79)).alloc (.cells #[.int .i64 0, .int .i64 0, .int .i64 0, .int .i64 0, .bool false, .int .i64 0, .int .i64 0, .bool false, .slice none 0 0] 46) = X0 := ⟨_, rfl⟩
  have k1 := K1.out
  have k2 := K2.out
  have hb0 := HB0.out
  have hsd := HSD.out
  rw [hX0] at k1 k2 hb0 hsd ⊢
  have K1 := Lib.hid k1
  have K2 := Lib.hid k2
  have HB0 := Lib.hid hb0
  have HSD := Lib.hid hsd
  clear k1 k2 hb0 hsd hX0
  refine wp_region_noPanic ?_
  refine wp_region_held_drew (S := (fun w' => w'.cell? ⟨w.heap.size, 1, none⟩ = some (.int .i64 X) ∧ w'.cell? ⟨w.heap.size, 2, none⟩ = some (.int .i64 Y) ∧ w'.cell? ⟨w.heap.size, 3, none⟩ = some (.int .i64 W) ∧ w'.cell? ⟨w.heap.size, 4, none⟩ = some (.int .i64 H) ∧ w'.cell? ⟨w.heap.size, 5, none⟩ = some (.bool M) ∧ w'.cell? ⟨w.heap.size, 6, none⟩ = some (.int .i64 G) ∧ w'.cell? ⟨w.heap.size, 7, none⟩ = some (.int .i64 B) ∧ w'.cell? ⟨w.heap.size, 8, none⟩ = some (.bool S) ∧ w'.cell? ⟨w.heap.size, 9, none⟩ = some (.slice As ns cs))) (by kernel_rfl) ?_ (fun hHeld => ?_)
  · (try dsimp only)
    exact ⟨K1.out.cellV (i := 1) rfl, K1.out.cellV (i := 2) rfl, K1.out.cellV (i := 3) rfl, K1.out.cellV (i := 4) rfl, K1.out.cellV (i := 5) rfl, K1.out.cellV (i := 6) rfl, K1.out.cellV (i := 7) rfl, K1.out.cellV (i := 8) rfl, K1.out.cellV (i := 9) rfl⟩
  refine Tr.take_at 0 3 (.pointer (some ⟨w.heap.size, 1, none⟩)) rfl rfl (by kernel_rfl) (by kernel_rfl) (by kernel_rfl) (fun _ _ _ h => h) (Or.inl ⟨by rfl, ?_⟩) (by assumption) ?_
  · intro W0 hSw
    (try dsimp only at hSw)
    go_simp
  simp only [List.set_cons_zero, List.set_cons_succ]
  refine Tr.take_at 1 4 (.int .i64 X) rfl rfl (by kernel_rfl) (by kernel_rfl) (by kernel_rfl) (fun _ _ _ h => h) (Or.inl ⟨by rfl, ?_⟩) (by assumption) ?_
  · intro W0 hSw
    (try dsimp only at hSw)
    go_simp
  simp only [List.set_cons_zero, List.set_cons_succ]
  refine Tr.take_at 2 5 (.pointer (some ⟨w.heap.size, 2, none⟩)) rfl rfl (by kernel_rfl) (by kernel_rfl) (by kernel_rfl) (fun _ _ _ h => h) (Or.inl ⟨by rfl, ?_⟩) (by assumption) ?_
  · intro W0 hSw
    (try dsimp only at hSw)
    go_simp
  simp only [List.set_cons_zero, List.set_cons_succ]
  refine Tr.take_at 3 6 (.int .i64 Y) rfl rfl (by kernel_rfl) (by kernel_rfl) (by kernel_rfl) (fun _ _ _ h => h) (Or.inl ⟨by rfl, ?_⟩) (by assumption) ?_
  · intro W0 hSw
    (try dsimp only at hSw)
    go_simp
  simp only [List.set_cons_zero, List.set_cons_succ]
  refine Tr.take_at 4 7 (.pointer (some ⟨w.heap.size, 3, none⟩)) rfl rfl (by kernel_rfl) (by kernel_rfl) (by kernel_rfl) (fun _ _ _ h => h) (Or.inl ⟨by rfl, ?_⟩) (by assumption) ?_
  · intro W0 hSw
    (try dsimp only at hSw)
    go_simp
  simp only [List.set_cons_zero, List.set_cons_succ]
  refine Tr.take_at 5 8 (.int .i64 W) rfl rfl (by kernel_rfl) (by kernel_rfl) (by kernel_rfl) (fun _ _ _ h => h) (Or.inl ⟨by rfl, ?_⟩) (by assumption) ?_
  · intro W0 hSw
    (try dsimp only at hSw)
    go_simp
  simp only [List.set_cons_zero, List.set_cons_succ]
  refine Tr.take_at 6 9 (.pointer (some ⟨w.heap.size, 4, none⟩)) rfl rfl (by kernel_rfl) (by kernel_rfl) (by kernel_rfl) (fun _ _ _ h => h) (Or.inl ⟨by rfl, ?_⟩) (by assumption) ?_
  · intro W0 hSw
    (try dsimp only at hSw)
    go_simp
  simp only [List.set_cons_zero, List.set_cons_succ]
  refine Tr.take_at 7 10 (.int .i64 H) rfl rfl (by kernel_rfl) (by kernel_rfl) (by kernel_rfl) (fun _ _ _ h => h) (Or.inl ⟨by rfl, ?_⟩) (by assumption) ?_
  · intro W0 hSw
    (try dsimp only at hSw)
    go_simp
  simp only [List.set_cons_zero, List.set_cons_succ]
  refine Tr.take_at 8 11 (.pointer (some ⟨w.heap.size, 5, none⟩)) rfl rfl (by kernel_rfl) (by kernel_rfl) (by kernel_rfl) (fun _ _ _ h => h) (Or.inl ⟨by rfl, ?_⟩) (by assumption) ?_
  · intro W0 hSw
    (try dsimp only at hSw)
    go_simp
  simp only [List.set_cons_zero, List.set_cons_succ]
  refine Tr.take_at 9 12 (.bool M) rfl rfl (by kernel_rfl) (by kernel_rfl) (by kernel_rfl) (fun _ _ _ h => h) (Or.inl ⟨by rfl, ?_⟩) (by assumption) ?_
  · intro W0 hSw
    (try dsimp only at hSw)
    go_simp
  simp only [List.set_cons_zero, List.set_cons_succ]
  refine Tr.take_at 10 13 (.pointer (some ⟨w.heap.size, 6, none⟩)) rfl rfl (by kernel_rfl) (by kernel_rfl) (by kernel_rfl) (fun _ _ _ h => h) (Or.inl ⟨by rfl, ?_⟩) (by assumption) ?_
  · intro W0 hSw
    (try dsimp only at hSw)
    go_simp
  simp only [List.set_cons_zero, List.set_cons_succ]
  refine Tr.take_at 11 14 (.int .i64 G) rfl rfl (by kernel_rfl) (by kernel_rfl) (by kernel_rfl) (fun _ _ _ h => h) (Or.inl ⟨by rfl, ?_⟩) (by assumption) ?_
  · intro W0 hSw
    (try dsimp only at hSw)
    go_simp
  simp only [List.set_cons_zero, List.set_cons_succ]
  refine Tr.take_at 12 15 (.pointer (some ⟨w.heap.size, 7, none⟩)) rfl rfl (by kernel_rfl) (by kernel_rfl) (by kernel_rfl) (fun _ _ _ h => h) (Or.inl ⟨by rfl, ?_⟩) (by assumption) ?_
  · intro W0 hSw
    (try dsimp only at hSw)
    go_simp
  simp only [List.set_cons_zero, List.set_cons_succ]
  refine Tr.take_at 13 16 (.int .i64 B) rfl rfl (by kernel_rfl) (by kernel_rfl) (by kernel_rfl) (fun _ _ _ h => h) (Or.inl ⟨by rfl, ?_⟩) (by assumption) ?_
  · intro W0 hSw
    (try dsimp only at hSw)
    go_simp
  simp only [List.set_cons_zero, List.set_cons_succ]
  refine Tr.take_at 14 17 (.pointer (some ⟨w.heap.size, 8, none⟩)) rfl rfl (by kernel_rfl) (by kernel_rfl) (by kernel_rfl) (fun _ _ _ h => h) (Or.inl ⟨by rfl, ?_⟩) (by assumption) ?_
  · intro W0 hSw
    (try dsimp only at hSw)
    go_simp
  simp only [List.set_cons_zero, List.set_cons_succ]
  refine Tr.take_at 15 18 (.bool S) rfl rfl (by kernel_rfl) (by kernel_rfl) (by kernel_rfl) (fun _ _ _ h => h) (Or.inl ⟨by rfl, ?_⟩) (by assumption) ?_
  · intro W0 hSw
    (try dsimp only at hSw)
    go_simp
  simp only [List.set_cons_zero, List.set_cons_succ]
  refine Tr.take_at 16 19 (.pointer (some ⟨w.heap.size, 9, none⟩)) rfl rfl (by kernel_rfl) (by kernel_rfl) (by kernel_rfl) (fun _ _ _ h => h) (Or.inl ⟨by rfl, ?_⟩) (by assumption) ?_
  · intro W0 hSw
    (try dsimp only at hSw)
    go_simp
  simp only [List.set_cons_zero, List.set_cons_succ]
  refine Tr.take_at 17 20 (.slice As ns cs) rfl rfl (by kernel_rfl) (by kernel_rfl) (by kernel_rfl) (fun _ _ _ h => h) (Or.inl ⟨by rfl, ?_⟩) (by assumption) ?_
  · intro W0 hSw
    (try dsimp only at hSw)
    go_simp
  simp only [List.set_cons_zero, List.set_cons_succ]
  refine wpAnyH_ready (rs := [18]) (by kernel_rfl) (by simp) ?_
  refine AllReadyH.cons rfl (fun K hK => ?_) AllReadyH.nil
  go_simp
  refine (of_any As ns cs sh _ hn HSD.out hm).mono ?_
  rintro e w5 ⟨out, A5, c5, rfl, hr5, hcn5, hi5, hl5, hb5⟩
  have K1 := Lib.hid (K1.out.drewT.belowS hb5)
  have K2 := Lib.hid (K2.out.drewT.belowS hb5)
  have HB5 := Lib.hid (bstep HB0.out.drew hb5)
  have HR5 := Lib.hid hr5
  have HNE := Lib.hid (rdR_neZ hr5 (fun r hr => (canon_pos hcn5 r hr).1) K2.out)
  have HC5 := Lib.hid hcn5
  have HI5 := Lib.hid hi5
  have HL5 := Lib.hid hl5
  clear hr5 hcn5 hi5 hl5 hb5
  have q0 := K2.out.cellV (i := 0) (v := .int .i64 0) rfl
  have q1 := K2.out.cellV (i := 1) (v := .int .i64 0) rfl
  have q2 := K2.out.cellV (i := 2) (v := .int .i64 0) rfl
  have q3 := K2.out.cellV (i := 3) (v := .int .i64 0) rfl
  have q4 := K2.out.cellV (i := 4) (v := .bool false) rfl
  have q5 := K2.out.cellV (i := 5) (v := .int .i64 0) rfl
  have q6 := K2.out.cellV (i := 6) (v := .int .i64 0) rfl
  have q7 := K2.out.cellV (i := 7) (v := .bool false) rfl
  have q8 := K2.out.cellV (i := 8) (v := .slice none 0 0) rfl
  have f0 := K2.out.frozen 0
  have f1 := K2.out.frozen 1
  have f2 := K2.out.frozen 2
  have f3 := K2.out.frozen 3
  have f4 := K2.out.frozen 4
  have f5 := K2.out.frozen 5
  have f6 := K2.out.frozen 6
  have f7 := K2.out.frozen 7
  have f8 := K2.out.frozen 8
  have l2 := K2.out.lt
  go_simp
  refine hK.out _ _ ?_ (fun hHeld => ?_)
  · (try dsimp only)
    exact ⟨K1.out.cellV (i := 1) rfl, K1.out.cellV (i := 2) rfl, K1.out.cellV (i := 3) rfl, K1.out.cellV (i := 4) rfl, K1.out.cellV (i := 5) rfl, K1.out.cellV (i := 6) rfl, K1.out.cellV (i := 7) rfl, K1.out.cellV (i := 8) rfl, K1.out.cellV (i := 9) rfl⟩
  clear hK K
  refine Tr.take_at 19 22 (.agg #[.int .i64 X, .int .i64 Y, .int .i64 W, .int .i64 H, .bool M, .int .i64 G, .int .i64 B, .bool S, .slice A5 out.length c5]) rfl rfl (by kernel_rfl) (by kernel_rfl) (by kernel_rfl) (fun _ _ _ h => h) (Or.inl ⟨by rfl, ?_⟩) (by assumption) ?_
  · intro W0 hSw
    (try dsimp only at hSw)
    go_simp
  simp only [List.set_cons_zero, List.set_cons_succ]
  refine wpAnyH_ready (rs := [20]) (by kernel_rfl) (by simp) ?_
  refine AllReadyH.cons rfl (fun K hK => ?_) AllReadyH.nil
  go_simp
  refine hK.out _ _ ?_ (fun hHeld => ?_)
  · (try dsimp only)
    have h := (((((((((K1.out.far (p := ⟨w.heap.size + 1, 0, none⟩) (by show _ ≠ _; simp only; omega) (.int .i64 X)).far (p := ⟨w.heap.size + 1, 1, none⟩) (by show _ ≠ _; simp only; omega) (.int .i64 Y)).far (p := ⟨w.heap.size + 1, 2, none⟩) (by show _ ≠ _; simp only; omega) (.int .i64 W)).far (p := ⟨w.heap.size + 1, 3, none⟩) (by show _ ≠ _; simp only; omega) (.int .i64 H)).far (p := ⟨w.heap.size + 1, 4, none⟩) (by show _ ≠ _; simp only; omega) (.bool M)).far (p := ⟨w.heap.size + 1, 5, none⟩) (by show _ ≠ _; simp only; omega) (.int .i64 G)).far (p := ⟨w.heap.size + 1, 6, none⟩) (by show _ ≠ _; simp only; omega) (.int .i64 B)).far (p := ⟨w.heap.size + 1, 7, none⟩) (by show _ ≠ _; simp only; omega) (.bool S)).far (p := ⟨w.heap.size + 1, 8, none⟩) (by show _ ≠ _; simp only; omega) (.slice A5 out.length c5)); exact ⟨h.cellV (i := 1) rfl, h.cellV (i := 2) rfl, h.cellV (i := 3) rfl, h.cellV (i := 4) rfl, h.cellV (i := 5) rfl, h.cellV (i := 6) rfl, h.cellV (i := 7) rfl, h.cellV (i := 8) rfl, h.cellV (i := 9) rfl⟩
  clear hK K
  refine wpAnyH_done (by kernel_rfl) ?_ _
  refine NoPanic.normal ?_
  have hle : w.heap.size ≤ w.heap.size + 1 := by omega
  have hnew : Blk (((((((((w5.setCell ⟨w.heap.size + 1, 0, none⟩ (.int .i64 X)).setCell ⟨w.heap.size + 1, 1, none⟩ (.int .i64 Y)).setCell ⟨w.heap.size + 1, 2, none⟩ (.int .i64 W)).setCell ⟨w.heap.size + 1, 3, none⟩ (.int .i64 H)).setCell ⟨w.heap.size + 1, 4, none⟩ (.bool M)).setCell ⟨w.heap.size + 1, 5, none⟩ (.int .i64 G)).setCell ⟨w.heap.size + 1, 6, none⟩ (.int .i64 B)).setCell ⟨w.heap.size + 1, 7, none⟩ (.bool S)).setCell ⟨w.heap.size + 1, 8, none⟩ (.slice A5 out.length c5)) (w.heap.size + 1) 46 #[.int .i64 X, .int .i64 Y, .int .i64 W, .int .i64 H, .bool M, .int .i64 G, .int .i64 B, .bool S, .slice A5 out.length c5] := (((((((((K2.out.set_ 0 (.int .i64 X)).set_ 1 (.int .i64 Y)).set_ 2 (.int .i64 W)).set_ 3 (.int .i64 H)).set_ 4 (.bool M)).set_ 5 (.int .i64 G)).set_ 6 (.int .i64 B)).set_ 7 (.bool S)).set_ 8 (.slice A5 out.length c5))
  have hbel := bset (p := ⟨w.heap.size + 1, 8, none⟩) (bset (p := ⟨w.heap.size + 1, 7, none⟩) (bset (p := ⟨w.heap.size + 1, 6, none⟩) (bset (p := ⟨w.heap.size + 1, 5, none⟩) (bset (p := ⟨w.heap.size + 1, 4, none⟩) (bset (p := ⟨w.heap.size + 1, 3, none⟩) (bset (p := ⟨w.heap.size + 1, 2, none⟩) (bset (p := ⟨w.heap.size + 1, 1, none⟩) (bset (p := ⟨w.heap.size + 1, 0, none⟩) (HB5.out) hle (.int .i64 X)) hle (.int .i64 Y)) hle (.int .i64 W)) hle (.int .i64 H)) hle (.bool M)) hle (.int .i64 G)) hle (.int .i64 B)) hle (.bool S)) hle (.slice A5 out.length c5)
  have HNEW := Lib.hid hnew
  have HBEL := Lib.hid hbel
  clear hnew hbel
  have hrd := (((((((((HR5.out.far HNE.out 0 (.int .i64 X)).far HNE.out 1 (.int .i64 Y)).far HNE.out 2 (.int .i64 W)).far HNE.out 3 (.int .i64 H)).far HNE.out 4 (.bool M)).far HNE.out 5 (.int .i64 G)).far HNE.out 6 (.int .i64 B)).far HNE.out 7 (.bool S)).far HNE.out 8 (.slice A5 out.length c5))
  have HRD := Lib.hid hrd
  obtain ⟨WZ, hWZ⟩ : ∃ WZ, (((((((((w5.setCell ⟨w.heap.size + 1, 0, none⟩ (.int .i64 X)).setCell ⟨w.heap.size + 1, 1, none⟩ (.int .i64 Y)).setCell ⟨w.heap.size + 1, 2, none⟩ (.int .i64 W)).setCell ⟨w.heap.size + 1, 3, none⟩ (.int .i64 H)).setCell ⟨w.heap.size + 1, 4, none⟩ (.bool M)).setCell ⟨w.heap.size + 1, 5, none⟩ (.int .i64 G)).setCell ⟨w.heap.size + 1, 6, none⟩ (.int .i64 B)).setCell ⟨w.heap.size + 1, 7, none⟩ (.bool S)).setCell ⟨w.heap.size + 1, 8, none⟩ (.slice A5 out.length c5)) = WZ := ⟨_, rfl⟩
  have hnew := HNEW.out
  have hbel := HBEL.out
  rw [hWZ] at hnew hbel hrd ⊢
  have HNEW := Lib.hid hnew
  have HBEL := Lib.hid hbel
  have HRD := Lib.hid hrd
  have r0 := HNEW.out.cellV (i := 0) (v := .int .i64 X) rfl
  have r1 := HNEW.out.cellV (i := 1) (v := .int .i64 Y) rfl
  have r2 := HNEW.out.cellV (i := 2) (v := .int .i64 W) rfl
  have r3 := HNEW.out.cellV (i := 3) (v := .int .i64 H) rfl
  have r4 := HNEW.out.cellV (i := 4) (v := .bool M) rfl
  have r5 := HNEW.out.cellV (i := 5) (v := .int .i64 G) rfl
  have r6 := HNEW.out.cellV (i := 6) (v := .int .i64 B) rfl
  have r7 := HNEW.out.cellV (i := 7) (v := .bool S) rfl
  have r8 := HNEW.out.cellV (i := 8) (v := .slice A5 out.length c5) rfl
  clear hnew hbel hrd hWZ
  go_wp2_with fail
  exact bodyPost_ret (v := .agg #[.int .i64 X, .int .i64 Y, .int .i64 W, .int .i64 H, .bool M, .int .i64 G, .int .i64 B, .bool S, .slice A5 out.length c5]) (by simp [results, Tryz.results33, go_sem, r0, r1, r2, r3, r4, r5, r6, r7, r8]) rfl ⟨out, A5, c5, rfl, HRD.out, HC5.out, HI5.out, HL5.out, HBEL.out⟩

end Go.Proofs.YtbfefkhejknmoaaGreatDoor
