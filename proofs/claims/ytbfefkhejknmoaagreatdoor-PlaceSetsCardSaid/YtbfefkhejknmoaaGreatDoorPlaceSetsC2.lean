/-
  The walks of what tells whether a place reads as the document's list: same, ids, is.
-/
import Derived.Test.YtbfefkhejknmoaaGreatDoorPlaceSetsC1
import Derived.Test.YtbfefkhejknmoaaGreatDoorCh47
namespace Go.Proofs.YtbfefkhejknmoaaGreatDoor
open Go.RowKit Go.Maps Go.Shelf

set_option maxRecDepth 100000 in
set_option maxHeartbeats 4000000 in
theorem same_any (b : BX) (d : DB) (w : World) (hs : SmD w b d) (hsh : RdR w d.b.A d.b.n d.sh) (hn : d.b.n ≤ 100000) (hm : ∀ r ∈ d.sh, r.X ≤ 9223372036854775807 ∧ r.Y ≤ 9223372036854775807) :
    Calls Tryz.prog 48 #[b.v, .agg d.cells.toArray] w fun e w' => e = .returned (.bool true) ∧ Below w.heap.size w w' := by
  obtain ⟨id, ⟨X', Y', W', H', M', G', B', S', A, n, c⟩, sh⟩ := d
  obtain ⟨X, Y, W, H, M, G, B, S, A', n', c'⟩ := b
  obtain ⟨hf, out, hr, hc, hp, hol⟩ := hs
  dsimp only [fldD] at hf hr hp hsh hn hm
  obtain ⟨rfl, rfl, rfl, rfl, rfl, rfl, rfl, rfl⟩ := hf
  obtain rfl : out.length = n' := hr.1
  show Calls Tryz.prog 48 #[.agg #[.int .i64 X, .int .i64 Y, .int .i64 W, .int .i64 H, .bool M, .int .i64 G, .int .i64 B, .bool S, .slice A' out.length c'], .agg #[.int .u32 id, .int .i64 X, .int .i64 Y, .int .i64 W, .int .i64 H, .bool M, .int .i64 G, .int .i64 B, .bool S, .slice A n c]] w _
  have hba := bal (bal (bre w) (.cells #[.int .i64 X, .int .i64 Y, .int .i64 W, .int .i64 H, .bool M, .int .i64 G, .int .i64 B, .bool S, .slice A' out.length c'] 46)) (.cells #[.int .u32 id, .int .i64 X, .int .i64 Y, .int .i64 W, .int .i64 H, .bool M, .int .i64 G, .int .i64 B, .bool S, .slice A n c] 79)
  have xK2 := (Blk.new w 46 #[.int .i64 X, .int .i64 Y, .int .i64 W, .int .i64 H, .bool M, .int .i64 G, .int .i64 B, .bool S, .slice A' out.length c']).alloc (.cells #[.int .u32 id, .int .i64 X, .int .i64 Y, .int .i64 W, .int .i64 H, .bool M, .int .i64 G, .int .i64 B, .bool S, .slice A n c] 79)
  have xK3 := blk_new2 w (.cells #[.int .i64 X, .int .i64 Y, .int .i64 W, .int .i64 H, .bool M, .int .i64 G, .int .i64 B, .bool S, .slice A' out.length c'] 46) 79 #[.int .u32 id, .int .i64 X, .int .i64 Y, .int .i64 W, .int .i64 H, .bool M, .int .i64 G, .int .i64 B, .bool S, .slice A n c]
  have HR := Lib.hid (hr.below hba)
  have HSH := Lib.hid (hsh.below hba)
  have HC := Lib.hid hc
  have HP := Lib.hid hp
  have HM := Lib.hid hm
  clear hr hsh hc hp hm
  go_enter Tryz.func48, Tryz.ntmps48
  go_upto_region 1 with fail
  obtain ⟨X0, hX0⟩ : ∃ X0, (w.alloc (.cells #[.int .i64 X, .int .i64 Y, .int .i64 W, .int .i64 H, .bool M, .int .i64 G, .int .i64 B, .bool S, .slice A' out.length c'] 46)).alloc (.cells #[.int .u32 id, .int .i64 X, .int .i64 Y, .int .i64 W, .int .i64 H, .bool M, .int .i64 G, .int .i64 B, .bool S, .slice A n c] 79) = X0 := ⟨_, rfl⟩
  have HRX := HR.out
  have HSX := HSH.out
  rw [hX0] at hba xK2 xK3 HRX HSX ⊢
  have HB := Lib.hid hba
  have K2 := Lib.hid xK2
  have K3 := Lib.hid xK3
  have HR := Lib.hid HRX
  have HSH := Lib.hid HSX
  clear hX0 hba xK2 xK3 HRX HSX
  have HBW := Lib.hid (show Below X0.heap.size X0 X0.drew from (bre X0).drew)
  refine wp_region_noPanic ?_
  refine wp_region_held_drew (S := (fun w' => w'.cell? ⟨w.heap.size, 0, none⟩ = some (.int .i64 X) ∧ w'.cell? ⟨w.heap.size, 1, none⟩ = some (.int .i64 Y) ∧ w'.cell? ⟨w.heap.size, 2, none⟩ = some (.int .i64 W) ∧ w'.cell? ⟨w.heap.size, 3, none⟩ = some (.int .i64 H) ∧ w'.cell? ⟨w.heap.size, 4, none⟩ = some (.bool M) ∧ w'.cell? ⟨w.heap.size, 5, none⟩ = some (.int .i64 G) ∧ w'.cell? ⟨w.heap.size, 6, none⟩ = some (.int .i64 B) ∧ w'.cell? ⟨w.heap.size, 7, none⟩ = some (.bool S) ∧ w'.cell? ⟨w.heap.size, 8, none⟩ = some (.slice A' out.length c') ∧ w'.cell? ⟨w.heap.size + 1, 1, none⟩ = some (.int .i64 X) ∧ w'.cell? ⟨w.heap.size + 1, 2, none⟩ = some (.int .i64 Y) ∧ w'.cell? ⟨w.heap.size + 1, 3, none⟩ = some (.int .i64 W) ∧ w'.cell? ⟨w.heap.size + 1, 4, none⟩ = some (.int .i64 H) ∧ w'.cell? ⟨w.heap.size + 1, 5, none⟩ = some (.bool M) ∧ w'.cell? ⟨w.heap.size + 1, 6, none⟩ = some (.int .i64 G) ∧ w'.cell? ⟨w.heap.size + 1, 7, none⟩ = some (.int .i64 B) ∧ w'.cell? ⟨w.heap.size + 1, 8, none⟩ = some (.bool S) ∧ w'.cell? ⟨w.heap.size + 1, 9, none⟩ = some (.slice A n c))) (by kernel_rfl) ?_ (fun hHeld => ?_)
  · (try dsimp only)
    exact ⟨(K2.out.belowS HBW.out).cellV (i := 0) rfl, (K2.out.belowS HBW.out).cellV (i := 1) rfl, (K2.out.belowS HBW.out).cellV (i := 2) rfl, (K2.out.belowS HBW.out).cellV (i := 3) rfl, (K2.out.belowS HBW.out).cellV (i := 4) rfl, (K2.out.belowS HBW.out).cellV (i := 5) rfl, (K2.out.belowS HBW.out).cellV (i := 6) rfl, (K2.out.belowS HBW.out).cellV (i := 7) rfl, (K2.out.belowS HBW.out).cellV (i := 8) rfl, (K3.out.belowS HBW.out).cellV (i := 1) rfl, (K3.out.belowS HBW.out).cellV (i := 2) rfl, (K3.out.belowS HBW.out).cellV (i := 3) rfl, (K3.out.belowS HBW.out).cellV (i := 4) rfl, (K3.out.belowS HBW.out).cellV (i := 5) rfl, (K3.out.belowS HBW.out).cellV (i := 6) rfl, (K3.out.belowS HBW.out).cellV (i := 7) rfl, (K3.out.belowS HBW.out).cellV (i := 8) rfl, (K3.out.belowS HBW.out).cellV (i := 9) rfl⟩
  refine Tr.take_at 0 5 (.pointer (some ⟨w.heap.size, 0, none⟩)) rfl rfl (by kernel_rfl) (by kernel_rfl) (by kernel_rfl) (fun _ _ _ h => h) (Or.inl ⟨by rfl, ?_⟩) (by assumption) ?_
  · intro W0 hSw
    (try dsimp only at hSw)
    go_simp
  simp only [List.set_cons_zero, List.set_cons_succ]
  refine Tr.take_at 1 6 (.int .i64 X) rfl rfl (by kernel_rfl) (by kernel_rfl) (by kernel_rfl) (fun _ _ _ h => h) (Or.inl ⟨by rfl, ?_⟩) (by assumption) ?_
  · intro W0 hSw
    (try dsimp only at hSw)
    go_simp
  simp only [List.set_cons_zero, List.set_cons_succ]
  refine Tr.take_at 2 7 (.pointer (some ⟨w.heap.size + 1, 1, none⟩)) rfl rfl (by kernel_rfl) (by kernel_rfl) (by kernel_rfl) (fun _ _ _ h => h) (Or.inl ⟨by rfl, ?_⟩) (by assumption) ?_
  · intro W0 hSw
    (try dsimp only at hSw)
    go_simp
  simp only [List.set_cons_zero, List.set_cons_succ]
  refine Tr.take_at 3 8 (.int .i64 X) rfl rfl (by kernel_rfl) (by kernel_rfl) (by kernel_rfl) (fun _ _ _ h => h) (Or.inl ⟨by rfl, ?_⟩) (by assumption) ?_
  · intro W0 hSw
    (try dsimp only at hSw)
    go_simp
  simp only [List.set_cons_zero, List.set_cons_succ]
  refine Tr.take_at 4 9 (.bool true) rfl rfl (by kernel_rfl) (by kernel_rfl) (by kernel_rfl) (fun _ _ _ h => h) (Or.inl ⟨by rfl, ?_⟩) (by assumption) ?_
  · intro W0 hSw
    (try dsimp only at hSw)
    go_simp
  simp only [List.set_cons_zero, List.set_cons_succ]
  refine Tr.take_at 5 10 (.bool true) rfl rfl (by kernel_rfl) (by kernel_rfl) (by kernel_rfl) (fun _ _ _ h => h) (Or.inl ⟨by rfl, ?_⟩) (by assumption) ?_
  · intro W0 hSw
    (try dsimp only at hSw)
    go_simp
  simp only [List.set_cons_zero, List.set_cons_succ]
  refine Tr.take_at 6 11 (.pointer (some ⟨w.heap.size, 1, none⟩)) rfl rfl (by kernel_rfl) (by kernel_rfl) (by kernel_rfl) (fun _ _ _ h => h) (Or.inl ⟨by rfl, ?_⟩) (by assumption) ?_
  · intro W0 hSw
    (try dsimp only at hSw)
    go_simp
  simp only [List.set_cons_zero, List.set_cons_succ]
  refine Tr.take_at 7 12 (.int .i64 Y) rfl rfl (by kernel_rfl) (by kernel_rfl) (by kernel_rfl) (fun _ _ _ h => h) (Or.inl ⟨by rfl, ?_⟩) (by assumption) ?_
  · intro W0 hSw
    (try dsimp only at hSw)
    go_simp
  simp only [List.set_cons_zero, List.set_cons_succ]
  refine Tr.take_at 8 13 (.pointer (some ⟨w.heap.size + 1, 2, none⟩)) rfl rfl (by kernel_rfl) (by kernel_rfl) (by kernel_rfl) (fun _ _ _ h => h) (Or.inl ⟨by rfl, ?_⟩) (by assumption) ?_
  · intro W0 hSw
    (try dsimp only at hSw)
    go_simp
  simp only [List.set_cons_zero, List.set_cons_succ]
  refine Tr.take_at 9 14 (.int .i64 Y) rfl rfl (by kernel_rfl) (by kernel_rfl) (by kernel_rfl) (fun _ _ _ h => h) (Or.inl ⟨by rfl, ?_⟩) (by assumption) ?_
  · intro W0 hSw
    (try dsimp only at hSw)
    go_simp
  simp only [List.set_cons_zero, List.set_cons_succ]
  refine Tr.take_at 10 15 (.bool true) rfl rfl (by kernel_rfl) (by kernel_rfl) (by kernel_rfl) (fun _ _ _ h => h) (Or.inl ⟨by rfl, ?_⟩) (by assumption) ?_
  · intro W0 hSw
    (try dsimp only at hSw)
    go_simp
  simp only [List.set_cons_zero, List.set_cons_succ]
  refine Tr.take_at 11 16 (.bool true) rfl rfl (by kernel_rfl) (by kernel_rfl) (by kernel_rfl) (fun _ _ _ h => h) (Or.inl ⟨by rfl, ?_⟩) (by assumption) ?_
  · intro W0 hSw
    (try dsimp only at hSw)
    go_simp
  simp only [List.set_cons_zero, List.set_cons_succ]
  refine Tr.take_at 12 17 (.bool true) rfl rfl (by kernel_rfl) (by kernel_rfl) (by kernel_rfl) (fun _ _ _ h => h) (Or.inl ⟨by rfl, ?_⟩) (by assumption) ?_
  · intro W0 hSw
    (try dsimp only at hSw)
    go_simp
  simp only [List.set_cons_zero, List.set_cons_succ]
  refine Tr.take_at 13 18 (.pointer (some ⟨w.heap.size, 2, none⟩)) rfl rfl (by kernel_rfl) (by kernel_rfl) (by kernel_rfl) (fun _ _ _ h => h) (Or.inl ⟨by rfl, ?_⟩) (by assumption) ?_
  · intro W0 hSw
    (try dsimp only at hSw)
    go_simp
  simp only [List.set_cons_zero, List.set_cons_succ]
  refine Tr.take_at 14 19 (.int .i64 W) rfl rfl (by kernel_rfl) (by kernel_rfl) (by kernel_rfl) (fun _ _ _ h => h) (Or.inl ⟨by rfl, ?_⟩) (by assumption) ?_
  · intro W0 hSw
    (try dsimp only at hSw)
    go_simp
  simp only [List.set_cons_zero, List.set_cons_succ]
  refine Tr.take_at 15 20 (.pointer (some ⟨w.heap.size + 1, 3, none⟩)) rfl rfl (by kernel_rfl) (by kernel_rfl) (by kernel_rfl) (fun _ _ _ h => h) (Or.inl ⟨by rfl, ?_⟩) (by assumption) ?_
  · intro W0 hSw
    (try dsimp only at hSw)
    go_simp
  simp only [List.set_cons_zero, List.set_cons_succ]
  refine Tr.take_at 16 21 (.int .i64 W) rfl rfl (by kernel_rfl) (by kernel_rfl) (by kernel_rfl) (fun _ _ _ h => h) (Or.inl ⟨by rfl, ?_⟩) (by assumption) ?_
  · intro W0 hSw
    (try dsimp only at hSw)
    go_simp
  simp only [List.set_cons_zero, List.set_cons_succ]
  refine Tr.take_at 17 22 (.bool true) rfl rfl (by kernel_rfl) (by kernel_rfl) (by kernel_rfl) (fun _ _ _ h => h) (Or.inl ⟨by rfl, ?_⟩) (by assumption) ?_
  · intro W0 hSw
    (try dsimp only at hSw)
    go_simp
  simp only [List.set_cons_zero, List.set_cons_succ]
  refine Tr.take_at 18 23 (.bool true) rfl rfl (by kernel_rfl) (by kernel_rfl) (by kernel_rfl) (fun _ _ _ h => h) (Or.inl ⟨by rfl, ?_⟩) (by assumption) ?_
  · intro W0 hSw
    (try dsimp only at hSw)
    go_simp
  simp only [List.set_cons_zero, List.set_cons_succ]
  refine Tr.take_at 19 24 (.bool true) rfl rfl (by kernel_rfl) (by kernel_rfl) (by kernel_rfl) (fun _ _ _ h => h) (Or.inl ⟨by rfl, ?_⟩) (by assumption) ?_
  · intro W0 hSw
    (try dsimp only at hSw)
    go_simp
  simp only [List.set_cons_zero, List.set_cons_succ]
  refine Tr.take_at 20 25 (.pointer (some ⟨w.heap.size, 3, none⟩)) rfl rfl (by kernel_rfl) (by kernel_rfl) (by kernel_rfl) (fun _ _ _ h => h) (Or.inl ⟨by rfl, ?_⟩) (by assumption) ?_
  · intro W0 hSw
    (try dsimp only at hSw)
    go_simp
  simp only [List.set_cons_zero, List.set_cons_succ]
  refine Tr.take_at 21 26 (.int .i64 H) rfl rfl (by kernel_rfl) (by kernel_rfl) (by kernel_rfl) (fun _ _ _ h => h) (Or.inl ⟨by rfl, ?_⟩) (by assumption) ?_
  · intro W0 hSw
    (try dsimp only at hSw)
    go_simp
  simp only [List.set_cons_zero, List.set_cons_succ]
  refine Tr.take_at 22 27 (.pointer (some ⟨w.heap.size + 1, 4, none⟩)) rfl rfl (by kernel_rfl) (by kernel_rfl) (by kernel_rfl) (fun _ _ _ h => h) (Or.inl ⟨by rfl, ?_⟩) (by assumption) ?_
  · intro W0 hSw
    (try dsimp only at hSw)
    go_simp
  simp only [List.set_cons_zero, List.set_cons_succ]
  refine Tr.take_at 23 28 (.int .i64 H) rfl rfl (by kernel_rfl) (by kernel_rfl) (by kernel_rfl) (fun _ _ _ h => h) (Or.inl ⟨by rfl, ?_⟩) (by assumption) ?_
  · intro W0 hSw
    (try dsimp only at hSw)
    go_simp
  simp only [List.set_cons_zero, List.set_cons_succ]
  refine Tr.take_at 24 29 (.bool true) rfl rfl (by kernel_rfl) (by kernel_rfl) (by kernel_rfl) (fun _ _ _ h => h) (Or.inl ⟨by rfl, ?_⟩) (by assumption) ?_
  · intro W0 hSw
    (try dsimp only at hSw)
    go_simp
  simp only [List.set_cons_zero, List.set_cons_succ]
  refine Tr.take_at 25 30 (.bool true) rfl rfl (by kernel_rfl) (by kernel_rfl) (by kernel_rfl) (fun _ _ _ h => h) (Or.inl ⟨by rfl, ?_⟩) (by assumption) ?_
  · intro W0 hSw
    (try dsimp only at hSw)
    go_simp
  simp only [List.set_cons_zero, List.set_cons_succ]
  refine Tr.take_at 26 31 (.bool true) rfl rfl (by kernel_rfl) (by kernel_rfl) (by kernel_rfl) (fun _ _ _ h => h) (Or.inl ⟨by rfl, ?_⟩) (by assumption) ?_
  · intro W0 hSw
    (try dsimp only at hSw)
    go_simp
  simp only [List.set_cons_zero, List.set_cons_succ]
  refine Tr.take_at 27 32 (.pointer (some ⟨w.heap.size, 4, none⟩)) rfl rfl (by kernel_rfl) (by kernel_rfl) (by kernel_rfl) (fun _ _ _ h => h) (Or.inl ⟨by rfl, ?_⟩) (by assumption) ?_
  · intro W0 hSw
    (try dsimp only at hSw)
    go_simp
  simp only [List.set_cons_zero, List.set_cons_succ]
  refine Tr.take_at 28 33 (.bool M) rfl rfl (by kernel_rfl) (by kernel_rfl) (by kernel_rfl) (fun _ _ _ h => h) (Or.inl ⟨by rfl, ?_⟩) (by assumption) ?_
  · intro W0 hSw
    (try dsimp only at hSw)
    go_simp
  simp only [List.set_cons_zero, List.set_cons_succ]
  refine Tr.take_at 29 34 (.pointer (some ⟨w.heap.size + 1, 5, none⟩)) rfl rfl (by kernel_rfl) (by kernel_rfl) (by kernel_rfl) (fun _ _ _ h => h) (Or.inl ⟨by rfl, ?_⟩) (by assumption) ?_
  · intro W0 hSw
    (try dsimp only at hSw)
    go_simp
  simp only [List.set_cons_zero, List.set_cons_succ]
  refine Tr.take_at 30 35 (.bool M) rfl rfl (by kernel_rfl) (by kernel_rfl) (by kernel_rfl) (fun _ _ _ h => h) (Or.inl ⟨by rfl, ?_⟩) (by assumption) ?_
  · intro W0 hSw
    (try dsimp only at hSw)
    go_simp
  simp only [List.set_cons_zero, List.set_cons_succ]
  refine Tr.take_at 31 36 (.bool true) rfl rfl (by kernel_rfl) (by kernel_rfl) (by kernel_rfl) (fun _ _ _ h => h) (Or.inl ⟨by rfl, ?_⟩) (by assumption) ?_
  · intro W0 hSw
    (try dsimp only at hSw)
    go_simp
  simp only [List.set_cons_zero, List.set_cons_succ]
  refine Tr.take_at 32 37 (.bool true) rfl rfl (by kernel_rfl) (by kernel_rfl) (by kernel_rfl) (fun _ _ _ h => h) (Or.inl ⟨by rfl, ?_⟩) (by assumption) ?_
  · intro W0 hSw
    (try dsimp only at hSw)
    go_simp
  simp only [List.set_cons_zero, List.set_cons_succ]
  refine Tr.take_at 33 38 (.bool true) rfl rfl (by kernel_rfl) (by kernel_rfl) (by kernel_rfl) (fun _ _ _ h => h) (Or.inl ⟨by rfl, ?_⟩) (by assumption) ?_
  · intro W0 hSw
    (try dsimp only at hSw)
    go_simp
  simp only [List.set_cons_zero, List.set_cons_succ]
  refine Tr.take_at 34 39 (.pointer (some ⟨w.heap.size, 5, none⟩)) rfl rfl (by kernel_rfl) (by kernel_rfl) (by kernel_rfl) (fun _ _ _ h => h) (Or.inl ⟨by rfl, ?_⟩) (by assumption) ?_
  · intro W0 hSw
    (try dsimp only at hSw)
    go_simp
  simp only [List.set_cons_zero, List.set_cons_succ]
  refine Tr.take_at 35 40 (.int .i64 G) rfl rfl (by kernel_rfl) (by kernel_rfl) (by kernel_rfl) (fun _ _ _ h => h) (Or.inl ⟨by rfl, ?_⟩) (by assumption) ?_
  · intro W0 hSw
    (try dsimp only at hSw)
    go_simp
  simp only [List.set_cons_zero, List.set_cons_succ]
  refine Tr.take_at 36 41 (.pointer (some ⟨w.heap.size + 1, 6, none⟩)) rfl rfl (by kernel_rfl) (by kernel_rfl) (by kernel_rfl) (fun _ _ _ h => h) (Or.inl ⟨by rfl, ?_⟩) (by assumption) ?_
  · intro W0 hSw
    (try dsimp only at hSw)
    go_simp
  simp only [List.set_cons_zero, List.set_cons_succ]
  refine Tr.take_at 37 42 (.int .i64 G) rfl rfl (by kernel_rfl) (by kernel_rfl) (by kernel_rfl) (fun _ _ _ h => h) (Or.inl ⟨by rfl, ?_⟩) (by assumption) ?_
  · intro W0 hSw
    (try dsimp only at hSw)
    go_simp
  simp only [List.set_cons_zero, List.set_cons_succ]
  refine Tr.take_at 38 43 (.bool true) rfl rfl (by kernel_rfl) (by kernel_rfl) (by kernel_rfl) (fun _ _ _ h => h) (Or.inl ⟨by rfl, ?_⟩) (by assumption) ?_
  · intro W0 hSw
    (try dsimp only at hSw)
    go_simp
  simp only [List.set_cons_zero, List.set_cons_succ]
  refine Tr.take_at 39 44 (.bool true) rfl rfl (by kernel_rfl) (by kernel_rfl) (by kernel_rfl) (fun _ _ _ h => h) (Or.inl ⟨by rfl, ?_⟩) (by assumption) ?_
  · intro W0 hSw
    (try dsimp only at hSw)
    go_simp
  simp only [List.set_cons_zero, List.set_cons_succ]
  refine Tr.take_at 40 45 (.bool true) rfl rfl (by kernel_rfl) (by kernel_rfl) (by kernel_rfl) (fun _ _ _ h => h) (Or.inl ⟨by rfl, ?_⟩) (by assumption) ?_
  · intro W0 hSw
    (try dsimp only at hSw)
    go_simp
  simp only [List.set_cons_zero, List.set_cons_succ]
  refine Tr.take_at 41 46 (.pointer (some ⟨w.heap.size, 6, none⟩)) rfl rfl (by kernel_rfl) (by kernel_rfl) (by kernel_rfl) (fun _ _ _ h => h) (Or.inl ⟨by rfl, ?_⟩) (by assumption) ?_
  · intro W0 hSw
    (try dsimp only at hSw)
    go_simp
  simp only [List.set_cons_zero, List.set_cons_succ]
  refine Tr.take_at 42 47 (.int .i64 B) rfl rfl (by kernel_rfl) (by kernel_rfl) (by kernel_rfl) (fun _ _ _ h => h) (Or.inl ⟨by rfl, ?_⟩) (by assumption) ?_
  · intro W0 hSw
    (try dsimp only at hSw)
    go_simp
  simp only [List.set_cons_zero, List.set_cons_succ]
  refine Tr.take_at 43 48 (.pointer (some ⟨w.heap.size + 1, 7, none⟩)) rfl rfl (by kernel_rfl) (by kernel_rfl) (by kernel_rfl) (fun _ _ _ h => h) (Or.inl ⟨by rfl, ?_⟩) (by assumption) ?_
  · intro W0 hSw
    (try dsimp only at hSw)
    go_simp
  simp only [List.set_cons_zero, List.set_cons_succ]
  refine Tr.take_at 44 49 (.int .i64 B) rfl rfl (by kernel_rfl) (by kernel_rfl) (by kernel_rfl) (fun _ _ _ h => h) (Or.inl ⟨by rfl, ?_⟩) (by assumption) ?_
  · intro W0 hSw
    (try dsimp only at hSw)
    go_simp
  simp only [List.set_cons_zero, List.set_cons_succ]
  refine Tr.take_at 45 50 (.bool true) rfl rfl (by kernel_rfl) (by kernel_rfl) (by kernel_rfl) (fun _ _ _ h => h) (Or.inl ⟨by rfl, ?_⟩) (by assumption) ?_
  · intro W0 hSw
    (try dsimp only at hSw)
    go_simp
  simp only [List.set_cons_zero, List.set_cons_succ]
  refine Tr.take_at 46 51 (.bool true) rfl rfl (by kernel_rfl) (by kernel_rfl) (by kernel_rfl) (fun _ _ _ h => h) (Or.inl ⟨by rfl, ?_⟩) (by assumption) ?_
  · intro W0 hSw
    (try dsimp only at hSw)
    go_simp
  simp only [List.set_cons_zero, List.set_cons_succ]
  refine Tr.take_at 47 52 (.bool true) rfl rfl (by kernel_rfl) (by kernel_rfl) (by kernel_rfl) (fun _ _ _ h => h) (Or.inl ⟨by rfl, ?_⟩) (by assumption) ?_
  · intro W0 hSw
    (try dsimp only at hSw)
    go_simp
  simp only [List.set_cons_zero, List.set_cons_succ]
  refine Tr.take_at 48 53 (.pointer (some ⟨w.heap.size, 7, none⟩)) rfl rfl (by kernel_rfl) (by kernel_rfl) (by kernel_rfl) (fun _ _ _ h => h) (Or.inl ⟨by rfl, ?_⟩) (by assumption) ?_
  · intro W0 hSw
    (try dsimp only at hSw)
    go_simp
  simp only [List.set_cons_zero, List.set_cons_succ]
  refine Tr.take_at 49 54 (.bool S) rfl rfl (by kernel_rfl) (by kernel_rfl) (by kernel_rfl) (fun _ _ _ h => h) (Or.inl ⟨by rfl, ?_⟩) (by assumption) ?_
  · intro W0 hSw
    (try dsimp only at hSw)
    go_simp
  simp only [List.set_cons_zero, List.set_cons_succ]
  refine Tr.take_at 50 55 (.pointer (some ⟨w.heap.size + 1, 8, none⟩)) rfl rfl (by kernel_rfl) (by kernel_rfl) (by kernel_rfl) (fun _ _ _ h => h) (Or.inl ⟨by rfl, ?_⟩) (by assumption) ?_
  · intro W0 hSw
    (try dsimp only at hSw)
    go_simp
  simp only [List.set_cons_zero, List.set_cons_succ]
  refine Tr.take_at 51 56 (.bool S) rfl rfl (by kernel_rfl) (by kernel_rfl) (by kernel_rfl) (fun _ _ _ h => h) (Or.inl ⟨by rfl, ?_⟩) (by assumption) ?_
  · intro W0 hSw
    (try dsimp only at hSw)
    go_simp
  simp only [List.set_cons_zero, List.set_cons_succ]
  refine Tr.take_at 52 57 (.bool true) rfl rfl (by kernel_rfl) (by kernel_rfl) (by kernel_rfl) (fun _ _ _ h => h) (Or.inl ⟨by rfl, ?_⟩) (by assumption) ?_
  · intro W0 hSw
    (try dsimp only at hSw)
    go_simp
  simp only [List.set_cons_zero, List.set_cons_succ]
  refine Tr.take_at 53 58 (.bool true) rfl rfl (by kernel_rfl) (by kernel_rfl) (by kernel_rfl) (fun _ _ _ h => h) (Or.inl ⟨by rfl, ?_⟩) (by assumption) ?_
  · intro W0 hSw
    (try dsimp only at hSw)
    go_simp
  simp only [List.set_cons_zero, List.set_cons_succ]
  refine Tr.take_at 54 59 (.bool true) rfl rfl (by kernel_rfl) (by kernel_rfl) (by kernel_rfl) (fun _ _ _ h => h) (Or.inl ⟨by rfl, ?_⟩) (by assumption) ?_
  · intro W0 hSw
    (try dsimp only at hSw)
    go_simp
  simp only [List.set_cons_zero, List.set_cons_succ]
  refine Tr.take_at 55 60 (.pointer (some ⟨w.heap.size, 8, none⟩)) rfl rfl (by kernel_rfl) (by kernel_rfl) (by kernel_rfl) (fun _ _ _ h => h) (Or.inl ⟨by rfl, ?_⟩) (by assumption) ?_
  · intro W0 hSw
    (try dsimp only at hSw)
    go_simp
  simp only [List.set_cons_zero, List.set_cons_succ]
  refine Tr.take_at 56 61 (.agg #[.slice A' out.length c']) rfl rfl (by kernel_rfl) (by kernel_rfl) (by kernel_rfl) (fun _ _ _ h => h) (Or.inl ⟨by rfl, ?_⟩) (by assumption) ?_
  · intro W0 hSw
    (try dsimp only at hSw)
    go_simp
  simp only [List.set_cons_zero, List.set_cons_succ]
  refine Tr.take_at 57 62 (.pointer (some ⟨w.heap.size + 1, 9, none⟩)) rfl rfl (by kernel_rfl) (by kernel_rfl) (by kernel_rfl) (fun _ _ _ h => h) (Or.inl ⟨by rfl, ?_⟩) (by assumption) ?_
  · intro W0 hSw
    (try dsimp only at hSw)
    go_simp
  simp only [List.set_cons_zero, List.set_cons_succ]
  refine Tr.take_at 58 63 (.slice A n c) rfl rfl (by kernel_rfl) (by kernel_rfl) (by kernel_rfl) (fun _ _ _ h => h) (Or.inl ⟨by rfl, ?_⟩) (by assumption) ?_
  · intro W0 hSw
    (try dsimp only at hSw)
    go_simp
  simp only [List.set_cons_zero, List.set_cons_succ]
  refine wpAnyH_ready (rs := [59]) (by kernel_rfl) (by simp) ?_
  refine AllReadyH.cons rfl (fun K hK => ?_) AllReadyH.nil
  go_simp
  refine (of_any A n c sh _ hn (HSH.out.below HBW.out) HM.out).mono ?_
  rintro e wA ⟨o2, A2, c2, rfl, hr2, hc2, hp2, hl2, hbA⟩
  obtain rfl : o2 = out := canon_uniq hc2 HC.out (fun x y => (hp2 x y).trans (HP.out x y).symm)
  have HR2 := Lib.hid hr2
  replace HBW := Lib.hid (bstep HBW.out hbA)
  clear hbA hr2 hc2 hp2 hl2
  go_simp
  refine hK.out _ _ ?_ (fun hHeld => ?_)
  · (try dsimp only)
    exact ⟨(K2.out.belowS HBW.out).cellV (i := 0) rfl, (K2.out.belowS HBW.out).cellV (i := 1) rfl, (K2.out.belowS HBW.out).cellV (i := 2) rfl, (K2.out.belowS HBW.out).cellV (i := 3) rfl, (K2.out.belowS HBW.out).cellV (i := 4) rfl, (K2.out.belowS HBW.out).cellV (i := 5) rfl, (K2.out.belowS HBW.out).cellV (i := 6) rfl, (K2.out.belowS HBW.out).cellV (i := 7) rfl, (K2.out.belowS HBW.out).cellV (i := 8) rfl, (K3.out.belowS HBW.out).cellV (i := 1) rfl, (K3.out.belowS HBW.out).cellV (i := 2) rfl, (K3.out.belowS HBW.out).cellV (i := 3) rfl, (K3.out.belowS HBW.out).cellV (i := 4) rfl, (K3.out.belowS HBW.out).cellV (i := 5) rfl, (K3.out.belowS HBW.out).cellV (i := 6) rfl, (K3.out.belowS HBW.out).cellV (i := 7) rfl, (K3.out.belowS HBW.out).cellV (i := 8) rfl, (K3.out.belowS HBW.out).cellV (i := 9) rfl⟩
  clear hK K
  refine wpAnyH_ready (rs := [60]) (by kernel_rfl) (by simp) ?_
  refine AllReadyH.cons rfl (fun K hK => ?_) AllReadyH.nil
  go_simp
  refine (bandSame_eq A' A2 o2.length c' c2 o2 _ hol (HR.out.below HBW.out) HR2.out).mono ?_
  rintro e wB ⟨rfl, hbA⟩
  replace HBW := Lib.hid (bstep HBW.out hbA)
  clear hbA
  go_simp
  refine hK.out _ _ ?_ (fun hHeld => ?_)
  · (try dsimp only)
    exact ⟨(K2.out.belowS HBW.out).cellV (i := 0) rfl, (K2.out.belowS HBW.out).cellV (i := 1) rfl, (K2.out.belowS HBW.out).cellV (i := 2) rfl, (K2.out.belowS HBW.out).cellV (i := 3) rfl, (K2.out.belowS HBW.out).cellV (i := 4) rfl, (K2.out.belowS HBW.out).cellV (i := 5) rfl, (K2.out.belowS HBW.out).cellV (i := 6) rfl, (K2.out.belowS HBW.out).cellV (i := 7) rfl, (K2.out.belowS HBW.out).cellV (i := 8) rfl, (K3.out.belowS HBW.out).cellV (i := 1) rfl, (K3.out.belowS HBW.out).cellV (i := 2) rfl, (K3.out.belowS HBW.out).cellV (i := 3) rfl, (K3.out.belowS HBW.out).cellV (i := 4) rfl, (K3.out.belowS HBW.out).cellV (i := 5) rfl, (K3.out.belowS HBW.out).cellV (i := 6) rfl, (K3.out.belowS HBW.out).cellV (i := 7) rfl, (K3.out.belowS HBW.out).cellV (i := 8) rfl, (K3.out.belowS HBW.out).cellV (i := 9) rfl⟩
  clear hK K
  refine Tr.take_at 61 66 (.bool true) rfl rfl (by kernel_rfl) (by kernel_rfl) (by kernel_rfl) (fun _ _ _ h => h) (Or.inl ⟨by rfl, ?_⟩) (by assumption) ?_
  · intro W0 hSw
    (try dsimp only at hSw)
    go_simp
  simp only [List.set_cons_zero, List.set_cons_succ]
  refine Tr.take_at 62 4 (.bool true) rfl rfl (by kernel_rfl) (by kernel_rfl) (by kernel_rfl) (fun _ _ _ h => h) (Or.inl ⟨by rfl, ?_⟩) (by assumption) ?_
  · intro W0 hSw
    (try dsimp only at hSw)
    go_simp
  simp only [List.set_cons_zero, List.set_cons_succ]
  refine wpAnyH_done (by kernel_rfl) ?_ _
  refine NoPanic.normal ?_
  go_wp2_with fail
  go_ret
  exact ⟨rfl, bstep HB.out HBW.out⟩
  
/-- the ids that the law asks for. -/
def idsL (L : List DB) : List Int := 0 :: 1 :: L.map DB.id
theorem idsL_take (L : List DB) {k : Nat} {d : DB} (h : L[k]? = some d) : idsL (L.take (k + 1)) = idsL (L.take k) ++ [d.id] := by simp [idsL, List.take_add_one, h]
theorem own_two (W : World) (base e : Nat) (a b : Value) (hb : base ≤ W.heap.size) : (W.alloc (.cells #[a, b] e)).ownsRow base e 1 (.slice (some ⟨W.heap.size, 0, none⟩) 2 2) 2 [a, b] :=
  ⟨by simp, .inr ⟨W.heap.size, 2, #[a, b], rfl, hb, heap_alloc_new W _, Nat.le_refl _, by simp only [maxLen]; omega, by simp, by simp⟩⟩
set_option maxRecDepth 100000 in
set_option maxHeartbeats 2000000 in
theorem ids_any (x : WN) (L : List DB) (w : World) (hL : RdD w x.A x.nl L) (hn : x.nl ≤ 1000) :
    Calls Tryz.prog 25 #[x.v] w fun e w' => ∃ A' c', e = .returned (.slice A' (idsL L).length c') ∧ w'.ownsRow w.heap.size 27 1 (.slice A' (idsL L).length c') (idsL L).length (U32 (idsL L)) ∧ Below w.heap.size w w' := by
  obtain ⟨i0, hi0, hz0, hz1, hz2⟩ := info_parts Tryz.infoU
  obtain ⟨W, H, U, nu, cu, A, nl, cl⟩ := x
  dsimp only at hL hn
  show Calls Tryz.prog 25 #[.agg #[.int .i64 W, .int .i64 H, .slice U nu cu, .slice A nl cl]] w _
  have hba := bal (bre w) (.cells #[.int .i64 W, .int .i64 H, .slice U nu cu, .slice A nl cl] 25)
  have xK1 := Blk.new w 25 #[.int .i64 W, .int .i64 H, .slice U nu cu, .slice A nl cl]
  have HLL := Lib.hid hL.1
  have xHL := hL.below hba
  clear hL
  go_enter Tryz.func25, Tryz.ntmps25
  go_upto_region 1 with fail
  obtain ⟨Z, hZ⟩ : ∃ Z, w.alloc (.cells #[.int .i64 W, .int .i64 H, .slice U nu cu, .slice A nl cl] 25) = Z := ⟨_, rfl⟩
  have hZs : w.heap.size ≤ Z.heap.size := by rw [← hZ, World.size_alloc]; omega
  rw [hZ] at hba xK1 xHL ⊢
  have HBZ := Lib.hid hba
  have K1 := Lib.hid xK1
  have HL := Lib.hid xHL
  clear hba xK1 xHL hZ
  go_wp2_with fail
  go_loopw [3, 4] (fun v i wr => ∃ k : Nat, i = .int .i64 k ∧ k ≤ nl ∧ wr.ownsRow Z.heap.size 27 1 v (idsL (L.take k)).length (U32 (idsL (L.take k))) ∧ Below Z.heap.size Z wr) (fun _ i _ => nl - (intOf i).toNat)
  case atStart => exact ⟨0, rfl, by omega, by simpa [idsL, U32] using own_two Z Z.heap.size 27 (.int .u32 0) (.int .u32 1) (Nat.le_refl _), bal (bre Z) _⟩
  case round =>
    obtain ⟨k, rfl, hk, ho, hB⟩ := hrel
    have HO := Lib.hid ho
    have HB := Lib.hid hB
    have hlen : (idsL (L.take k)).length ≤ k + 2 := by simp [idsL, List.length_take]; omega
    clear ho hB
    obtain ⟨Ao, co, rfl, hco⟩ := own_form HO.out
    have p3 := (K1.out.belowS HB.out).cellV (i := 3) (v := .slice A nl cl) rfl
    by_cases hlt : k < nl
    · obtain ⟨d, hd⟩ : ∃ d, L[k]? = some d := ⟨_, List.getElem?_eq_getElem (by have := HLL.out; omega)⟩
      obtain ⟨b, off, rfl, hb, hcl⟩ := (HL.out.below HB.out).2 (by omega)
      have c0 : wr.cell? ⟨b, off + k * 10, none⟩ = some (.int .u32 d.id) := hcl k d hd 0 _ rfl
      have k1 : (k : Int) < (nl : Int) := by omega
      have k0 : (0 : Int) ≤ (k : Int) := by omega
      have HS := Lib.hid (show Z.heap.size ≤ (wr.alloc (.cells #[.int .u32 d.id] 27)).heap.size by rw [World.size_alloc]; have := HB.out.size; omega)
      have HT := Lib.hid (idsL_take L hd)
      clear hcl hd
      go_wp2_with (at_builtin; refine wpList_append_own _ rfl _ _ 22 rfl Z.heap.size 27 i0 _ 1 4 Tryz.underlying22 hi0 hz0 hz1 hz2 rfl (by decide) _ _ _ rfl (HO.out.alloc _) ⟨wr.heap.size, 0, none⟩ 1 1 [.int .u32 d.id] rfl rfl (one_new _ _ _) (by simp [Value.oneCell']) (by simp only [maxLen]; omega) (by omega) (by have := HS.out; simp; simp at this; omega) ?_; intro v' w4 hown' hgrow _; have HO4 := Lib.hid hown'; have HB4 := Lib.hid ((bal HB.out _).grown hgrow (by have := HS.out; simp; simp at this; omega) (own_ge HO.out)); clear hown' hgrow)
      go_roundw
      case rel => exact ⟨k + 1, by go_num, by omega, by rw [HT.out]; simpa [U32] using HO4.out, HB4.out⟩
      case measure => simp [intOf]; omega
    · obtain rfl : k = nl := by omega
      have ht : L.take k = L := List.take_of_length_le (by rw [HLL.out]; exact Nat.le_refl _)
      have ho := HO.out
      rw [ht] at ho ⊢
      have HO2 := Lib.hid ho
      have k1 : ¬ (k : Int) < (k : Int) := by omega
      clear HO ho ht
      go_wp2_with fail
      go_ret
      exact ⟨Ao, co, rfl, ownsRow_base HO2.out hZs, bstep HBZ.out HB.out⟩

/-- a list's shapes read as they do. -/
def ListAt (w : World) (l : List DB) : Prop := ∀ d ∈ l, (0 ≤ d.id ∧ d.id ≤ 4294967295) ∧ RdR w d.b.A d.b.n d.sh ∧ d.b.n ≤ 100000 ∧ ∀ r ∈ d.sh, r.X ≤ 9223372036854775807 ∧ r.Y ≤ 9223372036854775807
theorem ListAt.below {w w' : World} {l : List DB} (h : ListAt w l) (hb : Below w.heap.size w w') : ListAt w' l := fun d hd => ⟨(h d hd).1, (h d hd).2.1.below hb, (h d hd).2.2⟩
set_option maxRecDepth 100000 in
set_option maxHeartbeats 4000000 in
theorem is_any (pv : Value) (np : Nat) (bs : Bxs) (A : Option Addr) (n c : Nat) (l : List DB) (I : Option Addr) (m ci : Nat) (ids : List Int) (w : World) (hp : PlaceIs w pv np bs) (hl : RdD w A n l) (hn : n ≤ 1000) (hR : RelI (SmD w) bs l) (hL : ListAt w l) (hI : Rd w I m (U32 ids)) (hm : m ≤ 1000) (hids : ∀ i ∈ ids, 0 ≤ i ∧ i ≤ 4294967295) :
    Calls Tryz.prog 24 #[pv, .slice A n c, .slice I m ci] w fun e w' => e = .returned (.bool true) ∧ Below w.heap.size w w' := by
  obtain ⟨mb, rfl, hmb⟩ := hp
  have hpv : PlaceIs w (.agg #[.map mb]) np bs := ⟨mb, rfl, hmb⟩
  clear hmb
  have hba := bal (bre w) (.cells #[.map mb] 38)
  have xK3 := Blk.new w 38 #[.map mb]
  have xHP := hpv.below hba
  have xHL := hl.below hba
  have xHR := hR.mono (fun _ _ h => SmD.below h hba)
  have xHA := hL.below hba
  have xHI := hI.below hba
  have HID := Lib.hid hids
  have HLL := Lib.hid hl.1
  have HIL := Lib.hid (show ids.length = m by have := hI.1; simpa [U32] using this)
  clear hpv hl hR hL hI hids
  go_enter Tryz.func24, Tryz.ntmps24
  go_upto_region 1 with fail
  obtain ⟨Z, hZ⟩ : ∃ Z, w.alloc (.cells #[.map mb] 38) = Z := ⟨_, rfl⟩
  rw [hZ] at hba xK3 xHP xHL xHR xHA xHI ⊢
  have HBZ := Lib.hid hba
  have K3 := Lib.hid xK3
  have HP := Lib.hid xHP
  have HL := Lib.hid xHL
  have HR := Lib.hid xHR
  have HA := Lib.hid xHA
  have HI := Lib.hid xHI
  clear hba xK3 xHP xHL xHR xHA xHI hZ
  go_wp2_with fail
  go_loopw [7] (fun i wr => ∃ k : Nat, i = .int .i64 k ∧ k ≤ n ∧ Below Z.heap.size Z wr) (fun i _ => n - (intOf i).toNat)
  case atStart => exact ⟨0, rfl, by omega, bre Z⟩
  case round =>
    obtain ⟨k, rfl, hk, hB⟩ := hrel
    have HB := Lib.hid hB
    replace K3 := Lib.hid (K3.out.belowS hB)
    replace HP := Lib.hid (HP.out.below hB)
    replace HL := Lib.hid (HL.out.below hB)
    replace HR := Lib.hid (HR.out.mono (fun _ _ h => SmD.below h hB))
    replace HA := Lib.hid (HA.out.below hB)
    replace HI := Lib.hid (HI.out.below hB)
    clear hB
    by_cases hlt : k < n
    · as_aux_lemma =>
        obtain ⟨d, hd⟩ : ∃ d, l[k]? = some d := ⟨_, List.getElem?_eq_getElem (by have := HLL.out; omega)⟩
        have hdm := List.mem_of_getElem? hd
        obtain ⟨hdi, hdr, hdn, hdx⟩ := HA.out d hdm
        obtain ⟨kb, hkb, hsm⟩ := HR.out.has d hdm
        obtain ⟨b, off, rfl, hb, hcl⟩ := HL.out.2 (by omega)
        have c0 : wr.cell? ⟨b, off + k * 10, none⟩ = some (.int .u32 d.id) := hcl k d hd 0 _ rfl
        have HC0 := Lib.hid c0
        have HCL := Lib.hid (hcl k d hd)
        have HSM := Lib.hid hsm
        have HDR := Lib.hid hdr
        have HDX := Lib.hid hdx
        have HKB := Lib.hid (show (bs d.id).getD zBX = kb by rw [hkb]; rfl)
        have HSK := Lib.hid (show (bs d.id).isSome = true by rw [hkb]; rfl)
        have k1 : (k : Int) < (n : Int) := by omega
        have k0 : (0 : Int) ≤ (k : Int) := by omega
        clear hcl hd hdm hsm hkb hdr hdx
        go_upto_region 4 with fail
        have HBW := Lib.hid (show Below wr.heap.size wr wr.drew from (bre wr).drew)
        have HBOB := Lib.hid (block_lt_of_cell HC0.out)
        go_cut [8, 9] (fun sb so wx => ∃ g : Nat, sb = .pointer (some ⟨g, 0, none⟩) ∧ so = .bool true ∧ Blk wx g 46 #[.int .i64 kb.X, .int .i64 kb.Y, .int .i64 kb.W, .int .i64 kb.H, .bool kb.M, .int .i64 kb.G, .int .i64 kb.B, .bool kb.S, .slice kb.A kb.n kb.c] ∧ Below wr.heap.size wr wx)
        case first =>
          refine wp_region_noPanic ?_
          refine wp_region_held_drew (S := (fun w' => w'.cell? ⟨w.heap.size, 0, none⟩ = some (.map mb) ∧ w'.cell? ⟨b, off + k * 10, none⟩ = some (.int .u32 d.id))) (by kernel_rfl) ?_ (fun hHeld => ?_)
          · (try dsimp only)
            exact ⟨(K3.out.belowS HBW.out).cellV (i := 0) rfl, (HBW.out.cell (p := ⟨b, off + k * 10, none⟩) HBOB.out).trans HC0.out⟩
          refine Tr.take_at 0 20 (.agg #[.map mb]) rfl rfl (by kernel_rfl) (by kernel_rfl) (by kernel_rfl) (fun _ _ _ h => h) (Or.inl ⟨by rfl, ?_⟩) (by assumption) ?_
          · intro W0 hSw
            (try dsimp only at hSw)
            go_simp
          simp only [List.set_cons_zero, List.set_cons_succ]
          refine Tr.take_at 1 21 (.slice (some ⟨b, off, none⟩) n c) rfl rfl (by kernel_rfl) (by kernel_rfl) (by kernel_rfl) (fun _ _ _ h => h) (Or.inl ⟨by rfl, ?_⟩) (by assumption) ?_
          · intro W0 hSw
            (try dsimp only at hSw)
            go_simp
          simp only [List.set_cons_zero, List.set_cons_succ]
          refine Tr.take_at 2 22 (.int .i64 (k : Int)) rfl rfl (by kernel_rfl) (by kernel_rfl) (by kernel_rfl) (fun _ _ _ h => h) (Or.inl ⟨by rfl, ?_⟩) (by assumption) ?_
          · intro W0 hSw
            (try dsimp only at hSw)
            go_simp
          simp only [List.set_cons_zero, List.set_cons_succ]
          refine Tr.take_at 3 23 (.pointer (some ⟨b, off + k * 10, none⟩)) rfl rfl (by kernel_rfl) (by kernel_rfl) (by kernel_rfl) (fun _ _ _ h => h) (Or.inl ⟨by rfl, ?_⟩) (by assumption) ?_
          · intro W0 hSw
            (try dsimp only at hSw)
            go_simp
          simp only [List.set_cons_zero, List.set_cons_succ]
          refine Tr.take_at 4 24 (.pointer (some ⟨b, off + k * 10, none⟩)) rfl rfl (by kernel_rfl) (by kernel_rfl) (by kernel_rfl) (fun _ _ _ h => h) (Or.inl ⟨by rfl, ?_⟩) (by assumption) ?_
          · intro W0 hSw
            (try dsimp only at hSw)
            go_simp
          simp only [List.set_cons_zero, List.set_cons_succ]
          refine Tr.take_at 5 25 (.int .u32 d.id) rfl rfl (by kernel_rfl) (by kernel_rfl) (by kernel_rfl) (fun _ _ _ h => h) (Or.inl ⟨by rfl, ?_⟩) (by assumption) ?_
          · intro W0 hSw
            (try dsimp only at hSw)
            go_simp
          simp only [List.set_cons_zero, List.set_cons_succ]
          refine wpAnyH_ready (rs := [6, 10]) (by kernel_rfl) (by simp) ?_
          refine AllReadyH.cons rfl (fun K hK => ?_) (AllReadyH.cons rfl (fun K hK => ?_) AllReadyH.nil)
          ·
            go_simp
            refine (box_any (.agg #[.map mb]) np bs d.id _ hdi (HP.out.below HBW.out)).mono ?_
            rintro e wA ⟨rfl, hbA⟩
            rw [HKB.out, HSK.out]
            unfold BX.v
            replace HBW := Lib.hid (bstep HBW.out hbA)
            clear hbA
            go_simp
            refine hK.out _ _ ?_ (fun hHeld => ?_)
            · (try dsimp only)
              exact ⟨(K3.out.belowS HBW.out).cellV (i := 0) rfl, (HBW.out.cell (p := ⟨b, off + k * 10, none⟩) HBOB.out).trans HC0.out⟩
            clear hK K
            refine Tr.take_at 7 19 (.tuple #[.agg #[.int .i64 kb.X, .int .i64 kb.Y, .int .i64 kb.W, .int .i64 kb.H, .bool kb.M, .int .i64 kb.G, .int .i64 kb.B, .bool kb.S, .slice kb.A kb.n kb.c], .bool true]) rfl rfl (by kernel_rfl) (by kernel_rfl) (by kernel_rfl) (fun _ _ _ h => h) (Or.inl ⟨by rfl, ?_⟩) (by assumption) ?_
            · intro W0 hSw
              (try dsimp only at hSw)
              go_simp
            simp only [List.set_cons_zero, List.set_cons_succ]
            refine Tr.take_at 8 27 (.agg #[.int .i64 kb.X, .int .i64 kb.Y, .int .i64 kb.W, .int .i64 kb.H, .bool kb.M, .int .i64 kb.G, .int .i64 kb.B, .bool kb.S, .slice kb.A kb.n kb.c]) rfl rfl (by kernel_rfl) (by kernel_rfl) (by kernel_rfl) (fun _ _ _ h => h) (Or.inl ⟨by rfl, ?_⟩) (by assumption) ?_
            · intro W0 hSw
              (try dsimp only at hSw)
              go_simp
            simp only [List.set_cons_zero, List.set_cons_succ]
            refine Tr.take_at 9 28 (.bool true) rfl rfl (by kernel_rfl) (by kernel_rfl) (by kernel_rfl) (fun _ _ _ h => h) (Or.inl ⟨by rfl, ?_⟩) (by assumption) ?_
            · intro W0 hSw
              (try dsimp only at hSw)
              go_simp
            simp only [List.set_cons_zero, List.set_cons_succ]
            refine wpAnyH_ready (rs := [10]) (by kernel_rfl) (by simp) ?_
            refine AllReadyH.cons rfl (fun K hK => ?_) AllReadyH.nil
            go_simp
            have K22 := Lib.hid (show Blk (wA.alloc (.cells #[.int .i64 0, .int .i64 0, .int .i64 0, .int .i64 0, .bool false, .int .i64 0, .int .i64 0, .bool false, .slice none 0 0] 46)) (wA.heap.size) 46 #[.int .i64 0, .int .i64 0, .int .i64 0, .int .i64 0, .bool false, .int .i64 0, .int .i64 0, .bool false, .slice none 0 0] from Blk.new wA 46 #[.int .i64 0, .int .i64 0, .int .i64 0, .int .i64 0, .bool false, .int .i64 0, .int .i64 0, .bool false, .slice none 0 0])
            have HL22 := Lib.hid (show wr.heap.size ≤ wA.heap.size from HBW.out.size)
            replace HBW := Lib.hid (bal HBW.out (.cells #[.int .i64 0, .int .i64 0, .int .i64 0, .int .i64 0, .bool false, .int .i64 0, .int .i64 0, .bool false, .slice none 0 0] 46))
            refine hK.out _ _ ?_ (fun hHeld => ?_)
            · (try dsimp only)
              exact ⟨(K3.out.belowS HBW.out).cellV (i := 0) rfl, (HBW.out.cell (p := ⟨b, off + k * 10, none⟩) HBOB.out).trans HC0.out⟩
            clear hK K
            refine wpAnyH_ready (rs := [11]) (by kernel_rfl) (by simp) ?_
            refine AllReadyH.cons rfl (fun K hK => ?_) AllReadyH.nil
            refine Tr.wanted_plain rfl ?_
            refine store_mid0 rfl 46 _ _ rfl (wA.heap.size) 0 #[.int .i64 kb.X, .int .i64 kb.Y, .int .i64 kb.W, .int .i64 kb.H, .bool kb.M, .int .i64 kb.G, .int .i64 kb.B, .bool kb.S, .slice kb.A kb.n kb.c] (by rfl) (by rfl) (by have h := there_blk K22.out; exact h) Tryz.sizeBx (by simp [Value.oneCell']) ?_
            have xK := blk_puts9 (.int .i64 kb.X) (.int .i64 kb.Y) (.int .i64 kb.W) (.int .i64 kb.H) (.bool kb.M) (.int .i64 kb.G) (.int .i64 kb.B) (.bool kb.S) (.slice kb.A kb.n kb.c) K22.out
            have xB := bsets HBW.out HL22.out (#[.int .i64 kb.X, .int .i64 kb.Y, .int .i64 kb.W, .int .i64 kb.H, .bool kb.M, .int .i64 kb.G, .int .i64 kb.B, .bool kb.S, .slice kb.A kb.n kb.c] : Array Value).toList 0
            obtain ⟨wS, hwS⟩ : ∃ wS, World.setCells (wA.alloc (.cells #[.int .i64 0, .int .i64 0, .int .i64 0, .int .i64 0, .bool false, .int .i64 0, .int .i64 0, .bool false, .slice none 0 0] 46)) (wA.heap.size) 0 (#[.int .i64 kb.X, .int .i64 kb.Y, .int .i64 kb.W, .int .i64 kb.H, .bool kb.M, .int .i64 kb.G, .int .i64 kb.B, .bool kb.S, .slice kb.A kb.n kb.c] : Array Value).toList = wS := ⟨_, rfl⟩
            rw [hwS] at xK xB ⊢
            replace HBW := Lib.hid xB
            replace K22 := Lib.hid xK
            clear xB xK hwS
            refine hK.out _ _ ?_ (fun hHeld => ?_)
            · (try dsimp only)
              exact ⟨(K3.out.belowS HBW.out).cellV (i := 0) rfl, (HBW.out.cell (p := ⟨b, off + k * 10, none⟩) HBOB.out).trans HC0.out⟩
            clear hK K
            refine Tr.take_at 12 9 (.bool true) rfl rfl (by kernel_rfl) (by kernel_rfl) (by kernel_rfl) (fun _ _ _ h => h) (Or.inl ⟨by rfl, ?_⟩) (by assumption) ?_
            · intro W0 hSw
              (try dsimp only at hSw)
              go_simp
            simp only [List.set_cons_zero, List.set_cons_succ]
            refine wpAnyH_done (by kernel_rfl) ?_ _
            refine NoPanic.normal ?_
            go_wp2_with fail
            go_meet
            exact ⟨_, rfl, rfl, K22.out, HBW.out⟩
          ·
            go_simp
            have K22 := Lib.hid (show Blk (wr.drew.alloc (.cells #[.int .i64 0, .int .i64 0, .int .i64 0, .int .i64 0, .bool false, .int .i64 0, .int .i64 0, .bool false, .slice none 0 0] 46)) (wr.heap.size) 46 #[.int .i64 0, .int .i64 0, .int .i64 0, .int .i64 0, .bool false, .int .i64 0, .int .i64 0, .bool false, .slice none 0 0] from Blk.new wr.drew 46 #[.int .i64 0, .int .i64 0, .int .i64 0, .int .i64 0, .bool false, .int .i64 0, .int .i64 0, .bool false, .slice none 0 0])
            have HL22 := Lib.hid (show wr.heap.size ≤ wr.heap.size from HBW.out.size)
            replace HBW := Lib.hid (bal HBW.out (.cells #[.int .i64 0, .int .i64 0, .int .i64 0, .int .i64 0, .bool false, .int .i64 0, .int .i64 0, .bool false, .slice none 0 0] 46))
            refine hK.out _ _ ?_ (fun hHeld => ?_)
            · (try dsimp only)
              exact ⟨(K3.out.belowS HBW.out).cellV (i := 0) rfl, (HBW.out.cell (p := ⟨b, off + k * 10, none⟩) HBOB.out).trans HC0.out⟩
            clear hK K
            refine wpAnyH_ready (rs := [6]) (by kernel_rfl) (by simp) ?_
            refine AllReadyH.cons rfl (fun K hK => ?_) AllReadyH.nil
            go_simp
            refine (box_any (.agg #[.map mb]) np bs d.id _ hdi (HP.out.below HBW.out)).mono ?_
            rintro e wA ⟨rfl, hbA⟩
            rw [HKB.out, HSK.out]
            unfold BX.v
            replace HBW := Lib.hid (bstep HBW.out hbA)
            replace K22 := Lib.hid (K22.out.belowS hbA)
            clear hbA
            go_simp
            refine hK.out _ _ ?_ (fun hHeld => ?_)
            · (try dsimp only)
              exact ⟨(K3.out.belowS HBW.out).cellV (i := 0) rfl, (HBW.out.cell (p := ⟨b, off + k * 10, none⟩) HBOB.out).trans HC0.out⟩
            clear hK K
            refine Tr.take_at 7 19 (.tuple #[.agg #[.int .i64 kb.X, .int .i64 kb.Y, .int .i64 kb.W, .int .i64 kb.H, .bool kb.M, .int .i64 kb.G, .int .i64 kb.B, .bool kb.S, .slice kb.A kb.n kb.c], .bool true]) rfl rfl (by kernel_rfl) (by kernel_rfl) (by kernel_rfl) (fun _ _ _ h => h) (Or.inl ⟨by rfl, ?_⟩) (by assumption) ?_
            · intro W0 hSw
              (try dsimp only at hSw)
              go_simp
            simp only [List.set_cons_zero, List.set_cons_succ]
            refine Tr.take_at 8 27 (.agg #[.int .i64 kb.X, .int .i64 kb.Y, .int .i64 kb.W, .int .i64 kb.H, .bool kb.M, .int .i64 kb.G, .int .i64 kb.B, .bool kb.S, .slice kb.A kb.n kb.c]) rfl rfl (by kernel_rfl) (by kernel_rfl) (by kernel_rfl) (fun _ _ _ h => h) (Or.inl ⟨by rfl, ?_⟩) (by assumption) ?_
            · intro W0 hSw
              (try dsimp only at hSw)
              go_simp
            simp only [List.set_cons_zero, List.set_cons_succ]
            refine Tr.take_at 9 28 (.bool true) rfl rfl (by kernel_rfl) (by kernel_rfl) (by kernel_rfl) (fun _ _ _ h => h) (Or.inl ⟨by rfl, ?_⟩) (by assumption) ?_
            · intro W0 hSw
              (try dsimp only at hSw)
              go_simp
            simp only [List.set_cons_zero, List.set_cons_succ]
            refine wpAnyH_ready (rs := [11]) (by kernel_rfl) (by simp) ?_
            refine AllReadyH.cons rfl (fun K hK => ?_) AllReadyH.nil
            refine Tr.wanted_plain rfl ?_
            refine store_mid0 rfl 46 _ _ rfl (wr.heap.size) 0 #[.int .i64 kb.X, .int .i64 kb.Y, .int .i64 kb.W, .int .i64 kb.H, .bool kb.M, .int .i64 kb.G, .int .i64 kb.B, .bool kb.S, .slice kb.A kb.n kb.c] (by rfl) (by rfl) (by have h := there_blk K22.out; exact h) Tryz.sizeBx (by simp [Value.oneCell']) ?_
            have xK := blk_puts9 (.int .i64 kb.X) (.int .i64 kb.Y) (.int .i64 kb.W) (.int .i64 kb.H) (.bool kb.M) (.int .i64 kb.G) (.int .i64 kb.B) (.bool kb.S) (.slice kb.A kb.n kb.c) K22.out
            have xB := bsets HBW.out HL22.out (#[.int .i64 kb.X, .int .i64 kb.Y, .int .i64 kb.W, .int .i64 kb.H, .bool kb.M, .int .i64 kb.G, .int .i64 kb.B, .bool kb.S, .slice kb.A kb.n kb.c] : Array Value).toList 0
            obtain ⟨wS, hwS⟩ : ∃ wS, World.setCells (wA) (wr.heap.size) 0 (#[.int .i64 kb.X, .int .i64 kb.Y, .int .i64 kb.W, .int .i64 kb.H, .bool kb.M, .int .i64 kb.G, .int .i64 kb.B, .bool kb.S, .slice kb.A kb.n kb.c] : Array Value).toList = wS := ⟨_, rfl⟩
            rw [hwS] at xK xB ⊢
            replace HBW := Lib.hid xB
            replace K22 := Lib.hid xK
            clear xB xK hwS
            refine hK.out _ _ ?_ (fun hHeld => ?_)
            · (try dsimp only)
              exact ⟨(K3.out.belowS HBW.out).cellV (i := 0) rfl, (HBW.out.cell (p := ⟨b, off + k * 10, none⟩) HBOB.out).trans HC0.out⟩
            clear hK K
            refine Tr.take_at 12 9 (.bool true) rfl rfl (by kernel_rfl) (by kernel_rfl) (by kernel_rfl) (fun _ _ _ h => h) (Or.inl ⟨by rfl, ?_⟩) (by assumption) ?_
            · intro W0 hSw
              (try dsimp only at hSw)
              go_simp
            simp only [List.set_cons_zero, List.set_cons_succ]
            refine wpAnyH_done (by kernel_rfl) ?_ _
            refine NoPanic.normal ?_
            go_wp2_with fail
            go_meet
            exact ⟨_, rfl, rfl, K22.out, HBW.out⟩
        case rest =>
          obtain ⟨g8, rfl, rfl, k8, hb8⟩ := hcut
          have K8 := Lib.hid k8
          have HB8 := Lib.hid hb8
          have HX := Lib.hid (fun j u (h : d.cells[j]? = some u) => (hb8.cell (p := ⟨b, off + k * 10 + j, none⟩) HBOB.out).trans (HCL.out j u h))
          clear k8 hb8 HBW
          go_upto_region 5 with fail
          have HBW := Lib.hid (show Below wc.heap.size wc wc.drew from (bre wc).drew)
          have HBO8 := Lib.hid (show b < wc.heap.size from Nat.lt_of_lt_of_le HBOB.out HB8.out.size)
          refine wp_region_noPanic ?_
          refine wp_region_held_drew (S := (fun w' => w'.cell? ⟨g8, 0, none⟩ = some (.int .i64 kb.X) ∧ w'.cell? ⟨g8, 1, none⟩ = some (.int .i64 kb.Y) ∧ w'.cell? ⟨g8, 2, none⟩ = some (.int .i64 kb.W) ∧ w'.cell? ⟨g8, 3, none⟩ = some (.int .i64 kb.H) ∧ w'.cell? ⟨g8, 4, none⟩ = some (.bool kb.M) ∧ w'.cell? ⟨g8, 5, none⟩ = some (.int .i64 kb.G) ∧ w'.cell? ⟨g8, 6, none⟩ = some (.int .i64 kb.B) ∧ w'.cell? ⟨g8, 7, none⟩ = some (.bool kb.S) ∧ w'.cell? ⟨g8, 8, none⟩ = some (.slice kb.A kb.n kb.c) ∧ w'.cell? ⟨b, off + k * 10, none⟩ = some (.int .u32 d.id) ∧ w'.cell? ⟨b, off + k * 10 + 1, none⟩ = some (.int .i64 d.b.X) ∧ w'.cell? ⟨b, off + k * 10 + 2, none⟩ = some (.int .i64 d.b.Y) ∧ w'.cell? ⟨b, off + k * 10 + 3, none⟩ = some (.int .i64 d.b.W) ∧ w'.cell? ⟨b, off + k * 10 + 4, none⟩ = some (.int .i64 d.b.H) ∧ w'.cell? ⟨b, off + k * 10 + 5, none⟩ = some (.bool d.b.M) ∧ w'.cell? ⟨b, off + k * 10 + 6, none⟩ = some (.int .i64 d.b.G) ∧ w'.cell? ⟨b, off + k * 10 + 7, none⟩ = some (.int .i64 d.b.B) ∧ w'.cell? ⟨b, off + k * 10 + 8, none⟩ = some (.bool d.b.S) ∧ w'.cell? ⟨b, off + k * 10 + 9, none⟩ = some (.slice d.b.A d.b.n d.b.c))) (by kernel_rfl) ?_ (fun hHeld => ?_)
          · (try dsimp only)
            exact ⟨(K8.out.belowS HBW.out).cellV (i := 0) rfl, (K8.out.belowS HBW.out).cellV (i := 1) rfl, (K8.out.belowS HBW.out).cellV (i := 2) rfl, (K8.out.belowS HBW.out).cellV (i := 3) rfl, (K8.out.belowS HBW.out).cellV (i := 4) rfl, (K8.out.belowS HBW.out).cellV (i := 5) rfl, (K8.out.belowS HBW.out).cellV (i := 6) rfl, (K8.out.belowS HBW.out).cellV (i := 7) rfl, (K8.out.belowS HBW.out).cellV (i := 8) rfl, (HBW.out.cell (p := ⟨b, off + k * 10, none⟩) HBO8.out).trans (HX.out 0 _ rfl), (HBW.out.cell (p := ⟨b, off + k * 10 + 1, none⟩) HBO8.out).trans (HX.out 1 _ rfl), (HBW.out.cell (p := ⟨b, off + k * 10 + 2, none⟩) HBO8.out).trans (HX.out 2 _ rfl), (HBW.out.cell (p := ⟨b, off + k * 10 + 3, none⟩) HBO8.out).trans (HX.out 3 _ rfl), (HBW.out.cell (p := ⟨b, off + k * 10 + 4, none⟩) HBO8.out).trans (HX.out 4 _ rfl), (HBW.out.cell (p := ⟨b, off + k * 10 + 5, none⟩) HBO8.out).trans (HX.out 5 _ rfl), (HBW.out.cell (p := ⟨b, off + k * 10 + 6, none⟩) HBO8.out).trans (HX.out 6 _ rfl), (HBW.out.cell (p := ⟨b, off + k * 10 + 7, none⟩) HBO8.out).trans (HX.out 7 _ rfl), (HBW.out.cell (p := ⟨b, off + k * 10 + 8, none⟩) HBO8.out).trans (HX.out 8 _ rfl), (HBW.out.cell (p := ⟨b, off + k * 10 + 9, none⟩) HBO8.out).trans (HX.out 9 _ rfl)⟩
          refine Tr.take_at 0 29 (.bool true) rfl rfl (by kernel_rfl) (by kernel_rfl) (by kernel_rfl) (fun _ _ _ h => h) (Or.inl ⟨by rfl, ?_⟩) (by assumption) ?_
          · intro W0 hSw
            (try dsimp only at hSw)
            go_simp
          simp only [List.set_cons_zero, List.set_cons_succ]
          refine Tr.take_at 1 30 (.bool false) rfl rfl (by kernel_rfl) (by kernel_rfl) (by kernel_rfl) (fun _ _ _ h => h) (Or.inl ⟨by rfl, ?_⟩) (by assumption) ?_
          · intro W0 hSw
            (try dsimp only at hSw)
            go_simp
          simp only [List.set_cons_zero, List.set_cons_succ]
          refine Tr.take_at 2 31 (.bool false) rfl rfl (by kernel_rfl) (by kernel_rfl) (by kernel_rfl) (fun _ _ _ h => h) (Or.inl ⟨by rfl, ?_⟩) (by assumption) ?_
          · intro W0 hSw
            (try dsimp only at hSw)
            go_simp
          simp only [List.set_cons_zero, List.set_cons_succ]
          refine Tr.take_at 3 32 (.agg #[.int .i64 kb.X, .int .i64 kb.Y, .int .i64 kb.W, .int .i64 kb.H, .bool kb.M, .int .i64 kb.G, .int .i64 kb.B, .bool kb.S, .slice kb.A kb.n kb.c]) rfl rfl (by kernel_rfl) (by kernel_rfl) (by kernel_rfl) (fun _ _ _ h => h) (Or.inl ⟨by rfl, ?_⟩) (by assumption) ?_
          · intro W0 hSw
            (try dsimp only at hSw)
            go_simp
          simp only [List.set_cons_zero, List.set_cons_succ]
          refine Tr.take_at 4 33 (.slice (some ⟨b, off, none⟩) n c) rfl rfl (by kernel_rfl) (by kernel_rfl) (by kernel_rfl) (fun _ _ _ h => h) (Or.inl ⟨by rfl, ?_⟩) (by assumption) ?_
          · intro W0 hSw
            (try dsimp only at hSw)
            go_simp
          simp only [List.set_cons_zero, List.set_cons_succ]
          refine Tr.take_at 5 34 (.int .i64 (k : Int)) rfl rfl (by kernel_rfl) (by kernel_rfl) (by kernel_rfl) (fun _ _ _ h => h) (Or.inl ⟨by rfl, ?_⟩) (by assumption) ?_
          · intro W0 hSw
            (try dsimp only at hSw)
            go_simp
          simp only [List.set_cons_zero, List.set_cons_succ]
          refine Tr.take_at 6 35 (.pointer (some ⟨b, off + k * 10, none⟩)) rfl rfl (by kernel_rfl) (by kernel_rfl) (by kernel_rfl) (fun _ _ _ h => h) (Or.inl ⟨by rfl, ?_⟩) (by assumption) ?_
          · intro W0 hSw
            (try dsimp only at hSw)
            go_simp
          simp only [List.set_cons_zero, List.set_cons_succ]
          refine Tr.take_at 7 36 (.agg #[.int .u32 d.id, .int .i64 d.b.X, .int .i64 d.b.Y, .int .i64 d.b.W, .int .i64 d.b.H, .bool d.b.M, .int .i64 d.b.G, .int .i64 d.b.B, .bool d.b.S, .slice d.b.A d.b.n d.b.c]) rfl rfl (by kernel_rfl) (by kernel_rfl) (by kernel_rfl) (fun _ _ _ h => h) (Or.inl ⟨by rfl, ?_⟩) (by assumption) ?_
          · intro W0 hSw
            (try dsimp only at hSw)
            go_simp
          simp only [List.set_cons_zero, List.set_cons_succ]
          refine wpAnyH_ready (rs := [8]) (by kernel_rfl) (by simp) ?_
          refine AllReadyH.cons rfl (fun K hK => ?_) AllReadyH.nil
          go_simp
          refine (same_any kb d _ ((HSM.out.below HB8.out).below HBW.out) ((HDR.out.below HB8.out).below HBW.out) hdn HDX.out).mono ?_
          rintro e wA ⟨rfl, hbA⟩
          replace HBW := Lib.hid (bstep HBW.out hbA)
          clear hbA
          go_simp
          refine hK.out _ _ ?_ (fun hHeld => ?_)
          · (try dsimp only)
            exact ⟨(K8.out.belowS HBW.out).cellV (i := 0) rfl, (K8.out.belowS HBW.out).cellV (i := 1) rfl, (K8.out.belowS HBW.out).cellV (i := 2) rfl, (K8.out.belowS HBW.out).cellV (i := 3) rfl, (K8.out.belowS HBW.out).cellV (i := 4) rfl, (K8.out.belowS HBW.out).cellV (i := 5) rfl, (K8.out.belowS HBW.out).cellV (i := 6) rfl, (K8.out.belowS HBW.out).cellV (i := 7) rfl, (K8.out.belowS HBW.out).cellV (i := 8) rfl, (HBW.out.cell (p := ⟨b, off + k * 10, none⟩) HBO8.out).trans (HX.out 0 _ rfl), (HBW.out.cell (p := ⟨b, off + k * 10 + 1, none⟩) HBO8.out).trans (HX.out 1 _ rfl), (HBW.out.cell (p := ⟨b, off + k * 10 + 2, none⟩) HBO8.out).trans (HX.out 2 _ rfl), (HBW.out.cell (p := ⟨b, off + k * 10 + 3, none⟩) HBO8.out).trans (HX.out 3 _ rfl), (HBW.out.cell (p := ⟨b, off + k * 10 + 4, none⟩) HBO8.out).trans (HX.out 4 _ rfl), (HBW.out.cell (p := ⟨b, off + k * 10 + 5, none⟩) HBO8.out).trans (HX.out 5 _ rfl), (HBW.out.cell (p := ⟨b, off + k * 10 + 6, none⟩) HBO8.out).trans (HX.out 6 _ rfl), (HBW.out.cell (p := ⟨b, off + k * 10 + 7, none⟩) HBO8.out).trans (HX.out 7 _ rfl), (HBW.out.cell (p := ⟨b, off + k * 10 + 8, none⟩) HBO8.out).trans (HX.out 8 _ rfl), (HBW.out.cell (p := ⟨b, off + k * 10 + 9, none⟩) HBO8.out).trans (HX.out 9 _ rfl)⟩
          clear hK K
          refine Tr.take_at 9 38 (.bool false) rfl rfl (by kernel_rfl) (by kernel_rfl) (by kernel_rfl) (fun _ _ _ h => h) (Or.inl ⟨by rfl, ?_⟩) (by assumption) ?_
          · intro W0 hSw
            (try dsimp only at hSw)
            go_simp
          simp only [List.set_cons_zero, List.set_cons_succ]
          refine Tr.take_at 10 39 (.bool false) rfl rfl (by kernel_rfl) (by kernel_rfl) (by kernel_rfl) (fun _ _ _ h => h) (Or.inl ⟨by rfl, ?_⟩) (by assumption) ?_
          · intro W0 hSw
            (try dsimp only at hSw)
            go_simp
          simp only [List.set_cons_zero, List.set_cons_succ]
          refine wpAnyH_done (by kernel_rfl) ?_ _
          refine NoPanic.normal ?_
          go_wp2_with fail
          go_roundw
          case rel => exact ⟨k + 1, by go_num, by omega, bstep (bstep HB.out HB8.out) HBW.out⟩
          case measure => simp [intOf]; omega
    · as_aux_lemma =>
        obtain rfl : k = n := by omega
        have k1 : ¬ (k : Int) < (k : Int) := by omega
        replace HBZ := Lib.hid (bstep HBZ.out HB.out)
        clear HB HA HLL
        obtain ⟨wq, hwq⟩ : ∃ wq : World, wq = wr := ⟨wr, rfl⟩
        subst hwq
        go_wp2_with fail
        go_loopw [10] (fun i wz => ∃ j : Nat, i = .int .i64 j ∧ j ≤ m ∧ Below wq.heap.size wq wz) (fun i _ => m - (intOf i).toNat)
        case atStart => exact ⟨0, rfl, by omega, bre wq⟩
        case round =>
          obtain ⟨j, rfl, hj, hB⟩ := hrel
          have HB := Lib.hid hB
          replace K3 := Lib.hid (K3.out.belowS hB)
          replace HP := Lib.hid (HP.out.below hB)
          replace HL := Lib.hid (HL.out.below hB)
          replace HI := Lib.hid (HI.out.below hB)
          clear hB
          by_cases hlt : j < m
          · as_aux_lemma =>
              obtain ⟨x, hx⟩ : ∃ x, ids[j]? = some x := ⟨_, List.getElem?_eq_getElem (by rw [HIL.out]; exact hlt)⟩
              have hxb := HID.out x (List.mem_of_getElem? hx)
              obtain ⟨b, off, rfl, hb, hcl⟩ := HI.out.2 (by omega)
              have c0 := hcl j _ (U32_at hx)
              have HC0 := Lib.hid c0
              obtain ⟨kb, hkb⟩ : ∃ kb, (bs x).getD zBX = kb := ⟨_, rfl⟩
              obtain ⟨sk, hsk⟩ : ∃ sk, (bs x).isSome = sk := ⟨_, rfl⟩
              have HKB := Lib.hid hkb
              have HSK := Lib.hid hsk
              have k1 : (j : Int) < (m : Int) := by omega
              have k0 : (0 : Int) ≤ (j : Int) := by omega
              clear hcl hx hkb hsk
              go_upto_region 10 with fail
              have HBW := Lib.hid (show Below wr.heap.size wr wr.drew from (bre wr).drew)
              have HBOB := Lib.hid (block_lt_of_cell HC0.out)
              go_cut [11, 12] (fun sb so wx => ∃ g : Nat, sb = .pointer (some ⟨g, 0, none⟩) ∧ so = .bool sk ∧ Below wr.heap.size wr wx)
              case first =>
                refine wp_region_noPanic ?_
                refine wp_region_held_drew (S := (fun w' => w'.cell? ⟨w.heap.size, 0, none⟩ = some (.map mb) ∧ w'.cell? ⟨b, off + j, none⟩ = some (.int .u32 x))) (by kernel_rfl) ?_ (fun hHeld => ?_)
                · (try dsimp only)
                  exact ⟨(K3.out.belowS HBW.out).cellV (i := 0) rfl, (HBW.out.cell (p := ⟨b, off + j, none⟩) HBOB.out).trans HC0.out⟩
                refine Tr.take_at 0 47 (.agg #[.map mb]) rfl rfl (by kernel_rfl) (by kernel_rfl) (by kernel_rfl) (fun _ _ _ h => h) (Or.inl ⟨by rfl, ?_⟩) (by assumption) ?_
                · intro W0 hSw
                  (try dsimp only at hSw)
                  go_simp
                simp only [List.set_cons_zero, List.set_cons_succ]
                refine Tr.take_at 1 48 (.slice (some ⟨b, off, none⟩) m ci) rfl rfl (by kernel_rfl) (by kernel_rfl) (by kernel_rfl) (fun _ _ _ h => h) (Or.inl ⟨by rfl, ?_⟩) (by assumption) ?_
                · intro W0 hSw
                  (try dsimp only at hSw)
                  go_simp
                simp only [List.set_cons_zero, List.set_cons_succ]
                refine Tr.take_at 2 49 (.int .i64 (j : Int)) rfl rfl (by kernel_rfl) (by kernel_rfl) (by kernel_rfl) (fun _ _ _ h => h) (Or.inl ⟨by rfl, ?_⟩) (by assumption) ?_
                · intro W0 hSw
                  (try dsimp only at hSw)
                  go_simp
                simp only [List.set_cons_zero, List.set_cons_succ]
                refine Tr.take_at 3 50 (.pointer (some ⟨b, off + j, none⟩)) rfl rfl (by kernel_rfl) (by kernel_rfl) (by kernel_rfl) (fun _ _ _ h => h) (Or.inl ⟨by rfl, ?_⟩) (by assumption) ?_
                · intro W0 hSw
                  (try dsimp only at hSw)
                  go_simp
                simp only [List.set_cons_zero, List.set_cons_succ]
                refine Tr.take_at 4 51 (.int .u32 x) rfl rfl (by kernel_rfl) (by kernel_rfl) (by kernel_rfl) (fun _ _ _ h => h) (Or.inl ⟨by rfl, ?_⟩) (by assumption) ?_
                · intro W0 hSw
                  (try dsimp only at hSw)
                  go_simp
                simp only [List.set_cons_zero, List.set_cons_succ]
                refine wpAnyH_ready (rs := [5, 9]) (by kernel_rfl) (by simp) ?_
                refine AllReadyH.cons rfl (fun K hK => ?_) (AllReadyH.cons rfl (fun K hK => ?_) AllReadyH.nil)
                ·
                  go_simp
                  refine (box_any (.agg #[.map mb]) np bs x _ hxb (HP.out.below HBW.out)).mono ?_
                  rintro e wA ⟨rfl, hbA⟩
                  rw [HKB.out, HSK.out]
                  unfold BX.v
                  replace HBW := Lib.hid (bstep HBW.out hbA)
                  clear hbA
                  go_simp
                  refine hK.out _ _ ?_ (fun hHeld => ?_)
                  · (try dsimp only)
                    exact ⟨(K3.out.belowS HBW.out).cellV (i := 0) rfl, (HBW.out.cell (p := ⟨b, off + j, none⟩) HBOB.out).trans HC0.out⟩
                  clear hK K
                  refine Tr.take_at 6 46 (.tuple #[.agg #[.int .i64 kb.X, .int .i64 kb.Y, .int .i64 kb.W, .int .i64 kb.H, .bool kb.M, .int .i64 kb.G, .int .i64 kb.B, .bool kb.S, .slice kb.A kb.n kb.c], .bool sk]) rfl rfl (by kernel_rfl) (by kernel_rfl) (by kernel_rfl) (fun _ _ _ h => h) (Or.inl ⟨by rfl, ?_⟩) (by assumption) ?_
                  · intro W0 hSw
                    (try dsimp only at hSw)
                    go_simp
                  simp only [List.set_cons_zero, List.set_cons_succ]
                  refine Tr.take_at 7 53 (.agg #[.int .i64 kb.X, .int .i64 kb.Y, .int .i64 kb.W, .int .i64 kb.H, .bool kb.M, .int .i64 kb.G, .int .i64 kb.B, .bool kb.S, .slice kb.A kb.n kb.c]) rfl rfl (by kernel_rfl) (by kernel_rfl) (by kernel_rfl) (fun _ _ _ h => h) (Or.inl ⟨by rfl, ?_⟩) (by assumption) ?_
                  · intro W0 hSw
                    (try dsimp only at hSw)
                    go_simp
                  simp only [List.set_cons_zero, List.set_cons_succ]
                  refine Tr.take_at 8 54 (.bool sk) rfl rfl (by kernel_rfl) (by kernel_rfl) (by kernel_rfl) (fun _ _ _ h => h) (Or.inl ⟨by rfl, ?_⟩) (by assumption) ?_
                  · intro W0 hSw
                    (try dsimp only at hSw)
                    go_simp
                  simp only [List.set_cons_zero, List.set_cons_succ]
                  refine wpAnyH_ready (rs := [9]) (by kernel_rfl) (by simp) ?_
                  refine AllReadyH.cons rfl (fun K hK => ?_) AllReadyH.nil
                  go_simp
                  have K22 := Lib.hid (show Blk (wA.alloc (.cells #[.int .i64 0, .int .i64 0, .int .i64 0, .int .i64 0, .bool false, .int .i64 0, .int .i64 0, .bool false, .slice none 0 0] 46)) (wA.heap.size) 46 #[.int .i64 0, .int .i64 0, .int .i64 0, .int .i64 0, .bool false, .int .i64 0, .int .i64 0, .bool false, .slice none 0 0] from Blk.new wA 46 #[.int .i64 0, .int .i64 0, .int .i64 0, .int .i64 0, .bool false, .int .i64 0, .int .i64 0, .bool false, .slice none 0 0])
                  have HL22 := Lib.hid (show wr.heap.size ≤ wA.heap.size from HBW.out.size)
                  replace HBW := Lib.hid (bal HBW.out (.cells #[.int .i64 0, .int .i64 0, .int .i64 0, .int .i64 0, .bool false, .int .i64 0, .int .i64 0, .bool false, .slice none 0 0] 46))
                  refine hK.out _ _ ?_ (fun hHeld => ?_)
                  · (try dsimp only)
                    exact ⟨(K3.out.belowS HBW.out).cellV (i := 0) rfl, (HBW.out.cell (p := ⟨b, off + j, none⟩) HBOB.out).trans HC0.out⟩
                  clear hK K
                  refine wpAnyH_ready (rs := [10]) (by kernel_rfl) (by simp) ?_
                  refine AllReadyH.cons rfl (fun K hK => ?_) AllReadyH.nil
                  refine Tr.wanted_plain rfl ?_
                  refine store_mid0 rfl 46 _ _ rfl (wA.heap.size) 0 #[.int .i64 kb.X, .int .i64 kb.Y, .int .i64 kb.W, .int .i64 kb.H, .bool kb.M, .int .i64 kb.G, .int .i64 kb.B, .bool kb.S, .slice kb.A kb.n kb.c] (by rfl) (by rfl) (by have h := there_blk K22.out; exact h) Tryz.sizeBx (by simp [Value.oneCell']) ?_
                  have xK := blk_puts9 (.int .i64 kb.X) (.int .i64 kb.Y) (.int .i64 kb.W) (.int .i64 kb.H) (.bool kb.M) (.int .i64 kb.G) (.int .i64 kb.B) (.bool kb.S) (.slice kb.A kb.n kb.c) K22.out
                  have xB := bsets HBW.out HL22.out (#[.int .i64 kb.X, .int .i64 kb.Y, .int .i64 kb.W, .int .i64 kb.H, .bool kb.M, .int .i64 kb.G, .int .i64 kb.B, .bool kb.S, .slice kb.A kb.n kb.c] : Array Value).toList 0
                  obtain ⟨wS, hwS⟩ : ∃ wS, World.setCells (wA.alloc (.cells #[.int .i64 0, .int .i64 0, .int .i64 0, .int .i64 0, .bool false, .int .i64 0, .int .i64 0, .bool false, .slice none 0 0] 46)) (wA.heap.size) 0 (#[.int .i64 kb.X, .int .i64 kb.Y, .int .i64 kb.W, .int .i64 kb.H, .bool kb.M, .int .i64 kb.G, .int .i64 kb.B, .bool kb.S, .slice kb.A kb.n kb.c] : Array Value).toList = wS := ⟨_, rfl⟩
                  rw [hwS] at xK xB ⊢
                  replace HBW := Lib.hid xB
                  replace K22 := Lib.hid xK
                  clear xB xK hwS
                  refine hK.out _ _ ?_ (fun hHeld => ?_)
                  · (try dsimp only)
                    exact ⟨(K3.out.belowS HBW.out).cellV (i := 0) rfl, (HBW.out.cell (p := ⟨b, off + j, none⟩) HBOB.out).trans HC0.out⟩
                  clear hK K
                  refine Tr.take_at 11 12 (.bool sk) rfl rfl (by kernel_rfl) (by kernel_rfl) (by kernel_rfl) (fun _ _ _ h => h) (Or.inl ⟨by rfl, ?_⟩) (by assumption) ?_
                  · intro W0 hSw
                    (try dsimp only at hSw)
                    go_simp
                  simp only [List.set_cons_zero, List.set_cons_succ]
                  refine wpAnyH_done (by kernel_rfl) ?_ _
                  refine NoPanic.normal ?_
                  go_wp2_with fail
                  go_meet
                  exact ⟨_, rfl, rfl, HBW.out⟩
                ·
                  go_simp
                  have K22 := Lib.hid (show Blk (wr.drew.alloc (.cells #[.int .i64 0, .int .i64 0, .int .i64 0, .int .i64 0, .bool false, .int .i64 0, .int .i64 0, .bool false, .slice none 0 0] 46)) (wr.heap.size) 46 #[.int .i64 0, .int .i64 0, .int .i64 0, .int .i64 0, .bool false, .int .i64 0, .int .i64 0, .bool false, .slice none 0 0] from Blk.new wr.drew 46 #[.int .i64 0, .int .i64 0, .int .i64 0, .int .i64 0, .bool false, .int .i64 0, .int .i64 0, .bool false, .slice none 0 0])
                  have HL22 := Lib.hid (show wr.heap.size ≤ wr.heap.size from HBW.out.size)
                  replace HBW := Lib.hid (bal HBW.out (.cells #[.int .i64 0, .int .i64 0, .int .i64 0, .int .i64 0, .bool false, .int .i64 0, .int .i64 0, .bool false, .slice none 0 0] 46))
                  refine hK.out _ _ ?_ (fun hHeld => ?_)
                  · (try dsimp only)
                    exact ⟨(K3.out.belowS HBW.out).cellV (i := 0) rfl, (HBW.out.cell (p := ⟨b, off + j, none⟩) HBOB.out).trans HC0.out⟩
                  clear hK K
                  refine wpAnyH_ready (rs := [5]) (by kernel_rfl) (by simp) ?_
                  refine AllReadyH.cons rfl (fun K hK => ?_) AllReadyH.nil
                  go_simp
                  refine (box_any (.agg #[.map mb]) np bs x _ hxb (HP.out.below HBW.out)).mono ?_
                  rintro e wA ⟨rfl, hbA⟩
                  rw [HKB.out, HSK.out]
                  unfold BX.v
                  replace HBW := Lib.hid (bstep HBW.out hbA)
                  replace K22 := Lib.hid (K22.out.belowS hbA)
                  clear hbA
                  go_simp
                  refine hK.out _ _ ?_ (fun hHeld => ?_)
                  · (try dsimp only)
                    exact ⟨(K3.out.belowS HBW.out).cellV (i := 0) rfl, (HBW.out.cell (p := ⟨b, off + j, none⟩) HBOB.out).trans HC0.out⟩
                  clear hK K
                  refine Tr.take_at 6 46 (.tuple #[.agg #[.int .i64 kb.X, .int .i64 kb.Y, .int .i64 kb.W, .int .i64 kb.H, .bool kb.M, .int .i64 kb.G, .int .i64 kb.B, .bool kb.S, .slice kb.A kb.n kb.c], .bool sk]) rfl rfl (by kernel_rfl) (by kernel_rfl) (by kernel_rfl) (fun _ _ _ h => h) (Or.inl ⟨by rfl, ?_⟩) (by assumption) ?_
                  · intro W0 hSw
                    (try dsimp only at hSw)
                    go_simp
                  simp only [List.set_cons_zero, List.set_cons_succ]
                  refine Tr.take_at 7 53 (.agg #[.int .i64 kb.X, .int .i64 kb.Y, .int .i64 kb.W, .int .i64 kb.H, .bool kb.M, .int .i64 kb.G, .int .i64 kb.B, .bool kb.S, .slice kb.A kb.n kb.c]) rfl rfl (by kernel_rfl) (by kernel_rfl) (by kernel_rfl) (fun _ _ _ h => h) (Or.inl ⟨by rfl, ?_⟩) (by assumption) ?_
                  · intro W0 hSw
                    (try dsimp only at hSw)
                    go_simp
                  simp only [List.set_cons_zero, List.set_cons_succ]
                  refine Tr.take_at 8 54 (.bool sk) rfl rfl (by kernel_rfl) (by kernel_rfl) (by kernel_rfl) (fun _ _ _ h => h) (Or.inl ⟨by rfl, ?_⟩) (by assumption) ?_
                  · intro W0 hSw
                    (try dsimp only at hSw)
                    go_simp
                  simp only [List.set_cons_zero, List.set_cons_succ]
                  refine wpAnyH_ready (rs := [10]) (by kernel_rfl) (by simp) ?_
                  refine AllReadyH.cons rfl (fun K hK => ?_) AllReadyH.nil
                  refine Tr.wanted_plain rfl ?_
                  refine store_mid0 rfl 46 _ _ rfl (wr.heap.size) 0 #[.int .i64 kb.X, .int .i64 kb.Y, .int .i64 kb.W, .int .i64 kb.H, .bool kb.M, .int .i64 kb.G, .int .i64 kb.B, .bool kb.S, .slice kb.A kb.n kb.c] (by rfl) (by rfl) (by have h := there_blk K22.out; exact h) Tryz.sizeBx (by simp [Value.oneCell']) ?_
                  have xK := blk_puts9 (.int .i64 kb.X) (.int .i64 kb.Y) (.int .i64 kb.W) (.int .i64 kb.H) (.bool kb.M) (.int .i64 kb.G) (.int .i64 kb.B) (.bool kb.S) (.slice kb.A kb.n kb.c) K22.out
                  have xB := bsets HBW.out HL22.out (#[.int .i64 kb.X, .int .i64 kb.Y, .int .i64 kb.W, .int .i64 kb.H, .bool kb.M, .int .i64 kb.G, .int .i64 kb.B, .bool kb.S, .slice kb.A kb.n kb.c] : Array Value).toList 0
                  obtain ⟨wS, hwS⟩ : ∃ wS, World.setCells (wA) (wr.heap.size) 0 (#[.int .i64 kb.X, .int .i64 kb.Y, .int .i64 kb.W, .int .i64 kb.H, .bool kb.M, .int .i64 kb.G, .int .i64 kb.B, .bool kb.S, .slice kb.A kb.n kb.c] : Array Value).toList = wS := ⟨_, rfl⟩
                  rw [hwS] at xK xB ⊢
                  replace HBW := Lib.hid xB
                  replace K22 := Lib.hid xK
                  clear xB xK hwS
                  refine hK.out _ _ ?_ (fun hHeld => ?_)
                  · (try dsimp only)
                    exact ⟨(K3.out.belowS HBW.out).cellV (i := 0) rfl, (HBW.out.cell (p := ⟨b, off + j, none⟩) HBOB.out).trans HC0.out⟩
                  clear hK K
                  refine Tr.take_at 11 12 (.bool sk) rfl rfl (by kernel_rfl) (by kernel_rfl) (by kernel_rfl) (fun _ _ _ h => h) (Or.inl ⟨by rfl, ?_⟩) (by assumption) ?_
                  · intro W0 hSw
                    (try dsimp only at hSw)
                    go_simp
                  simp only [List.set_cons_zero, List.set_cons_succ]
                  refine wpAnyH_done (by kernel_rfl) ?_ _
                  refine NoPanic.normal ?_
                  go_wp2_with fail
                  go_meet
                  exact ⟨_, rfl, rfl, HBW.out⟩
              case rest =>
                obtain ⟨g11, rfl, rfl, hb11⟩ := hcut
                have HBC := Lib.hid (bstep HB.out hb11)
                have HLC := Lib.hid (HL.out.below hb11)
                have c2 := (hb11.cell (p := ⟨b, off + j, none⟩) HBOB.out).trans HC0.out
                clear hb11 HBW c0
                go_wp2_with fail
                refine (dfind_any A k c l x _ (by omega) HLC.out).mono ?_
                rintro e w5 ⟨rfl, hb5⟩
                have HB5 := Lib.hid (bstep HBC.out hb5)
                clear hb5 c2
                obtain ⟨fd, hfd⟩ : ∃ fd, findD l x 0 = fd := ⟨_, rfl⟩
                rw [hfd]
                rcases HR.out.find x with ⟨h1, h2⟩ | ⟨h1, h2⟩
                · rw [HSK.out] at h2
                  rw [hfd] at h1
                  have d1 : ¬ 0 ≤ fd := by omega
                  subst h2
                  clear hfd h1
                  go_wp2_with fail
                  go_roundw
                  case rel => exact ⟨j + 1, by go_num, by omega, HB5.out⟩
                  case measure => simp [intOf]; omega
                · rw [HSK.out] at h2
                  rw [hfd] at h1
                  subst h2
                  clear hfd
                  go_wp2_with fail
                  go_roundw
                  case rel => exact ⟨j + 1, by go_num, by omega, HB5.out⟩
                  case measure => simp [intOf]; omega
          · obtain rfl : j = m := by omega
            have k1 : ¬ (j : Int) < (j : Int) := by omega
            go_wp2_with fail
            go_ret
            exact ⟨rfl, bstep HBZ.out HB.out⟩

end Go.Proofs.YtbfefkhejknmoaaGreatDoor
