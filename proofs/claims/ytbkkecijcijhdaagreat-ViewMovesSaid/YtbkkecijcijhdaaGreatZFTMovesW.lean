/-
  The walk of the law ViewMoves.
-/
import Derived.Test.YtbkkecijcijhdaaGreatZFTOutW
import Derived.Test.YtbkkecijcijhdaaGreatZFTMoveM
import Derived.Test.YtbkkecijcijhdaaGreatZFTSameR
import Derived.Test.YtbkkecijcijhdaaGreatZF29
section
namespace Go.Proofs.YtbkkecijcijhdaaGreat
open Go.RowKit Go.Maps Go.Shelf

set_option maxRecDepth 100000 in
theorem Tryz.sizeVx : (Tryz.prog.info? 43).map (·.size) = some 2 := by kernel_rfl
theorem viewX_no (A : Option Addr) (n c : Nat) (m : Option Nat) : ∀ (j : Nat) (k : IntKind) (x : Int), (#[.slice A n c, .map m] : Array Value)[j]? ≠ some (.int k x) := fun j k x => by
  match j with
  | 0 => simp
  | 1 => simp
  | j + 2 => simp
theorem blkX_noI {w : World} {g : Nat} {t : TypeId} {cs : Array Value} (h : Blk w g t cs) (hn : ∀ (j : Nat) (k : IntKind) (x : Int), cs[j]? ≠ some (.int k x)) : NoInt w g := fun o k i e => by
  rw [h.cell] at e
  exact hn o k i e
theorem own_blkN {w : World} {B n e s : Nat} {v : Value} {xs : List Value} (h : w.ownsRow B e s v n xs) (hn : 0 < n) : ∃ g c rest, v = .slice (some ⟨g, 0, none⟩) n c ∧ B ≤ g ∧ Blk w g e (xs ++ rest).toArray := by
  rcases h.2 with ⟨_, h0⟩ | ⟨g, cap, cur, e1, hb, hg, h1, h2, h3, h4⟩
  · omega
  · refine ⟨g, cap, cur.toList.drop (n * s), e1, hb, ?_⟩
    rw [← h4, List.take_append_drop]
    exact hg
theorem RdF.of_blkR {α : Type} {f : α → List Value} {m : Nat} (hm : ∀ x, (f x).length = m) {w : World} {g : Nat} {t : TypeId} {l : List α} {rest : List Value} {n : Nat} (h : Blk w g t (l.flatMap f ++ rest).toArray) (hl : l.length = n) : RdF f m w (some ⟨g, 0, none⟩) n l := by
  refine ⟨hl, fun hn => ⟨g, 0, rfl, h.lt, fun k x hk i u hu => ?_⟩⟩
  have hi : i < m := by have := (List.getElem?_eq_some_iff.1 hu).1; rwa [hm] at this
  have hg := flat_get f m hm l k x i hk hi
  rw [hu] at hg
  rw [Nat.zero_add]
  have hlt := (List.getElem?_eq_some_iff.1 hg).1
  exact h.cellV (by rw [List.getElem?_toArray, List.getElem?_append_left hlt]; exact hg)
theorem blk_newsR {w : World} {g : Nat} {t : TypeId} {cs : List Value} (h : Blk w g t cs.toArray) : ∀ j u, cs[j]? = some u → w.cell? ((⟨g, 0, none⟩ : Addr).add j) = some u := by
  intro j u hj
  have h1 := h.cellV (i := j) (v := u) (by simpa using hj)
  unfold Addr.add
  split
  · rename_i e; rw [e] at h1; exact h1
  · rw [Nat.zero_add]; exact h1
set_option maxRecDepth 100000 in
theorem Tryz.infoPn : (Tryz.prog.info? 67).map (fun i => (i.zero, i.size, i.bytes)) = some (some (.agg #[.int .u8 0, .int .i8 0, .int .i8 0, .int .i8 0, .int .i8 0, .int .u8 0, .int .u8 0, .int .u8 0, .int .u8 0, .int .u8 0, .int .u8 0, .int .u8 0, .int .u8 0, .int .u8 0]), 14, 14) := by kernel_rfl
set_option maxRecDepth 100000 in
set_option maxHeartbeats 8000000 in
theorem viewMoves_any (q0 q1 q2 q3 q4 q5 : Int) (p : PN) (w : World) (hq : (0 ≤ q0 ∧ 0 ≤ q1) ∧ (0 ≤ q2 ∧ 0 ≤ q3) ∧ 0 ≤ q4 ∧ 0 ≤ q5) (hq2 : (q0 ≤ 255 ∧ q1 ≤ 255) ∧ (q2 ≤ 255 ∧ q3 ≤ 255) ∧ q4 ≤ 255 ∧ q5 ≤ 255) (hp : p.ok) :
    Calls Tryz.prog 4 #[.agg #[.int .u8 q0, .int .u8 q1, .int .u8 q2, .int .u8 q3, .int .u8 q4, .int .u8 q5], .agg #[.int .u8 p.U, .int .i8 p.X, .int .i8 p.Y, .int .i8 p.W, .int .i8 p.H, .int .u8 p.F, .int .u8 p.s0, .int .u8 p.s1, .int .u8 p.s2, .int .u8 p.s3, .int .u8 p.s4, .int .u8 p.s5, .int .u8 p.s6, .int .u8 p.s7]] w fun e w' => e = .returned (.bool true) ∧ Below w.heap.size w w' := by
  obtain ⟨i0, hi0, hz0, hz1, hz2⟩ := info_parts Tryz.infoW
  obtain ⟨j0, hj0, hy0, hy1, hy2⟩ := info_parts Tryz.infoPn
  have HPO := Lib.hid hp
  clear hp
  go_enter Tryz.func4, Tryz.ntmps4
  go_upto_region 1 with fail
  have xB := bal (bal (bre w) (.cells #[.int .u8 q0, .int .u8 q1, .int .u8 q2, .int .u8 q3, .int .u8 q4, .int .u8 q5] 62)) (.cells #[.int .u8 p.U, .int .i8 p.X, .int .i8 p.Y, .int .i8 p.W, .int .i8 p.H, .int .u8 p.F, .int .u8 p.s0, .int .u8 p.s1, .int .u8 p.s2, .int .u8 p.s3, .int .u8 p.s4, .int .u8 p.s5, .int .u8 p.s6, .int .u8 p.s7] 67)
  have xK2 := (Blk.new w 62 #[.int .u8 q0, .int .u8 q1, .int .u8 q2, .int .u8 q3, .int .u8 q4, .int .u8 q5]).alloc (.cells #[.int .u8 p.U, .int .i8 p.X, .int .i8 p.Y, .int .i8 p.W, .int .i8 p.H, .int .u8 p.F, .int .u8 p.s0, .int .u8 p.s1, .int .u8 p.s2, .int .u8 p.s3, .int .u8 p.s4, .int .u8 p.s5, .int .u8 p.s6, .int .u8 p.s7] 67)
  have xK3 := blk_new2 w (.cells #[.int .u8 q0, .int .u8 q1, .int .u8 q2, .int .u8 q3, .int .u8 q4, .int .u8 q5] 62) 67 #[.int .u8 p.U, .int .i8 p.X, .int .i8 p.Y, .int .i8 p.W, .int .i8 p.H, .int .u8 p.F, .int .u8 p.s0, .int .u8 p.s1, .int .u8 p.s2, .int .u8 p.s3, .int .u8 p.s4, .int .u8 p.s5, .int .u8 p.s6, .int .u8 p.s7]
  obtain ⟨X0, hX0⟩ : ∃ X0, (w.alloc (.cells #[.int .u8 q0, .int .u8 q1, .int .u8 q2, .int .u8 q3, .int .u8 q4, .int .u8 q5] 62)).alloc (.cells #[.int .u8 p.U, .int .i8 p.X, .int .i8 p.Y, .int .i8 p.W, .int .i8 p.H, .int .u8 p.F, .int .u8 p.s0, .int .u8 p.s1, .int .u8 p.s2, .int .u8 p.s3, .int .u8 p.s4, .int .u8 p.s5, .int .u8 p.s6, .int .u8 p.s7] 67) = X0 := ⟨_, rfl⟩
  rw [hX0] at xB xK2 xK3 ⊢
  have HB := Lib.hid xB
  have K2 := Lib.hid xK2
  have K3 := Lib.hid xK3
  clear xB xK2 xK3 hX0
  obtain ⟨a0, ha0⟩ : ∃ x, q0 % 5 = x := ⟨_, rfl⟩
  obtain ⟨a1, ha1⟩ : ∃ x, q1 % 5 = x := ⟨_, rfl⟩
  obtain ⟨a2, ha2⟩ : ∃ x, q2 % 8 = x := ⟨_, rfl⟩
  obtain ⟨a3, ha3⟩ : ∃ x, q3 % 8 = x := ⟨_, rfl⟩
  obtain ⟨a4, ha4⟩ : ∃ x, q4 % 8 = x := ⟨_, rfl⟩
  obtain ⟨a5, ha5⟩ : ∃ x, q5 % 8 = x := ⟨_, rfl⟩
  have hab : ((0 ≤ a0 ∧ a0 ≤ 4) ∧ 0 ≤ a1 ∧ a1 ≤ 4) ∧ ((0 ≤ a2 ∧ a2 ≤ 7) ∧ 0 ≤ a3 ∧ a3 ≤ 7) ∧ (0 ≤ a4 ∧ a4 ≤ 7) ∧ 0 ≤ a5 ∧ a5 ≤ 7 := by omega
  have t0 : q0.tmod 5 = a0 := by rw [Int.tmod_eq_emod_of_nonneg (by omega)]; exact ha0
  have w0 : IntKind.i64.wrap a0 = a0 := IntWalk.i64_in _ (by omega)
  have t1 : q1.tmod 5 = a1 := by rw [Int.tmod_eq_emod_of_nonneg (by omega)]; exact ha1
  have w1 : IntKind.i64.wrap a1 = a1 := IntWalk.i64_in _ (by omega)
  have t2 : q2.tmod 8 = a2 := by rw [Int.tmod_eq_emod_of_nonneg (by omega)]; exact ha2
  have w2 : IntKind.i64.wrap a2 = a2 := IntWalk.i64_in _ (by omega)
  have t3 : q3.tmod 8 = a3 := by rw [Int.tmod_eq_emod_of_nonneg (by omega)]; exact ha3
  have w3 : IntKind.i64.wrap a3 = a3 := IntWalk.i64_in _ (by omega)
  have t4 : q4.tmod 8 = a4 := by rw [Int.tmod_eq_emod_of_nonneg (by omega)]; exact ha4
  have w4 : IntKind.i64.wrap a4 = a4 := IntWalk.i64_in _ (by omega)
  have t5 : q5.tmod 8 = a5 := by rw [Int.tmod_eq_emod_of_nonneg (by omega)]; exact ha5
  have w5 : IntKind.i64.wrap a5 = a5 := IntWalk.i64_in _ (by omega)
  have v0 : IntKind.i64.wrap (1 + a0) = 1 + a0 := IntWalk.i64_in _ (by omega)
  have v1 : IntKind.i64.wrap (1 + a1) = 1 + a1 := IntWalk.i64_in _ (by omega)
  have HAB := Lib.hid hab
  clear ha0 ha1 ha2 ha3 ha4 ha5 hq hq2
  go_cut [5, 6] from 126 (fun s5 s6 wx => s5 = .int .i64 (1 + a0) ∧ s6 = .int .i64 (1 + a1) ∧ Below X0.heap.size X0 wx)
  case first =>
    as_aux_lemma =>
      have HBW := Lib.hid (show Below X0.heap.size X0 X0.drew from (bre X0).drew)
      refine wp_region_noPanic ?_
      refine wp_region_held_drew (S := (fun w' => w'.cell? ⟨w.heap.size, 0, none⟩ = some (.int .u8 q0) ∧ w'.cell? ⟨w.heap.size, 1, none⟩ = some (.int .u8 q1))) (by kernel_rfl) ?_ (fun hHeld => ?_)
      · (try dsimp only)
        exact ⟨(K2.out.belowS HBW.out).cellV (i := 0) rfl, (K2.out.belowS HBW.out).cellV (i := 1) rfl⟩
      refine Tr.take_at 0 22 (.pointer (some ⟨w.heap.size, 0, none⟩)) rfl rfl (by kernel_rfl) (by kernel_rfl) (by kernel_rfl) (fun _ _ _ h => h) (Or.inl ⟨by rfl, ?_⟩) (by assumption) ?_
      · intro W0 hSw
        (try dsimp only at hSw)
        go_simp
      simp only [List.set_cons_zero, List.set_cons_succ]
      refine Tr.take_at 1 23 (.int .u8 q0) rfl rfl (by kernel_rfl) (by kernel_rfl) (by kernel_rfl) (fun _ _ _ h => h) (Or.inl ⟨by rfl, ?_⟩) (by assumption) ?_
      · intro W0 hSw
        (try dsimp only at hSw)
        go_simp
      simp only [List.set_cons_zero, List.set_cons_succ]
      refine Tr.take_at 2 24 (.int .u8 a0) rfl rfl (by kernel_rfl) (by kernel_rfl) (by kernel_rfl) (fun _ _ _ h => h) (Or.inl ⟨by rfl, ?_⟩) (by assumption) ?_
      · intro W0 hSw
        (try dsimp only at hSw)
        go_simp
      simp only [List.set_cons_zero, List.set_cons_succ]
      refine Tr.take_at 3 25 (.int .i64 a0) rfl rfl (by kernel_rfl) (by kernel_rfl) (by kernel_rfl) (fun _ _ _ h => h) (Or.inl ⟨by rfl, ?_⟩) (by assumption) ?_
      · intro W0 hSw
        (try dsimp only at hSw)
        go_simp
      simp only [List.set_cons_zero, List.set_cons_succ]
      refine Tr.take_at 4 26 (.int .i64 (1 + a0)) rfl rfl (by kernel_rfl) (by kernel_rfl) (by kernel_rfl) (fun _ _ _ h => h) (Or.inl ⟨by rfl, ?_⟩) (by assumption) ?_
      · intro W0 hSw
        (try dsimp only at hSw)
        go_simp
      simp only [List.set_cons_zero, List.set_cons_succ]
      refine Tr.take_at 5 27 (.pointer (some ⟨w.heap.size, 1, none⟩)) rfl rfl (by kernel_rfl) (by kernel_rfl) (by kernel_rfl) (fun _ _ _ h => h) (Or.inl ⟨by rfl, ?_⟩) (by assumption) ?_
      · intro W0 hSw
        (try dsimp only at hSw)
        go_simp
      simp only [List.set_cons_zero, List.set_cons_succ]
      refine Tr.take_at 6 28 (.int .u8 q1) rfl rfl (by kernel_rfl) (by kernel_rfl) (by kernel_rfl) (fun _ _ _ h => h) (Or.inl ⟨by rfl, ?_⟩) (by assumption) ?_
      · intro W0 hSw
        (try dsimp only at hSw)
        go_simp
      simp only [List.set_cons_zero, List.set_cons_succ]
      refine Tr.take_at 7 29 (.int .u8 a1) rfl rfl (by kernel_rfl) (by kernel_rfl) (by kernel_rfl) (fun _ _ _ h => h) (Or.inl ⟨by rfl, ?_⟩) (by assumption) ?_
      · intro W0 hSw
        (try dsimp only at hSw)
        go_simp
      simp only [List.set_cons_zero, List.set_cons_succ]
      refine Tr.take_at 8 30 (.int .i64 a1) rfl rfl (by kernel_rfl) (by kernel_rfl) (by kernel_rfl) (fun _ _ _ h => h) (Or.inl ⟨by rfl, ?_⟩) (by assumption) ?_
      · intro W0 hSw
        (try dsimp only at hSw)
        go_simp
      simp only [List.set_cons_zero, List.set_cons_succ]
      refine Tr.take_at 9 31 (.int .i64 (1 + a1)) rfl rfl (by kernel_rfl) (by kernel_rfl) (by kernel_rfl) (fun _ _ _ h => h) (Or.inl ⟨by rfl, ?_⟩) (by assumption) ?_
      · intro W0 hSw
        (try dsimp only at hSw)
        go_simp
      simp only [List.set_cons_zero, List.set_cons_succ]
      refine Tr.take_at 10 5 (.int .i64 (1 + a0)) rfl rfl (by kernel_rfl) (by kernel_rfl) (by kernel_rfl) (fun _ _ _ h => h) (Or.inl ⟨by rfl, ?_⟩) (by assumption) ?_
      · intro W0 hSw
        (try dsimp only at hSw)
        go_simp
      simp only [List.set_cons_zero, List.set_cons_succ]
      refine Tr.take_at 11 6 (.int .i64 (1 + a1)) rfl rfl (by kernel_rfl) (by kernel_rfl) (by kernel_rfl) (fun _ _ _ h => h) (Or.inl ⟨by rfl, ?_⟩) (by assumption) ?_
      · intro W0 hSw
        (try dsimp only at hSw)
        go_simp
      simp only [List.set_cons_zero, List.set_cons_succ]
      refine wpAnyH_done (by kernel_rfl) ?_ _
      refine NoPanic.normal ?_
      go_wp2_with fail
      go_meet
      exact ⟨rfl, rfl, HBW.out⟩
  obtain ⟨rfl, rfl, hbc⟩ := hcut
  replace HB := Lib.hid (bstep HB.out hbc)
  replace K2 := Lib.hid (K2.out.belowS hbc)
  replace K3 := Lib.hid (K3.out.belowS hbc)
  clear hbc
  obtain ⟨X1, hX1⟩ : ∃ X1, X1 = wc := ⟨_, rfl⟩
  subst hX1
  go_upto_region 2 with fail
  go_cut [7, 8, 9, 10] from 126 (fun s7 s8 s9 s10 wx => s7 = .int .i64 a2 ∧ s8 = .int .i64 a3 ∧ s9 = .int .i64 a4 ∧ s10 = .int .i64 a5 ∧ Below X1.heap.size X1 wx)
  case first =>
    as_aux_lemma =>
      have HBW := Lib.hid (show Below X1.heap.size X1 X1.drew from (bre X1).drew)
      refine wp_region_noPanic ?_
      refine wp_region_held_drew (S := (fun w' => w'.cell? ⟨w.heap.size, 2, none⟩ = some (.int .u8 q2) ∧ w'.cell? ⟨w.heap.size, 3, none⟩ = some (.int .u8 q3) ∧ w'.cell? ⟨w.heap.size, 4, none⟩ = some (.int .u8 q4) ∧ w'.cell? ⟨w.heap.size, 5, none⟩ = some (.int .u8 q5))) (by kernel_rfl) ?_ (fun hHeld => ?_)
      · (try dsimp only)
        exact ⟨(K2.out.belowS HBW.out).cellV (i := 2) rfl, (K2.out.belowS HBW.out).cellV (i := 3) rfl, (K2.out.belowS HBW.out).cellV (i := 4) rfl, (K2.out.belowS HBW.out).cellV (i := 5) rfl⟩
      refine Tr.take_at 0 32 (.pointer (some ⟨w.heap.size, 2, none⟩)) rfl rfl (by kernel_rfl) (by kernel_rfl) (by kernel_rfl) (fun _ _ _ h => h) (Or.inl ⟨by rfl, ?_⟩) (by assumption) ?_
      · intro W0 hSw
        (try dsimp only at hSw)
        go_simp
      simp only [List.set_cons_zero, List.set_cons_succ]
      refine Tr.take_at 1 33 (.int .u8 q2) rfl rfl (by kernel_rfl) (by kernel_rfl) (by kernel_rfl) (fun _ _ _ h => h) (Or.inl ⟨by rfl, ?_⟩) (by assumption) ?_
      · intro W0 hSw
        (try dsimp only at hSw)
        go_simp
      simp only [List.set_cons_zero, List.set_cons_succ]
      refine Tr.take_at 2 34 (.int .u8 a2) rfl rfl (by kernel_rfl) (by kernel_rfl) (by kernel_rfl) (fun _ _ _ h => h) (Or.inl ⟨by rfl, ?_⟩) (by assumption) ?_
      · intro W0 hSw
        (try dsimp only at hSw)
        go_simp
      simp only [List.set_cons_zero, List.set_cons_succ]
      refine Tr.take_at 3 35 (.int .i64 a2) rfl rfl (by kernel_rfl) (by kernel_rfl) (by kernel_rfl) (fun _ _ _ h => h) (Or.inl ⟨by rfl, ?_⟩) (by assumption) ?_
      · intro W0 hSw
        (try dsimp only at hSw)
        go_simp
      simp only [List.set_cons_zero, List.set_cons_succ]
      refine Tr.take_at 4 36 (.pointer (some ⟨w.heap.size, 3, none⟩)) rfl rfl (by kernel_rfl) (by kernel_rfl) (by kernel_rfl) (fun _ _ _ h => h) (Or.inl ⟨by rfl, ?_⟩) (by assumption) ?_
      · intro W0 hSw
        (try dsimp only at hSw)
        go_simp
      simp only [List.set_cons_zero, List.set_cons_succ]
      refine Tr.take_at 5 37 (.int .u8 q3) rfl rfl (by kernel_rfl) (by kernel_rfl) (by kernel_rfl) (fun _ _ _ h => h) (Or.inl ⟨by rfl, ?_⟩) (by assumption) ?_
      · intro W0 hSw
        (try dsimp only at hSw)
        go_simp
      simp only [List.set_cons_zero, List.set_cons_succ]
      refine Tr.take_at 6 38 (.int .u8 a3) rfl rfl (by kernel_rfl) (by kernel_rfl) (by kernel_rfl) (fun _ _ _ h => h) (Or.inl ⟨by rfl, ?_⟩) (by assumption) ?_
      · intro W0 hSw
        (try dsimp only at hSw)
        go_simp
      simp only [List.set_cons_zero, List.set_cons_succ]
      refine Tr.take_at 7 39 (.int .i64 a3) rfl rfl (by kernel_rfl) (by kernel_rfl) (by kernel_rfl) (fun _ _ _ h => h) (Or.inl ⟨by rfl, ?_⟩) (by assumption) ?_
      · intro W0 hSw
        (try dsimp only at hSw)
        go_simp
      simp only [List.set_cons_zero, List.set_cons_succ]
      refine Tr.take_at 8 40 (.pointer (some ⟨w.heap.size, 4, none⟩)) rfl rfl (by kernel_rfl) (by kernel_rfl) (by kernel_rfl) (fun _ _ _ h => h) (Or.inl ⟨by rfl, ?_⟩) (by assumption) ?_
      · intro W0 hSw
        (try dsimp only at hSw)
        go_simp
      simp only [List.set_cons_zero, List.set_cons_succ]
      refine Tr.take_at 9 41 (.int .u8 q4) rfl rfl (by kernel_rfl) (by kernel_rfl) (by kernel_rfl) (fun _ _ _ h => h) (Or.inl ⟨by rfl, ?_⟩) (by assumption) ?_
      · intro W0 hSw
        (try dsimp only at hSw)
        go_simp
      simp only [List.set_cons_zero, List.set_cons_succ]
      refine Tr.take_at 10 42 (.int .u8 a4) rfl rfl (by kernel_rfl) (by kernel_rfl) (by kernel_rfl) (fun _ _ _ h => h) (Or.inl ⟨by rfl, ?_⟩) (by assumption) ?_
      · intro W0 hSw
        (try dsimp only at hSw)
        go_simp
      simp only [List.set_cons_zero, List.set_cons_succ]
      refine Tr.take_at 11 43 (.int .i64 a4) rfl rfl (by kernel_rfl) (by kernel_rfl) (by kernel_rfl) (fun _ _ _ h => h) (Or.inl ⟨by rfl, ?_⟩) (by assumption) ?_
      · intro W0 hSw
        (try dsimp only at hSw)
        go_simp
      simp only [List.set_cons_zero, List.set_cons_succ]
      refine Tr.take_at 12 44 (.pointer (some ⟨w.heap.size, 5, none⟩)) rfl rfl (by kernel_rfl) (by kernel_rfl) (by kernel_rfl) (fun _ _ _ h => h) (Or.inl ⟨by rfl, ?_⟩) (by assumption) ?_
      · intro W0 hSw
        (try dsimp only at hSw)
        go_simp
      simp only [List.set_cons_zero, List.set_cons_succ]
      refine Tr.take_at 13 45 (.int .u8 q5) rfl rfl (by kernel_rfl) (by kernel_rfl) (by kernel_rfl) (fun _ _ _ h => h) (Or.inl ⟨by rfl, ?_⟩) (by assumption) ?_
      · intro W0 hSw
        (try dsimp only at hSw)
        go_simp
      simp only [List.set_cons_zero, List.set_cons_succ]
      refine Tr.take_at 14 46 (.int .u8 a5) rfl rfl (by kernel_rfl) (by kernel_rfl) (by kernel_rfl) (fun _ _ _ h => h) (Or.inl ⟨by rfl, ?_⟩) (by assumption) ?_
      · intro W0 hSw
        (try dsimp only at hSw)
        go_simp
      simp only [List.set_cons_zero, List.set_cons_succ]
      refine Tr.take_at 15 47 (.int .i64 a5) rfl rfl (by kernel_rfl) (by kernel_rfl) (by kernel_rfl) (fun _ _ _ h => h) (Or.inl ⟨by rfl, ?_⟩) (by assumption) ?_
      · intro W0 hSw
        (try dsimp only at hSw)
        go_simp
      simp only [List.set_cons_zero, List.set_cons_succ]
      refine Tr.take_at 16 7 (.int .i64 a2) rfl rfl (by kernel_rfl) (by kernel_rfl) (by kernel_rfl) (fun _ _ _ h => h) (Or.inl ⟨by rfl, ?_⟩) (by assumption) ?_
      · intro W0 hSw
        (try dsimp only at hSw)
        go_simp
      simp only [List.set_cons_zero, List.set_cons_succ]
      refine Tr.take_at 17 8 (.int .i64 a3) rfl rfl (by kernel_rfl) (by kernel_rfl) (by kernel_rfl) (fun _ _ _ h => h) (Or.inl ⟨by rfl, ?_⟩) (by assumption) ?_
      · intro W0 hSw
        (try dsimp only at hSw)
        go_simp
      simp only [List.set_cons_zero, List.set_cons_succ]
      refine Tr.take_at 18 9 (.int .i64 a4) rfl rfl (by kernel_rfl) (by kernel_rfl) (by kernel_rfl) (fun _ _ _ h => h) (Or.inl ⟨by rfl, ?_⟩) (by assumption) ?_
      · intro W0 hSw
        (try dsimp only at hSw)
        go_simp
      simp only [List.set_cons_zero, List.set_cons_succ]
      refine Tr.take_at 19 10 (.int .i64 a5) rfl rfl (by kernel_rfl) (by kernel_rfl) (by kernel_rfl) (fun _ _ _ h => h) (Or.inl ⟨by rfl, ?_⟩) (by assumption) ?_
      · intro W0 hSw
        (try dsimp only at hSw)
        go_simp
      simp only [List.set_cons_zero, List.set_cons_succ]
      refine wpAnyH_done (by kernel_rfl) ?_ _
      refine NoPanic.normal ?_
      go_wp2_with fail
      go_meet
      exact ⟨rfl, rfl, rfl, rfl, HBW.out⟩
  obtain ⟨rfl, rfl, rfl, rfl, hbc⟩ := hcut
  replace HB := Lib.hid (bstep HB.out hbc)
  replace K3 := Lib.hid (K3.out.belowS hbc)
  clear hbc K2 t0 t1 t2 t3 t4 t5 w0 w1 w2 w3 w4 w5 v0 v1 hab
  obtain ⟨X2, hX2⟩ : ∃ X2, X2 = wc := ⟨_, rfl⟩
  subst hX2
  have c0 := K3.out.cellV (i := 0) (v := .int .u8 p.U) rfl
  have c1 := K3.out.cellV (i := 1) (v := .int .i8 p.X) rfl
  have c2 := K3.out.cellV (i := 2) (v := .int .i8 p.Y) rfl
  have c3 := K3.out.cellV (i := 3) (v := .int .i8 p.W) rfl
  have c4 := K3.out.cellV (i := 4) (v := .int .i8 p.H) rfl
  have c5 := K3.out.cellV (i := 5) (v := .int .u8 p.F) rfl
  have c6 := K3.out.cellV (i := 6) (v := .int .u8 p.s0) rfl
  have c7 := K3.out.cellV (i := 7) (v := .int .u8 p.s1) rfl
  have c8 := K3.out.cellV (i := 8) (v := .int .u8 p.s2) rfl
  have c9 := K3.out.cellV (i := 9) (v := .int .u8 p.s3) rfl
  have c10 := K3.out.cellV (i := 10) (v := .int .u8 p.s4) rfl
  have c11 := K3.out.cellV (i := 11) (v := .int .u8 p.s5) rfl
  have c12 := K3.out.cellV (i := 12) (v := .int .u8 p.s6) rfl
  have c13 := K3.out.cellV (i := 13) (v := .int .u8 p.s7) rfl
  go_upto_region 3 with fail
  apply wp_region_lit
  iterate 12 (first | go_step | go_upon)
  refine wpList_bld rfl #[.int .i64 (-1), .int .i64 a2, .int .i64 a3, .int .i64 (1 + a0), .int .i64 (1 + a1), .bool true, .bool false, .slice none 0 0] (by as_aux_lemma => kernel_rfl) ?_
  iterate 3 (first | go_step | go_upon)
  refine wpList_recs rfl 22 67 1 _ rfl 14 _ j0 Tryz.underlying22 hj0 hy0 hy1 rfl (by decide) (by decide) (by decide) [.agg #[.int .u8 p.U, .int .i8 p.X, .int .i8 p.Y, .int .i8 p.W, .int .i8 p.H, .int .u8 p.F, .int .u8 p.s0, .int .u8 p.s1, .int .u8 p.s2, .int .u8 p.s3, .int .u8 p.s4, .int .u8 p.s5, .int .u8 p.s6, .int .u8 p.s7]] (by simp [Value.cells]) rfl (by as_aux_lemma => kernel_rfl) #[.int .u8 p.U, .int .i8 p.X, .int .i8 p.Y, .int .i8 p.W, .int .i8 p.H, .int .u8 p.F, .int .u8 p.s0, .int .u8 p.s1, .int .u8 p.s2, .int .u8 p.s3, .int .u8 p.s4, .int .u8 p.s5, .int .u8 p.s6, .int .u8 p.s7] rfl ?_
  have xB := bal HB.out (.cells #[.int .u8 p.U, .int .i8 p.X, .int .i8 p.Y, .int .i8 p.W, .int .i8 p.H, .int .u8 p.F, .int .u8 p.s0, .int .u8 p.s1, .int .u8 p.s2, .int .u8 p.s3, .int .u8 p.s4, .int .u8 p.s5, .int .u8 p.s6, .int .u8 p.s7] 67)
  have xK := Blk.new X2 67 #[.int .u8 p.U, .int .i8 p.X, .int .i8 p.Y, .int .i8 p.W, .int .i8 p.H, .int .u8 p.F, .int .u8 p.s0, .int .u8 p.s1, .int .u8 p.s2, .int .u8 p.s3, .int .u8 p.s4, .int .u8 p.s5, .int .u8 p.s6, .int .u8 p.s7]
  obtain ⟨g54, hg54⟩ : ∃ g, X2.heap.size = g := ⟨_, rfl⟩
  obtain ⟨X3, hX3⟩ : ∃ X3, X2.alloc (.cells #[.int .u8 p.U, .int .i8 p.X, .int .i8 p.Y, .int .i8 p.W, .int .i8 p.H, .int .u8 p.F, .int .u8 p.s0, .int .u8 p.s1, .int .u8 p.s2, .int .u8 p.s3, .int .u8 p.s4, .int .u8 p.s5, .int .u8 p.s6, .int .u8 p.s7] 67) = X3 := ⟨_, rfl⟩
  rw [hX3] at xB xK ⊢
  rw [hg54] at xK ⊢
  replace HB := Lib.hid xB
  have HPS := Lib.hid (show RdF PN.cells 14 X3 (some ⟨g54, 0, none⟩) 1 [p] from RdF.of_blk (f := PN.cells) (l := [p]) (n := 1) (m := 14) (fun _ => rfl) xK rfl)
  clear xB xK hX3 hg54 K3 c0 c1 c2 c3 c4 c5 c6 c7 c8 c9 c10 c11 c12 c13
  refine wpList_bld rfl #[.int .u8 0, .int .u8 0, .slice (some ⟨g54, 0, none⟩) 1 1] (by as_aux_lemma => kernel_rfl) ?_
  go_wp2_with fail
  refine (windows31_any 0 0 (some ⟨g54, 0, none⟩) 1 1 [p] _ (by decide) HPS.out (fun q hq => by rw [List.mem_singleton.1 hq]; exact HPO.out)).mono ?_
  rintro e w4 ⟨v, ll, rfl, hl1, hat, hb4⟩
  replace HB := Lib.hid (bstep HB.out hb4)
  clear hb4 HPS
  obtain ⟨d, rfl⟩ := List.length_eq_one_iff.1 hl1
  obtain ⟨A4, c4, rfl, _⟩ := own_form hat.own
  have hdP : d.P = -1 := by have := hat.up 0 d rfl; omega
  have HDK := Lib.hid (hat.ok d (by simp))
  have hrd := hat.reads
  have HSHP := Lib.hid (hrd.shapes d (by simp))
  obtain ⟨b4, o4, rfl, hb4, hc4⟩ := hrd.at_ (by simp)
  obtain ⟨⟨e0, e1, e2, e3⟩, e4, e5, e6, e7⟩ := hc4 0 d rfl
  simp only [Nat.zero_mul, Nat.add_zero] at e0 e1 e2 e3 e4 e5 e6 e7
  have HDP := Lib.hid hdP
  clear hat hl1 hrd hc4 hdP hb4
  obtain ⟨dP, dX, dY, dW, dH, dM, dS, dA, dn, dc, dsh⟩ := d
  dsimp only at e0 e1 e2 e3 e4 e5 e6 e7
  have HDP2 := HDP.out
  dsimp only at HDP2
  subst HDP2
  rw [show [(⟨-1, dX, dY, dW, dH, dM, dS, dA, dn, dc, dsh⟩ : DW)].length = 1 from rfl]
  clear HDP
  go_upto_region 4 with (refine wpList_recs rfl 29 69 2 _ rfl 8 _ i0 Tryz.underlying29 hi0 hz0 hz1 rfl (by decide) (by decide) (by decide) [.agg #[.int .i64 (-1), .int .i64 a2, .int .i64 a3, .int .i64 (1 + a0), .int .i64 (1 + a1), .bool true, .bool false, .slice none 0 0], .agg #[.int .i64 (-1), .int .i64 dX, .int .i64 dY, .int .i64 dW, .int .i64 dH, .bool dM, .bool dS, .slice dA dn dc]] (by simp [Value.cells]) rfl (by as_aux_lemma => kernel_rfl) #[.int .i64 (-1), .int .i64 a2, .int .i64 a3, .int .i64 (1 + a0), .int .i64 (1 + a1), .bool true, .bool false, .slice none 0 0, .int .i64 (-1), .int .i64 dX, .int .i64 dY, .int .i64 dW, .int .i64 dH, .bool dM, .bool dS, .slice dA dn dc] rfl ?_)
  have xB := bal HB.out (.cells #[.int .i64 (-1), .int .i64 a2, .int .i64 a3, .int .i64 (1 + a0), .int .i64 (1 + a1), .bool true, .bool false, .slice none 0 0, .int .i64 (-1), .int .i64 dX, .int .i64 dY, .int .i64 dW, .int .i64 dH, .bool dM, .bool dS, .slice dA dn dc] 69)
  have xK := Blk.new w4 69 #[.int .i64 (-1), .int .i64 a2, .int .i64 a3, .int .i64 (1 + a0), .int .i64 (1 + a1), .bool true, .bool false, .slice none 0 0, .int .i64 (-1), .int .i64 dX, .int .i64 dY, .int .i64 dW, .int .i64 dH, .bool dM, .bool dS, .slice dA dn dc]
  have xB4 := bal (bre w4) (.cells #[.int .i64 (-1), .int .i64 a2, .int .i64 a3, .int .i64 (1 + a0), .int .i64 (1 + a1), .bool true, .bool false, .slice none 0 0, .int .i64 (-1), .int .i64 dX, .int .i64 dY, .int .i64 dW, .int .i64 dH, .bool dM, .bool dS, .slice dA dn dc] 69)
  have HGL4w := HB.out.size
  obtain ⟨gl, hgl⟩ : ∃ g, w4.heap.size = g := ⟨_, rfl⟩
  obtain ⟨X5, hX5⟩ : ∃ X5, w4.alloc (.cells #[.int .i64 (-1), .int .i64 a2, .int .i64 a3, .int .i64 (1 + a0), .int .i64 (1 + a1), .bool true, .bool false, .slice none 0 0, .int .i64 (-1), .int .i64 dX, .int .i64 dY, .int .i64 dW, .int .i64 dH, .bool dM, .bool dS, .slice dA dn dc] 69) = X5 := ⟨_, rfl⟩
  rw [hX5] at xB xK xB4 ⊢
  have HB45 := Lib.hid xB4
  have HGL4 := Lib.hid hgl
  have HGL := Lib.hid (show w.heap.size ≤ gl by rw [← hgl]; exact HGL4w)
  rw [hgl] at xK ⊢
  have xsz := hgl
  replace HB := Lib.hid xB
  have KL := Lib.hid xK
  have HSZ := Lib.hid (show X5.heap.size = gl + 1 by rw [← hX5, ← hgl]; simp)
  clear xB xK xB4 hX5 hgl xsz HGL4w e0 e1 e2 e3 e4 e5 e6 e7
  have z8 := KL.out.cellV (i := 8) (v := .int .i64 (-1)) rfl
  have zf := KL.out.frozen 8
  have zl := KL.out.lt
  go_upto_region 5 with fail
  have xK : Blk (X5.setCell ⟨gl, 8, none⟩ (.int .i64 0)) gl 69 #[.int .i64 (-1), .int .i64 a2, .int .i64 a3, .int .i64 (1 + a0), .int .i64 (1 + a1), .bool true, .bool false, .slice none 0 0, .int .i64 0, .int .i64 dX, .int .i64 dY, .int .i64 dW, .int .i64 dH, .bool dM, .bool dS, .slice dA dn dc] := KL.out.set_ 8 (.int .i64 0)
  have hle := HB.out.size
  have xB := bset (p := ⟨gl, 8, none⟩) HB.out (by have := HSZ.out; have := HGL.out; show w.heap.size ≤ gl; omega) (.int .i64 0)
  have xB4 := bset (w := w4) (p := ⟨gl, 8, none⟩) HB45.out (by rw [HGL4.out]; exact Nat.le_refl _) (.int .i64 0)
  obtain ⟨X6, hX6⟩ : ∃ X6, X5.setCell ⟨gl, 8, none⟩ (.int .i64 0) = X6 := ⟨_, rfl⟩
  have xsz : X6.heap.size = gl + 1 := by rw [← hX6]; simpa using HSZ.out
  rw [hX6] at xK xB xB4 ⊢
  replace KL := Lib.hid xK
  replace HB := Lib.hid xB
  replace HB45 := Lib.hid xB4
  replace HSZ := Lib.hid xsz
  clear xK xB xB4 hX6 xsz hle z8 zf zl
  go_upto_region 6 with (at_builtin; refine wpList_append_own _ rfl _ _ 29 rfl (gl + 1) 69 i0 _ 8 72 Tryz.underlying29 hi0 hz0 hz1 hz2 rfl (by decide) _ _ _ rfl (own_none X6 (gl + 1) 69 8 (by rw [HSZ.out]; exact Nat.le_refl _)) ⟨gl, 0, none⟩ 2 2 ([.int .i64 (-1), .int .i64 a2, .int .i64 a3, .int .i64 (1 + a0), .int .i64 (1 + a1), .bool true, .bool false, .slice none 0 0, .int .i64 0, .int .i64 dX, .int .i64 dY, .int .i64 dW, .int .i64 dH, .bool dM, .bool dS, .slice dA dn dc] : List Value) rfl rfl (blk_newsR (KL.out.alloc _)) (by simp [Value.oneCell']) (by simp [maxLen]) (by omega) (by have := HSZ.out; simp; omega) ?_; intro v' w7 hown' hgrow _; have HOW := Lib.hid hown'; have HGW := Lib.hid hgrow; clear hown' hgrow; obtain ⟨gm, cm, rest, rfl, hgm, hkm⟩ := own_blkN HOW.out (by omega); have HKM := Lib.hid hkm; have HGM := Lib.hid hgm; clear hkm hgm)
  have xL := (KL.out.alloc (.cells #[] 69)).grown HGW.out (fun e => by have h1 := HSZ.out; have h2 := Option.some.inj e; dsimp only at h2; omega)
  have xB := (bal HB.out (.cells #[] 69)).grown HGW.out (bal HB.out _).size (fun q e => by have h1 := HSZ.out; have h2 := Option.some.inj e; have h3 := HGL.out; dsimp only at h2; omega)
  have xB4 := (bal HB45.out (.cells #[] 69)).grown HGW.out (bal HB45.out _).size (fun q e => by have h1 := HSZ.out; have h2 := Option.some.inj e; have h3 := HGL4.out; dsimp only at h2; omega)
  have xK : Blk w7 gm 69 (([.int .i64 (-1), .int .i64 a2, .int .i64 a3, .int .i64 (1 + a0), .int .i64 (1 + a1), .bool true, .bool false, .slice none 0 0, .int .i64 0, .int .i64 dX, .int .i64 dY, .int .i64 dW, .int .i64 dH, .bool dM, .bool dS, .slice dA dn dc] : List Value) ++ rest).toArray := HKM.out
  replace KL := Lib.hid xL
  replace HB := Lib.hid xB
  replace HB45 := Lib.hid xB4
  have KM := Lib.hid xK
  have z1 := xK.cellV (i := 1) (v := .int .i64 a2) (by simp)
  have z2 := xK.cellV (i := 2) (v := .int .i64 a3) (by simp)
  have zf1 := xK.frozen 1
  have zf2 := xK.frozen 2
  have zl := xK.lt
  clear xL xB xB4 xK HKM HGW HOW
  go_upto_region 7 with fail
  have hgm := HGM.out
  have xK : Blk ((w7.setCell ⟨gm, 1, none⟩ (.int .i64 a4)).setCell ⟨gm, 2, none⟩ (.int .i64 a5)) gm 69 (([.int .i64 (-1), .int .i64 a4, .int .i64 a5, .int .i64 (1 + a0), .int .i64 (1 + a1), .bool true, .bool false, .slice none 0 0, .int .i64 0, .int .i64 dX, .int .i64 dY, .int .i64 dW, .int .i64 dH, .bool dM, .bool dS, .slice dA dn dc] : List Value) ++ rest).toArray := by simpa using (KM.out.set_ 1 (.int .i64 a4)).set_ 2 (.int .i64 a5)
  have xL := (KL.out.far (p := ⟨gm, 1, none⟩) (by show _ ≠ _; simp only; omega) (.int .i64 a4)).far (p := ⟨gm, 2, none⟩) (by show _ ≠ _; simp only; omega) (.int .i64 a5)
  have xB := bset (p := ⟨gm, 2, none⟩) (bset (p := ⟨gm, 1, none⟩) HB.out (by have := HGL.out; show w.heap.size ≤ gm; omega) (.int .i64 a4)) (by have := HGL.out; show w.heap.size ≤ gm; omega) (.int .i64 a5)
  have xB4 := bset (p := ⟨gm, 2, none⟩) (bset (p := ⟨gm, 1, none⟩) HB45.out (by have := HGL4.out; show w4.heap.size ≤ gm; omega) (.int .i64 a4)) (by have := HGL4.out; show w4.heap.size ≤ gm; omega) (.int .i64 a5)
  obtain ⟨X8, hX8⟩ : ∃ X8, (w7.setCell ⟨gm, 1, none⟩ (.int .i64 a4)).setCell ⟨gm, 2, none⟩ (.int .i64 a5) = X8 := ⟨_, rfl⟩
  rw [hX8] at xK xL xB xB4 ⊢
  obtain ⟨d1, hd1⟩ : ∃ d1, d1 = (⟨-1, a2, a3, 1 + a0, 1 + a1, true, false, none, 0, 0, []⟩ : DW) := ⟨_, rfl⟩
  obtain ⟨d2, hd2⟩ : ∃ d2, d2 = (⟨-1, a4, a5, 1 + a0, 1 + a1, true, false, none, 0, 0, []⟩ : DW) := ⟨_, rfl⟩
  obtain ⟨ee, hee⟩ : ∃ ee, ee = (⟨0, dX, dY, dW, dH, dM, dS, dA, dn, dc, dsh⟩ : DW) := ⟨_, rfl⟩
  have hab := HAB.out
  have xsh := HSHP.out.below xB4
  have HRL := Lib.hid (show RdWs X8 (some ⟨gl, 0, none⟩) 2 [d1, ee] from ⟨RdF.of_blk DW.cells_len (by rw [hd1, hee]; exact xL) rfl, fun d hd => by
    simp only [List.mem_cons, List.not_mem_nil, or_false] at hd
    rcases hd with rfl | rfl
    · rw [hd1]; exact ⟨rfl, fun h => absurd h (Nat.lt_irrefl 0)⟩
    · rw [hee]; exact xsh⟩)
  have HRM := Lib.hid (show RdWs X8 (some ⟨gm, 0, none⟩) 2 [d2, ee] from ⟨RdF.of_blkR DW.cells_len (rest := rest) (by rw [hd2, hee]; exact xK) rfl, fun d hd => by
    simp only [List.mem_cons, List.not_mem_nil, or_false] at hd
    rcases hd with rfl | rfl
    · rw [hd2]; exact ⟨rfl, fun h => absurd h (Nat.lt_irrefl 0)⟩
    · rw [hee]; exact xsh⟩)
  have hke : DWok ee := by rw [hee]; exact ⟨HDK.out.x, HDK.out.y, HDK.out.w, HDK.out.h, HDK.out.s, HDK.out.few, HDK.out.sh⟩
  have hk1 : DWok d1 := by rw [hd1]; exact ⟨by dsimp only; omega, by dsimp only; omega, by dsimp only; omega, by dsimp only; omega, fun _ => rfl, by simp, by simp⟩
  have hk2 : DWok d2 := by rw [hd2]; exact ⟨by dsimp only; omega, by dsimp only; omega, by dsimp only; omega, by dsimp only; omega, fun _ => rfl, by simp, by simp⟩
  have HUL := Lib.hid (show UpOk [d1, ee] from up2 (by rw [hd1]) (by rw [hee]))
  have HUM := Lib.hid (show UpOk [d2, ee] from up2 (by rw [hd2]) (by rw [hee]))
  have HKL := Lib.hid (show ∀ d ∈ [d1, ee], DWok d from fun d hd => by
    simp only [List.mem_cons, List.not_mem_nil, or_false] at hd
    rcases hd with rfl | rfl
    · exact hk1
    · exact hke)
  have HKM := Lib.hid (show ∀ d ∈ [d2, ee], DWok d from fun d hd => by
    simp only [List.mem_cons, List.not_mem_nil, or_false] at hd
    rcases hd with rfl | rfl
    · exact hk2
    · exact hke)
  have HMV := Lib.hid (show ∀ i : Nat, i < 2 → ∀ x y, shG 13 13 (nodesW [d1, ee]) (bxS 13 13 [d1, ee]) (x + (ogG (nodesW [d1, ee]) (bxS 13 13 [d1, ee]) (idW i)).1) (y + (ogG (nodesW [d1, ee]) (bxS 13 13 [d1, ee]) (idW i)).2) (idW i) = shG 13 13 (nodesW [d2, ee]) (bxS 13 13 [d2, ee]) (x + (ogG (nodesW [d2, ee]) (bxS 13 13 [d2, ee]) (idW i)).1) (y + (ogG (nodesW [d2, ee]) (bxS 13 13 [d2, ee]) (idW i)).2) (idW i) from fun i hi x y =>
    move_show (by rw [hd1]) (by rw [hd2]) (by rw [hee]) (by rw [hd1]) (by rw [hd2]) (by rw [hd1, hd2]; rfl) (fun x y hxy => by
      rw [hd1] at hxy
      unfold DW.has at hxy
      rw [Bool.and_eq_true] at hxy
      have h1 := (inB_rect _ _ x y).1 hxy.1
      dsimp only at h1
      rw [hd1, hd2]
      unfold rectP
      rw [inB_rect, inB_rect]
      dsimp only
      omega) i hi x y)
  replace HB := Lib.hid xB
  clear xK xL xB xB4 hX8 hd1 hd2 hee hab xsh hke hk1 hk2 hgm z1 z2 zf1 zf2 zl KL KM HAB HSHP HB45 HDK
  go_wp2_with fail
  refine (built31_any (some ⟨gl, 0, none⟩) 2 2 [d1, ee] 13 13 _ HRL.out (by decide) HUL.out HKL.out (by decide)).mono ?_
  rintro e w9 ⟨mk, mu, mp, nk, fk, bs, rfl, hm1, hb9⟩
  go_upto_region 8 with fail
  have hba := bal (bal (bre w9) (.cells #[.map mk, .map mu] 34)) (.cells #[.map mp] 37)
  have xM := hm1.below hba
  have xK13 := (Blk.new w9 34 #[.map mk, .map mu]).alloc (.cells #[.map mp] 37)
  have xK14 := blk_new2 w9 (.cells #[.map mk, .map mu] 34) 37 #[.map mp]
  have xRM := (HRM.out.below hb9).below hba
  have xB := bstep (bstep HB.out hb9) hba
  obtain ⟨Y1, hY1⟩ : ∃ Y1, (w9.alloc (.cells #[.map mk, .map mu] 34)).alloc (.cells #[.map mp] 37) = Y1 := ⟨_, rfl⟩
  rw [hY1] at xM xK13 xK14 xRM xB ⊢
  have HM1 := Lib.hid xM
  have K13 := Lib.hid xK13
  have K14 := Lib.hid xK14
  replace HRM := Lib.hid xRM
  replace HB := Lib.hid xB
  clear xM xK13 xK14 xRM xB hY1 hba hm1 hb9 HRL
  go_wp2_with fail
  refine (built31_any (some ⟨gm, 0, none⟩) 2 cm [d2, ee] 13 13 _ HRM.out (by decide) HUM.out HKM.out (by decide)).mono ?_
  rintro e wA ⟨mk2, mu2, mp2, nk2, fk2, bs2, rfl, hm2, hbA⟩
  go_upto_region 9 with fail
  have hba := bal (bal (bre wA) (.cells #[.map mk2, .map mu2] 34)) (.cells #[.map mp2] 37)
  have xM := hm2.below hba
  have xM1 := (HM1.out.below hbA).below hba
  have xK13 := (K13.out.belowS hbA).belowS hba
  have xK14 := (K14.out.belowS hbA).belowS hba
  have xK16 := (Blk.new wA 34 #[.map mk2, .map mu2]).alloc (.cells #[.map mp2] 37)
  have xK17 := blk_new2 wA (.cells #[.map mk2, .map mu2] 34) 37 #[.map mp2]
  have xB := bstep (bstep HB.out hbA) hba
  obtain ⟨Y2, hY2⟩ : ∃ Y2, (wA.alloc (.cells #[.map mk2, .map mu2] 34)).alloc (.cells #[.map mp2] 37) = Y2 := ⟨_, rfl⟩
  rw [hY2] at xM xM1 xK13 xK14 xK16 xK17 xB ⊢
  replace HM1 := Lib.hid xM1
  have HM2 := Lib.hid xM
  replace K13 := Lib.hid xK13
  replace K14 := Lib.hid xK14
  have K16 := Lib.hid xK16
  have K17 := Lib.hid xK17
  replace HB := Lib.hid xB
  clear xM xM1 xK13 xK14 xK16 xK17 xB hY2 hba hm2 hbA HRM
  go_upto_region 11 with fail
  go_cut [19, 20] from 126 (fun s19 s20 wx => ∃ (g1 g2 : Nat) (A1 : Option Addr) (n1 c1 : Nat) (m1 : Option Nat) (A2 : Option Addr) (n2 c2 : Nat) (m2 : Option Nat) (og1 og2 : Int → Int × Int), s19 = .pointer (some ⟨g1, 0, none⟩) ∧ s20 = .pointer (some ⟨g2, 0, none⟩) ∧ Blk wx g1 43 #[.slice A1 n1 c1, .map m1] ∧ Blk wx g2 43 #[.slice A2 n2 c2, .map m2] ∧ SeenG wx (.agg #[.slice A1 n1 c1, .map m1]) 13 13 (nodesW [d1, ee]) (bxS 13 13 [d1, ee]) og1 ∧ SeenG wx (.agg #[.slice A2 n2 c2, .map m2]) 13 13 (nodesW [d2, ee]) (bxS 13 13 [d2, ee]) og2 ∧ Below Y2.heap.size Y2 wx)
  case first =>
    as_aux_lemma =>
      have HBW := Lib.hid (show Below Y2.heap.size Y2 Y2.drew from (bre Y2).drew)
      refine wp_region_noPanic ?_
      refine wp_region_held_drew (S := (fun w' => w'.cell? ⟨w9.heap.size, 0, none⟩ = some (.map mk) ∧ w'.cell? ⟨w9.heap.size, 1, none⟩ = some (.map mu) ∧ w'.cell? ⟨w9.heap.size + 1, 0, none⟩ = some (.map mp) ∧ w'.cell? ⟨wA.heap.size, 0, none⟩ = some (.map mk2) ∧ w'.cell? ⟨wA.heap.size, 1, none⟩ = some (.map mu2) ∧ w'.cell? ⟨wA.heap.size + 1, 0, none⟩ = some (.map mp2))) (by kernel_rfl) ?_ (fun hHeld => ?_)
      · (try dsimp only)
        exact ⟨(K13.out.belowS HBW.out).cellV (i := 0) rfl, (K13.out.belowS HBW.out).cellV (i := 1) rfl, (K14.out.belowS HBW.out).cellV (i := 0) rfl, (K16.out.belowS HBW.out).cellV (i := 0) rfl, (K16.out.belowS HBW.out).cellV (i := 1) rfl, (K17.out.belowS HBW.out).cellV (i := 0) rfl⟩
      refine Tr.take_at 0 92 (.agg #[.map mk, .map mu]) rfl rfl (by kernel_rfl) (by kernel_rfl) (by kernel_rfl) (fun _ _ _ h => h) (Or.inl ⟨by rfl, ?_⟩) (by assumption) ?_
      · intro W0 hSw
        (try dsimp only at hSw)
        go_simp
      simp only [List.set_cons_zero, List.set_cons_succ]
      refine Tr.take_at 1 93 (.agg #[.map mp]) rfl rfl (by kernel_rfl) (by kernel_rfl) (by kernel_rfl) (fun _ _ _ h => h) (Or.inl ⟨by rfl, ?_⟩) (by assumption) ?_
      · intro W0 hSw
        (try dsimp only at hSw)
        go_simp
      simp only [List.set_cons_zero, List.set_cons_succ]
      refine Tr.take_at 3 95 (.agg #[.map mk2, .map mu2]) rfl rfl (by kernel_rfl) (by kernel_rfl) (by kernel_rfl) (fun _ _ _ h => h) (Or.inl ⟨by rfl, ?_⟩) (by assumption) ?_
      · intro W0 hSw
        (try dsimp only at hSw)
        go_simp
      simp only [List.set_cons_zero, List.set_cons_succ]
      refine Tr.take_at 4 96 (.agg #[.map mp2]) rfl rfl (by kernel_rfl) (by kernel_rfl) (by kernel_rfl) (fun _ _ _ h => h) (Or.inl ⟨by rfl, ?_⟩) (by assumption) ?_
      · intro W0 hSw
        (try dsimp only at hSw)
        go_simp
      simp only [List.set_cons_zero, List.set_cons_succ]
      refine wpAnyH_ready (rs := [2, 6, 7]) (by kernel_rfl) (by simp) ?_
      refine AllReadyH.cons rfl (fun K hK => ?_) (AllReadyH.cons rfl (fun K hK => ?_) (AllReadyH.cons rfl (fun K hK => ?_) AllReadyH.nil))
      ·
        go_simp
        refine (seenG_of (RW := 13) (RH := 13) (l := [d1, ee]) (ns := nodesW [d1, ee]) (bs := bs) (fk := fk) (nk := nk) (n := 3) _ (HM1.out.tree.below HBW.out) (HM1.out.place.below HBW.out) (HM1.out.scene.below HBW.out) (nodesW_ok HUL.out) (fun _ h => h) HKL.out (by rw [nodesW_len]; simp) (by decide)).mono ?_
        rintro e wc2 ⟨v1, og1, rfl, hse, hbA⟩
        obtain ⟨A1, n1, c1, m1, rfl⟩ := hse.form
        have HSE1 := Lib.hid hse
        clear hse
        replace HBW := Lib.hid (bstep HBW.out hbA)
        clear hbA
        go_simp
        refine hK.out _ _ ?_ (fun hHeld => ?_)
        · (try dsimp only)
          exact ⟨(K13.out.belowS HBW.out).cellV (i := 0) rfl, (K13.out.belowS HBW.out).cellV (i := 1) rfl, (K14.out.belowS HBW.out).cellV (i := 0) rfl, (K16.out.belowS HBW.out).cellV (i := 0) rfl, (K16.out.belowS HBW.out).cellV (i := 1) rfl, (K17.out.belowS HBW.out).cellV (i := 0) rfl⟩
        clear hK K
        refine wpAnyH_ready (rs := [5, 6, 7]) (by kernel_rfl) (by simp) ?_
        refine AllReadyH.cons rfl (fun K hK => ?_) (AllReadyH.cons rfl (fun K hK => ?_) (AllReadyH.cons rfl (fun K hK => ?_) AllReadyH.nil))
        ·
          go_simp
          refine (seenG_of (RW := 13) (RH := 13) (l := [d2, ee]) (ns := nodesW [d2, ee]) (bs := bs2) (fk := fk2) (nk := nk2) (n := 3) _ (HM2.out.tree.below HBW.out) (HM2.out.place.below HBW.out) (HM2.out.scene.below HBW.out) (nodesW_ok HUM.out) (fun _ h => h) HKM.out (by rw [nodesW_len]; simp) (by decide)).mono ?_
          rintro e wc5 ⟨v2, og2, rfl, hse, hbA⟩
          obtain ⟨A2, n2, c2, m2, rfl⟩ := hse.form
          have HSE2 := Lib.hid hse
          clear hse
          replace HBW := Lib.hid (bstep HBW.out hbA)
          replace HSE1 := Lib.hid (HSE1.out.below hbA)
          clear hbA
          go_simp
          refine hK.out _ _ ?_ (fun hHeld => ?_)
          · (try dsimp only)
            exact ⟨(K13.out.belowS HBW.out).cellV (i := 0) rfl, (K13.out.belowS HBW.out).cellV (i := 1) rfl, (K14.out.belowS HBW.out).cellV (i := 0) rfl, (K16.out.belowS HBW.out).cellV (i := 0) rfl, (K16.out.belowS HBW.out).cellV (i := 1) rfl, (K17.out.belowS HBW.out).cellV (i := 0) rfl⟩
          clear hK K
          refine wpAnyH_ready (rs := [6, 7]) (by kernel_rfl) (by simp) ?_
          refine AllReadyH.cons rfl (fun K hK => ?_) (AllReadyH.cons rfl (fun K hK => ?_) AllReadyH.nil)
          ·
            go_simp
            have KA6 := Lib.hid (show Blk (wc5.alloc (.cells #[.slice none 0 0, .map none] 43)) (wc5.heap.size) 43 #[.slice none 0 0, .map none] from Blk.new wc5 43 #[.slice none 0 0, .map none])
            have HL6 := Lib.hid (show Y2.heap.size ≤ wc5.heap.size from HBW.out.size)
            have hbA : Below wc5.heap.size wc5 ((wc5.alloc (.cells #[.slice none 0 0, .map none] 43))) := bal (bre wc5) (.cells #[.slice none 0 0, .map none] 43)
            replace HBW := Lib.hid (bstep HBW.out hbA)
            replace HSE1 := Lib.hid (HSE1.out.below hbA)
            replace HSE2 := Lib.hid (HSE2.out.below hbA)
            clear hbA
            refine hK.out _ _ ?_ (fun hHeld => ?_)
            · (try dsimp only)
              exact ⟨(K13.out.belowS HBW.out).cellV (i := 0) rfl, (K13.out.belowS HBW.out).cellV (i := 1) rfl, (K14.out.belowS HBW.out).cellV (i := 0) rfl, (K16.out.belowS HBW.out).cellV (i := 0) rfl, (K16.out.belowS HBW.out).cellV (i := 1) rfl, (K17.out.belowS HBW.out).cellV (i := 0) rfl⟩
            clear hK K
            refine wpAnyH_ready (rs := [7]) (by kernel_rfl) (by simp) ?_
            refine AllReadyH.cons rfl (fun K hK => ?_) AllReadyH.nil
            go_simp
            have HN6_7 := Lib.hid (show wc5.heap.size ≠ wc5.heap.size + 1 from by have h := KA6.out.lt; rw [show ((wc5.alloc (.cells #[.slice none 0 0, .map none] 43))).heap.size = wc5.heap.size + 1 from (show ((wc5.alloc (.cells #[.slice none 0 0, .map none] 43))).heap.size = wc5.heap.size + 1 by simp)] at h; exact Nat.ne_of_lt h)
            have KA7 := Lib.hid (show Blk ((wc5.alloc (.cells #[.slice none 0 0, .map none] 43)).alloc (.cells #[.slice none 0 0, .map none] 43)) (wc5.heap.size + 1) 43 #[.slice none 0 0, .map none] from by have h := Blk.new ((wc5.alloc (.cells #[.slice none 0 0, .map none] 43))) 43 #[.slice none 0 0, .map none]; rw [show ((wc5.alloc (.cells #[.slice none 0 0, .map none] 43))).heap.size = wc5.heap.size + 1 from (show ((wc5.alloc (.cells #[.slice none 0 0, .map none] 43))).heap.size = wc5.heap.size + 1 by simp)] at h; exact h)
            have HL7 := Lib.hid (show Y2.heap.size ≤ wc5.heap.size + 1 from by have h := HBW.out.size; rw [show ((wc5.alloc (.cells #[.slice none 0 0, .map none] 43))).heap.size = wc5.heap.size + 1 from (show ((wc5.alloc (.cells #[.slice none 0 0, .map none] 43))).heap.size = wc5.heap.size + 1 by simp)] at h; exact h)
            have hbA : Below (wc5.alloc (.cells #[.slice none 0 0, .map none] 43)).heap.size (wc5.alloc (.cells #[.slice none 0 0, .map none] 43)) (((wc5.alloc (.cells #[.slice none 0 0, .map none] 43)).alloc (.cells #[.slice none 0 0, .map none] 43))) := bal (bre (wc5.alloc (.cells #[.slice none 0 0, .map none] 43))) (.cells #[.slice none 0 0, .map none] 43)
            replace HBW := Lib.hid (bstep HBW.out hbA)
            replace KA6 := Lib.hid (KA6.out.belowS hbA)
            replace HSE1 := Lib.hid (HSE1.out.below hbA)
            replace HSE2 := Lib.hid (HSE2.out.below hbA)
            clear hbA
            refine hK.out _ _ ?_ (fun hHeld => ?_)
            · (try dsimp only)
              exact ⟨(K13.out.belowS HBW.out).cellV (i := 0) rfl, (K13.out.belowS HBW.out).cellV (i := 1) rfl, (K14.out.belowS HBW.out).cellV (i := 0) rfl, (K16.out.belowS HBW.out).cellV (i := 0) rfl, (K16.out.belowS HBW.out).cellV (i := 1) rfl, (K17.out.belowS HBW.out).cellV (i := 0) rfl⟩
            clear hK K
            refine wpAnyH_ready (rs := [8]) (by kernel_rfl) (by simp) ?_
            refine AllReadyH.cons rfl (fun K hK => ?_) AllReadyH.nil
            refine Tr.wanted_plain rfl ?_
            refine store_mid0 rfl 43 _ _ rfl (wc5.heap.size) 0 #[.slice A1 n1 c1, .map m1] (by rfl) (by rfl) (by have h := there_blk KA6.out; exact h) Tryz.sizeVx (by simp [Value.oneCell']) ?_
            have xK := blk_puts2 (.slice A1 n1 c1) (.map m1) KA6.out
            have xB := bsets HBW.out HL6.out (#[.slice A1 n1 c1, .map m1] : Array Value).toList 0
            have xA7 := KA7.out.farCells (HN6_7.out.symm) (#[.slice A1 n1 c1, .map m1] : Array Value).toList 0
            have xHSE1 := (show SeenG (World.setCells ((wc5.alloc (.cells #[.slice none 0 0, .map none] 43)).alloc (.cells #[.slice none 0 0, .map none] 43)) (wc5.heap.size) 0 (#[.slice A1 n1 c1, .map m1] : Array Value).toList) _ 13 13 _ _ _ from (HSE1.out.setNo KA6.out (blkX_noI KA6.out (viewX_no _ _ _ _)) 0 (.slice A1 n1 c1)).setNo (KA6.out.set_ 0 (.slice A1 n1 c1)) (blkX_noI (KA6.out.set_ 0 (.slice A1 n1 c1)) (viewX_no _ _ _ _)) 1 (.map m1))
            have xHSE2 := (show SeenG (World.setCells ((wc5.alloc (.cells #[.slice none 0 0, .map none] 43)).alloc (.cells #[.slice none 0 0, .map none] 43)) (wc5.heap.size) 0 (#[.slice A1 n1 c1, .map m1] : Array Value).toList) _ 13 13 _ _ _ from (HSE2.out.setNo KA6.out (blkX_noI KA6.out (viewX_no _ _ _ _)) 0 (.slice A1 n1 c1)).setNo (KA6.out.set_ 0 (.slice A1 n1 c1)) (blkX_noI (KA6.out.set_ 0 (.slice A1 n1 c1)) (viewX_no _ _ _ _)) 1 (.map m1))
            obtain ⟨wS8, hwS⟩ : ∃ wS, World.setCells ((wc5.alloc (.cells #[.slice none 0 0, .map none] 43)).alloc (.cells #[.slice none 0 0, .map none] 43)) (wc5.heap.size) 0 (#[.slice A1 n1 c1, .map m1] : Array Value).toList = wS := ⟨_, rfl⟩
            rw [hwS] at xK xB xA7 xHSE1 xHSE2 ⊢
            replace HBW := Lib.hid xB
            replace KA6 := Lib.hid xK
            replace KA7 := Lib.hid xA7
            replace HSE1 := Lib.hid xHSE1
            replace HSE2 := Lib.hid xHSE2
            clear hwS xK xB xA7 xHSE1 xHSE2
            refine hK.out _ _ ?_ (fun hHeld => ?_)
            · (try dsimp only)
              exact ⟨(K13.out.belowS HBW.out).cellV (i := 0) rfl, (K13.out.belowS HBW.out).cellV (i := 1) rfl, (K14.out.belowS HBW.out).cellV (i := 0) rfl, (K16.out.belowS HBW.out).cellV (i := 0) rfl, (K16.out.belowS HBW.out).cellV (i := 1) rfl, (K17.out.belowS HBW.out).cellV (i := 0) rfl⟩
            clear hK K
            refine wpAnyH_ready (rs := [9]) (by kernel_rfl) (by simp) ?_
            refine AllReadyH.cons rfl (fun K hK => ?_) AllReadyH.nil
            refine Tr.wanted_plain rfl ?_
            refine store_mid0 rfl 43 _ _ rfl (wc5.heap.size + 1) 0 #[.slice A2 n2 c2, .map m2] (by rfl) (by rfl) (by have h := there_blk KA7.out; exact h) Tryz.sizeVx (by simp [Value.oneCell']) ?_
            have xK := blk_puts2 (.slice A2 n2 c2) (.map m2) KA7.out
            have xB := bsets HBW.out HL7.out (#[.slice A2 n2 c2, .map m2] : Array Value).toList 0
            have xA6 := KA6.out.farCells (HN6_7.out) (#[.slice A2 n2 c2, .map m2] : Array Value).toList 0
            have xHSE1 := (show SeenG (World.setCells (wS8) (wc5.heap.size + 1) 0 (#[.slice A2 n2 c2, .map m2] : Array Value).toList) _ 13 13 _ _ _ from (HSE1.out.setNo KA7.out (blkX_noI KA7.out (viewX_no _ _ _ _)) 0 (.slice A2 n2 c2)).setNo (KA7.out.set_ 0 (.slice A2 n2 c2)) (blkX_noI (KA7.out.set_ 0 (.slice A2 n2 c2)) (viewX_no _ _ _ _)) 1 (.map m2))
            have xHSE2 := (show SeenG (World.setCells (wS8) (wc5.heap.size + 1) 0 (#[.slice A2 n2 c2, .map m2] : Array Value).toList) _ 13 13 _ _ _ from (HSE2.out.setNo KA7.out (blkX_noI KA7.out (viewX_no _ _ _ _)) 0 (.slice A2 n2 c2)).setNo (KA7.out.set_ 0 (.slice A2 n2 c2)) (blkX_noI (KA7.out.set_ 0 (.slice A2 n2 c2)) (viewX_no _ _ _ _)) 1 (.map m2))
            obtain ⟨wS9, hwS⟩ : ∃ wS, World.setCells wS8 (wc5.heap.size + 1) 0 (#[.slice A2 n2 c2, .map m2] : Array Value).toList = wS := ⟨_, rfl⟩
            rw [hwS] at xK xB xA6 xHSE1 xHSE2 ⊢
            replace HBW := Lib.hid xB
            replace KA7 := Lib.hid xK
            replace KA6 := Lib.hid xA6
            replace HSE1 := Lib.hid xHSE1
            replace HSE2 := Lib.hid xHSE2
            clear hwS xK xB xA6 xHSE1 xHSE2
            refine hK.out _ _ ?_ (fun hHeld => ?_)
            · (try dsimp only)
              exact ⟨(K13.out.belowS HBW.out).cellV (i := 0) rfl, (K13.out.belowS HBW.out).cellV (i := 1) rfl, (K14.out.belowS HBW.out).cellV (i := 0) rfl, (K16.out.belowS HBW.out).cellV (i := 0) rfl, (K16.out.belowS HBW.out).cellV (i := 1) rfl, (K17.out.belowS HBW.out).cellV (i := 0) rfl⟩
            clear hK K
            refine wpAnyH_done (by kernel_rfl) ?_ _
            refine NoPanic.normal ?_
            go_wp2_with fail
            go_meet
            exact ⟨_, _, A1, n1, c1, m1, A2, n2, c2, m2, og1, og2, rfl, rfl, KA6.out, KA7.out, HSE1.out, HSE2.out, HBW.out⟩
          ·
            go_simp
            have KA7 := Lib.hid (show Blk (wc5.alloc (.cells #[.slice none 0 0, .map none] 43)) (wc5.heap.size) 43 #[.slice none 0 0, .map none] from Blk.new wc5 43 #[.slice none 0 0, .map none])
            have HL7 := Lib.hid (show Y2.heap.size ≤ wc5.heap.size from HBW.out.size)
            have hbA : Below wc5.heap.size wc5 ((wc5.alloc (.cells #[.slice none 0 0, .map none] 43))) := bal (bre wc5) (.cells #[.slice none 0 0, .map none] 43)
            replace HBW := Lib.hid (bstep HBW.out hbA)
            replace HSE1 := Lib.hid (HSE1.out.below hbA)
            replace HSE2 := Lib.hid (HSE2.out.below hbA)
            clear hbA
            refine hK.out _ _ ?_ (fun hHeld => ?_)
            · (try dsimp only)
              exact ⟨(K13.out.belowS HBW.out).cellV (i := 0) rfl, (K13.out.belowS HBW.out).cellV (i := 1) rfl, (K14.out.belowS HBW.out).cellV (i := 0) rfl, (K16.out.belowS HBW.out).cellV (i := 0) rfl, (K16.out.belowS HBW.out).cellV (i := 1) rfl, (K17.out.belowS HBW.out).cellV (i := 0) rfl⟩
            clear hK K
            refine wpAnyH_ready (rs := [6]) (by kernel_rfl) (by simp) ?_
            refine AllReadyH.cons rfl (fun K hK => ?_) AllReadyH.nil
            go_simp
            have HN7_6 := Lib.hid (show wc5.heap.size ≠ wc5.heap.size + 1 from by have h := KA7.out.lt; rw [show ((wc5.alloc (.cells #[.slice none 0 0, .map none] 43))).heap.size = wc5.heap.size + 1 from (show ((wc5.alloc (.cells #[.slice none 0 0, .map none] 43))).heap.size = wc5.heap.size + 1 by simp)] at h; exact Nat.ne_of_lt h)
            have KA6 := Lib.hid (show Blk ((wc5.alloc (.cells #[.slice none 0 0, .map none] 43)).alloc (.cells #[.slice none 0 0, .map none] 43)) (wc5.heap.size + 1) 43 #[.slice none 0 0, .map none] from by have h := Blk.new ((wc5.alloc (.cells #[.slice none 0 0, .map none] 43))) 43 #[.slice none 0 0, .map none]; rw [show ((wc5.alloc (.cells #[.slice none 0 0, .map none] 43))).heap.size = wc5.heap.size + 1 from (show ((wc5.alloc (.cells #[.slice none 0 0, .map none] 43))).heap.size = wc5.heap.size + 1 by simp)] at h; exact h)
            have HL6 := Lib.hid (show Y2.heap.size ≤ wc5.heap.size + 1 from by have h := HBW.out.size; rw [show ((wc5.alloc (.cells #[.slice none 0 0, .map none] 43))).heap.size = wc5.heap.size + 1 from (show ((wc5.alloc (.cells #[.slice none 0 0, .map none] 43))).heap.size = wc5.heap.size + 1 by simp)] at h; exact h)
            have hbA : Below (wc5.alloc (.cells #[.slice none 0 0, .map none] 43)).heap.size (wc5.alloc (.cells #[.slice none 0 0, .map none] 43)) (((wc5.alloc (.cells #[.slice none 0 0, .map none] 43)).alloc (.cells #[.slice none 0 0, .map none] 43))) := bal (bre (wc5.alloc (.cells #[.slice none 0 0, .map none] 43))) (.cells #[.slice none 0 0, .map none] 43)
            replace HBW := Lib.hid (bstep HBW.out hbA)
            replace KA7 := Lib.hid (KA7.out.belowS hbA)
            replace HSE1 := Lib.hid (HSE1.out.below hbA)
            replace HSE2 := Lib.hid (HSE2.out.below hbA)
            clear hbA
            refine hK.out _ _ ?_ (fun hHeld => ?_)
            · (try dsimp only)
              exact ⟨(K13.out.belowS HBW.out).cellV (i := 0) rfl, (K13.out.belowS HBW.out).cellV (i := 1) rfl, (K14.out.belowS HBW.out).cellV (i := 0) rfl, (K16.out.belowS HBW.out).cellV (i := 0) rfl, (K16.out.belowS HBW.out).cellV (i := 1) rfl, (K17.out.belowS HBW.out).cellV (i := 0) rfl⟩
            clear hK K
            refine wpAnyH_ready (rs := [8]) (by kernel_rfl) (by simp) ?_
            refine AllReadyH.cons rfl (fun K hK => ?_) AllReadyH.nil
            refine Tr.wanted_plain rfl ?_
            refine store_mid0 rfl 43 _ _ rfl (wc5.heap.size + 1) 0 #[.slice A1 n1 c1, .map m1] (by rfl) (by rfl) (by have h := there_blk KA6.out; exact h) Tryz.sizeVx (by simp [Value.oneCell']) ?_
            have xK := blk_puts2 (.slice A1 n1 c1) (.map m1) KA6.out
            have xB := bsets HBW.out HL6.out (#[.slice A1 n1 c1, .map m1] : Array Value).toList 0
            have xA7 := KA7.out.farCells (HN7_6.out) (#[.slice A1 n1 c1, .map m1] : Array Value).toList 0
            have xHSE1 := (show SeenG (World.setCells ((wc5.alloc (.cells #[.slice none 0 0, .map none] 43)).alloc (.cells #[.slice none 0 0, .map none] 43)) (wc5.heap.size + 1) 0 (#[.slice A1 n1 c1, .map m1] : Array Value).toList) _ 13 13 _ _ _ from (HSE1.out.setNo KA6.out (blkX_noI KA6.out (viewX_no _ _ _ _)) 0 (.slice A1 n1 c1)).setNo (KA6.out.set_ 0 (.slice A1 n1 c1)) (blkX_noI (KA6.out.set_ 0 (.slice A1 n1 c1)) (viewX_no _ _ _ _)) 1 (.map m1))
            have xHSE2 := (show SeenG (World.setCells ((wc5.alloc (.cells #[.slice none 0 0, .map none] 43)).alloc (.cells #[.slice none 0 0, .map none] 43)) (wc5.heap.size + 1) 0 (#[.slice A1 n1 c1, .map m1] : Array Value).toList) _ 13 13 _ _ _ from (HSE2.out.setNo KA6.out (blkX_noI KA6.out (viewX_no _ _ _ _)) 0 (.slice A1 n1 c1)).setNo (KA6.out.set_ 0 (.slice A1 n1 c1)) (blkX_noI (KA6.out.set_ 0 (.slice A1 n1 c1)) (viewX_no _ _ _ _)) 1 (.map m1))
            obtain ⟨wS8, hwS⟩ : ∃ wS, World.setCells ((wc5.alloc (.cells #[.slice none 0 0, .map none] 43)).alloc (.cells #[.slice none 0 0, .map none] 43)) (wc5.heap.size + 1) 0 (#[.slice A1 n1 c1, .map m1] : Array Value).toList = wS := ⟨_, rfl⟩
            rw [hwS] at xK xB xA7 xHSE1 xHSE2 ⊢
            replace HBW := Lib.hid xB
            replace KA6 := Lib.hid xK
            replace KA7 := Lib.hid xA7
            replace HSE1 := Lib.hid xHSE1
            replace HSE2 := Lib.hid xHSE2
            clear hwS xK xB xA7 xHSE1 xHSE2
            refine hK.out _ _ ?_ (fun hHeld => ?_)
            · (try dsimp only)
              exact ⟨(K13.out.belowS HBW.out).cellV (i := 0) rfl, (K13.out.belowS HBW.out).cellV (i := 1) rfl, (K14.out.belowS HBW.out).cellV (i := 0) rfl, (K16.out.belowS HBW.out).cellV (i := 0) rfl, (K16.out.belowS HBW.out).cellV (i := 1) rfl, (K17.out.belowS HBW.out).cellV (i := 0) rfl⟩
            clear hK K
            refine wpAnyH_ready (rs := [9]) (by kernel_rfl) (by simp) ?_
            refine AllReadyH.cons rfl (fun K hK => ?_) AllReadyH.nil
            refine Tr.wanted_plain rfl ?_
            refine store_mid0 rfl 43 _ _ rfl (wc5.heap.size) 0 #[.slice A2 n2 c2, .map m2] (by rfl) (by rfl) (by have h := there_blk KA7.out; exact h) Tryz.sizeVx (by simp [Value.oneCell']) ?_
            have xK := blk_puts2 (.slice A2 n2 c2) (.map m2) KA7.out
            have xB := bsets HBW.out HL7.out (#[.slice A2 n2 c2, .map m2] : Array Value).toList 0
            have xA6 := KA6.out.farCells (HN7_6.out.symm) (#[.slice A2 n2 c2, .map m2] : Array Value).toList 0
            have xHSE1 := (show SeenG (World.setCells (wS8) (wc5.heap.size) 0 (#[.slice A2 n2 c2, .map m2] : Array Value).toList) _ 13 13 _ _ _ from (HSE1.out.setNo KA7.out (blkX_noI KA7.out (viewX_no _ _ _ _)) 0 (.slice A2 n2 c2)).setNo (KA7.out.set_ 0 (.slice A2 n2 c2)) (blkX_noI (KA7.out.set_ 0 (.slice A2 n2 c2)) (viewX_no _ _ _ _)) 1 (.map m2))
            have xHSE2 := (show SeenG (World.setCells (wS8) (wc5.heap.size) 0 (#[.slice A2 n2 c2, .map m2] : Array Value).toList) _ 13 13 _ _ _ from (HSE2.out.setNo KA7.out (blkX_noI KA7.out (viewX_no _ _ _ _)) 0 (.slice A2 n2 c2)).setNo (KA7.out.set_ 0 (.slice A2 n2 c2)) (blkX_noI (KA7.out.set_ 0 (.slice A2 n2 c2)) (viewX_no _ _ _ _)) 1 (.map m2))
            obtain ⟨wS9, hwS⟩ : ∃ wS, World.setCells wS8 (wc5.heap.size) 0 (#[.slice A2 n2 c2, .map m2] : Array Value).toList = wS := ⟨_, rfl⟩
            rw [hwS] at xK xB xA6 xHSE1 xHSE2 ⊢
            replace HBW := Lib.hid xB
            replace KA7 := Lib.hid xK
            replace KA6 := Lib.hid xA6
            replace HSE1 := Lib.hid xHSE1
            replace HSE2 := Lib.hid xHSE2
            clear hwS xK xB xA6 xHSE1 xHSE2
            refine hK.out _ _ ?_ (fun hHeld => ?_)
            · (try dsimp only)
              exact ⟨(K13.out.belowS HBW.out).cellV (i := 0) rfl, (K13.out.belowS HBW.out).cellV (i := 1) rfl, (K14.out.belowS HBW.out).cellV (i := 0) rfl, (K16.out.belowS HBW.out).cellV (i := 0) rfl, (K16.out.belowS HBW.out).cellV (i := 1) rfl, (K17.out.belowS HBW.out).cellV (i := 0) rfl⟩
            clear hK K
            refine wpAnyH_done (by kernel_rfl) ?_ _
            refine NoPanic.normal ?_
            go_wp2_with fail
            go_meet
            exact ⟨_, _, A1, n1, c1, m1, A2, n2, c2, m2, og1, og2, rfl, rfl, KA6.out, KA7.out, HSE1.out, HSE2.out, HBW.out⟩
        ·
          go_simp
          have KA6 := Lib.hid (show Blk (wc2.alloc (.cells #[.slice none 0 0, .map none] 43)) (wc2.heap.size) 43 #[.slice none 0 0, .map none] from Blk.new wc2 43 #[.slice none 0 0, .map none])
          have HL6 := Lib.hid (show Y2.heap.size ≤ wc2.heap.size from HBW.out.size)
          have hbA : Below wc2.heap.size wc2 ((wc2.alloc (.cells #[.slice none 0 0, .map none] 43))) := bal (bre wc2) (.cells #[.slice none 0 0, .map none] 43)
          replace HBW := Lib.hid (bstep HBW.out hbA)
          replace HSE1 := Lib.hid (HSE1.out.below hbA)
          clear hbA
          refine hK.out _ _ ?_ (fun hHeld => ?_)
          · (try dsimp only)
            exact ⟨(K13.out.belowS HBW.out).cellV (i := 0) rfl, (K13.out.belowS HBW.out).cellV (i := 1) rfl, (K14.out.belowS HBW.out).cellV (i := 0) rfl, (K16.out.belowS HBW.out).cellV (i := 0) rfl, (K16.out.belowS HBW.out).cellV (i := 1) rfl, (K17.out.belowS HBW.out).cellV (i := 0) rfl⟩
          clear hK K
          refine wpAnyH_ready (rs := [5, 7]) (by kernel_rfl) (by simp) ?_
          refine AllReadyH.cons rfl (fun K hK => ?_) (AllReadyH.cons rfl (fun K hK => ?_) AllReadyH.nil)
          ·
            go_simp
            refine (seenG_of (RW := 13) (RH := 13) (l := [d2, ee]) (ns := nodesW [d2, ee]) (bs := bs2) (fk := fk2) (nk := nk2) (n := 3) _ (HM2.out.tree.below HBW.out) (HM2.out.place.below HBW.out) (HM2.out.scene.below HBW.out) (nodesW_ok HUM.out) (fun _ h => h) HKM.out (by rw [nodesW_len]; simp) (by decide)).mono ?_
            rintro e wc5 ⟨v2, og2, rfl, hse, hbA⟩
            obtain ⟨A2, n2, c2, m2, rfl⟩ := hse.form
            have HSE2 := Lib.hid hse
            clear hse
            replace HBW := Lib.hid (bstep HBW.out hbA)
            replace KA6 := Lib.hid (KA6.out.belowS hbA)
            replace HSE1 := Lib.hid (HSE1.out.below hbA)
            clear hbA
            go_simp
            refine hK.out _ _ ?_ (fun hHeld => ?_)
            · (try dsimp only)
              exact ⟨(K13.out.belowS HBW.out).cellV (i := 0) rfl, (K13.out.belowS HBW.out).cellV (i := 1) rfl, (K14.out.belowS HBW.out).cellV (i := 0) rfl, (K16.out.belowS HBW.out).cellV (i := 0) rfl, (K16.out.belowS HBW.out).cellV (i := 1) rfl, (K17.out.belowS HBW.out).cellV (i := 0) rfl⟩
            clear hK K
            refine wpAnyH_ready (rs := [7]) (by kernel_rfl) (by simp) ?_
            refine AllReadyH.cons rfl (fun K hK => ?_) AllReadyH.nil
            go_simp
            have HN6_7 := Lib.hid (Nat.ne_of_lt KA6.out.lt)
            have KA7 := Lib.hid (show Blk (wc5.alloc (.cells #[.slice none 0 0, .map none] 43)) (wc5.heap.size) 43 #[.slice none 0 0, .map none] from Blk.new wc5 43 #[.slice none 0 0, .map none])
            have HL7 := Lib.hid (show Y2.heap.size ≤ wc5.heap.size from HBW.out.size)
            have hbA : Below wc5.heap.size wc5 ((wc5.alloc (.cells #[.slice none 0 0, .map none] 43))) := bal (bre wc5) (.cells #[.slice none 0 0, .map none] 43)
            replace HBW := Lib.hid (bstep HBW.out hbA)
            replace KA6 := Lib.hid (KA6.out.belowS hbA)
            replace HSE1 := Lib.hid (HSE1.out.below hbA)
            replace HSE2 := Lib.hid (HSE2.out.below hbA)
            clear hbA
            refine hK.out _ _ ?_ (fun hHeld => ?_)
            · (try dsimp only)
              exact ⟨(K13.out.belowS HBW.out).cellV (i := 0) rfl, (K13.out.belowS HBW.out).cellV (i := 1) rfl, (K14.out.belowS HBW.out).cellV (i := 0) rfl, (K16.out.belowS HBW.out).cellV (i := 0) rfl, (K16.out.belowS HBW.out).cellV (i := 1) rfl, (K17.out.belowS HBW.out).cellV (i := 0) rfl⟩
            clear hK K
            refine wpAnyH_ready (rs := [8]) (by kernel_rfl) (by simp) ?_
            refine AllReadyH.cons rfl (fun K hK => ?_) AllReadyH.nil
            refine Tr.wanted_plain rfl ?_
            refine store_mid0 rfl 43 _ _ rfl (wc2.heap.size) 0 #[.slice A1 n1 c1, .map m1] (by rfl) (by rfl) (by have h := there_blk KA6.out; exact h) Tryz.sizeVx (by simp [Value.oneCell']) ?_
            have xK := blk_puts2 (.slice A1 n1 c1) (.map m1) KA6.out
            have xB := bsets HBW.out HL6.out (#[.slice A1 n1 c1, .map m1] : Array Value).toList 0
            have xA7 := KA7.out.farCells (HN6_7.out.symm) (#[.slice A1 n1 c1, .map m1] : Array Value).toList 0
            have xHSE1 := (show SeenG (World.setCells (wc5.alloc (.cells #[.slice none 0 0, .map none] 43)) (wc2.heap.size) 0 (#[.slice A1 n1 c1, .map m1] : Array Value).toList) _ 13 13 _ _ _ from (HSE1.out.setNo KA6.out (blkX_noI KA6.out (viewX_no _ _ _ _)) 0 (.slice A1 n1 c1)).setNo (KA6.out.set_ 0 (.slice A1 n1 c1)) (blkX_noI (KA6.out.set_ 0 (.slice A1 n1 c1)) (viewX_no _ _ _ _)) 1 (.map m1))
            have xHSE2 := (show SeenG (World.setCells (wc5.alloc (.cells #[.slice none 0 0, .map none] 43)) (wc2.heap.size) 0 (#[.slice A1 n1 c1, .map m1] : Array Value).toList) _ 13 13 _ _ _ from (HSE2.out.setNo KA6.out (blkX_noI KA6.out (viewX_no _ _ _ _)) 0 (.slice A1 n1 c1)).setNo (KA6.out.set_ 0 (.slice A1 n1 c1)) (blkX_noI (KA6.out.set_ 0 (.slice A1 n1 c1)) (viewX_no _ _ _ _)) 1 (.map m1))
            obtain ⟨wS8, hwS⟩ : ∃ wS, World.setCells (wc5.alloc (.cells #[.slice none 0 0, .map none] 43)) (wc2.heap.size) 0 (#[.slice A1 n1 c1, .map m1] : Array Value).toList = wS := ⟨_, rfl⟩
            rw [hwS] at xK xB xA7 xHSE1 xHSE2 ⊢
            replace HBW := Lib.hid xB
            replace KA6 := Lib.hid xK
            replace KA7 := Lib.hid xA7
            replace HSE1 := Lib.hid xHSE1
            replace HSE2 := Lib.hid xHSE2
            clear hwS xK xB xA7 xHSE1 xHSE2
            refine hK.out _ _ ?_ (fun hHeld => ?_)
            · (try dsimp only)
              exact ⟨(K13.out.belowS HBW.out).cellV (i := 0) rfl, (K13.out.belowS HBW.out).cellV (i := 1) rfl, (K14.out.belowS HBW.out).cellV (i := 0) rfl, (K16.out.belowS HBW.out).cellV (i := 0) rfl, (K16.out.belowS HBW.out).cellV (i := 1) rfl, (K17.out.belowS HBW.out).cellV (i := 0) rfl⟩
            clear hK K
            refine wpAnyH_ready (rs := [9]) (by kernel_rfl) (by simp) ?_
            refine AllReadyH.cons rfl (fun K hK => ?_) AllReadyH.nil
            refine Tr.wanted_plain rfl ?_
            refine store_mid0 rfl 43 _ _ rfl (wc5.heap.size) 0 #[.slice A2 n2 c2, .map m2] (by rfl) (by rfl) (by have h := there_blk KA7.out; exact h) Tryz.sizeVx (by simp [Value.oneCell']) ?_
            have xK := blk_puts2 (.slice A2 n2 c2) (.map m2) KA7.out
            have xB := bsets HBW.out HL7.out (#[.slice A2 n2 c2, .map m2] : Array Value).toList 0
            have xA6 := KA6.out.farCells (HN6_7.out) (#[.slice A2 n2 c2, .map m2] : Array Value).toList 0
            have xHSE1 := (show SeenG (World.setCells (wS8) (wc5.heap.size) 0 (#[.slice A2 n2 c2, .map m2] : Array Value).toList) _ 13 13 _ _ _ from (HSE1.out.setNo KA7.out (blkX_noI KA7.out (viewX_no _ _ _ _)) 0 (.slice A2 n2 c2)).setNo (KA7.out.set_ 0 (.slice A2 n2 c2)) (blkX_noI (KA7.out.set_ 0 (.slice A2 n2 c2)) (viewX_no _ _ _ _)) 1 (.map m2))
            have xHSE2 := (show SeenG (World.setCells (wS8) (wc5.heap.size) 0 (#[.slice A2 n2 c2, .map m2] : Array Value).toList) _ 13 13 _ _ _ from (HSE2.out.setNo KA7.out (blkX_noI KA7.out (viewX_no _ _ _ _)) 0 (.slice A2 n2 c2)).setNo (KA7.out.set_ 0 (.slice A2 n2 c2)) (blkX_noI (KA7.out.set_ 0 (.slice A2 n2 c2)) (viewX_no _ _ _ _)) 1 (.map m2))
            obtain ⟨wS9, hwS⟩ : ∃ wS, World.setCells wS8 (wc5.heap.size) 0 (#[.slice A2 n2 c2, .map m2] : Array Value).toList = wS := ⟨_, rfl⟩
            rw [hwS] at xK xB xA6 xHSE1 xHSE2 ⊢
            replace HBW := Lib.hid xB
            replace KA7 := Lib.hid xK
            replace KA6 := Lib.hid xA6
            replace HSE1 := Lib.hid xHSE1
            replace HSE2 := Lib.hid xHSE2
            clear hwS xK xB xA6 xHSE1 xHSE2
            refine hK.out _ _ ?_ (fun hHeld => ?_)
            · (try dsimp only)
              exact ⟨(K13.out.belowS HBW.out).cellV (i := 0) rfl, (K13.out.belowS HBW.out).cellV (i := 1) rfl, (K14.out.belowS HBW.out).cellV (i := 0) rfl, (K16.out.belowS HBW.out).cellV (i := 0) rfl, (K16.out.belowS HBW.out).cellV (i := 1) rfl, (K17.out.belowS HBW.out).cellV (i := 0) rfl⟩
            clear hK K
            refine wpAnyH_done (by kernel_rfl) ?_ _
            refine NoPanic.normal ?_
            go_wp2_with fail
            go_meet
            exact ⟨_, _, A1, n1, c1, m1, A2, n2, c2, m2, og1, og2, rfl, rfl, KA6.out, KA7.out, HSE1.out, HSE2.out, HBW.out⟩
          ·
            go_simp
            have HN6_7 := Lib.hid (show wc2.heap.size ≠ wc2.heap.size + 1 from by have h := KA6.out.lt; rw [show ((wc2.alloc (.cells #[.slice none 0 0, .map none] 43))).heap.size = wc2.heap.size + 1 from (show ((wc2.alloc (.cells #[.slice none 0 0, .map none] 43))).heap.size = wc2.heap.size + 1 by simp)] at h; exact Nat.ne_of_lt h)
            have KA7 := Lib.hid (show Blk ((wc2.alloc (.cells #[.slice none 0 0, .map none] 43)).alloc (.cells #[.slice none 0 0, .map none] 43)) (wc2.heap.size + 1) 43 #[.slice none 0 0, .map none] from by have h := Blk.new ((wc2.alloc (.cells #[.slice none 0 0, .map none] 43))) 43 #[.slice none 0 0, .map none]; rw [show ((wc2.alloc (.cells #[.slice none 0 0, .map none] 43))).heap.size = wc2.heap.size + 1 from (show ((wc2.alloc (.cells #[.slice none 0 0, .map none] 43))).heap.size = wc2.heap.size + 1 by simp)] at h; exact h)
            have HL7 := Lib.hid (show Y2.heap.size ≤ wc2.heap.size + 1 from by have h := HBW.out.size; rw [show ((wc2.alloc (.cells #[.slice none 0 0, .map none] 43))).heap.size = wc2.heap.size + 1 from (show ((wc2.alloc (.cells #[.slice none 0 0, .map none] 43))).heap.size = wc2.heap.size + 1 by simp)] at h; exact h)
            have hbA : Below (wc2.alloc (.cells #[.slice none 0 0, .map none] 43)).heap.size (wc2.alloc (.cells #[.slice none 0 0, .map none] 43)) (((wc2.alloc (.cells #[.slice none 0 0, .map none] 43)).alloc (.cells #[.slice none 0 0, .map none] 43))) := bal (bre (wc2.alloc (.cells #[.slice none 0 0, .map none] 43))) (.cells #[.slice none 0 0, .map none] 43)
            replace HBW := Lib.hid (bstep HBW.out hbA)
            replace KA6 := Lib.hid (KA6.out.belowS hbA)
            replace HSE1 := Lib.hid (HSE1.out.below hbA)
            clear hbA
            refine hK.out _ _ ?_ (fun hHeld => ?_)
            · (try dsimp only)
              exact ⟨(K13.out.belowS HBW.out).cellV (i := 0) rfl, (K13.out.belowS HBW.out).cellV (i := 1) rfl, (K14.out.belowS HBW.out).cellV (i := 0) rfl, (K16.out.belowS HBW.out).cellV (i := 0) rfl, (K16.out.belowS HBW.out).cellV (i := 1) rfl, (K17.out.belowS HBW.out).cellV (i := 0) rfl⟩
            clear hK K
            refine wpAnyH_ready (rs := [5]) (by kernel_rfl) (by simp) ?_
            refine AllReadyH.cons rfl (fun K hK => ?_) AllReadyH.nil
            go_simp
            refine (seenG_of (RW := 13) (RH := 13) (l := [d2, ee]) (ns := nodesW [d2, ee]) (bs := bs2) (fk := fk2) (nk := nk2) (n := 3) _ (HM2.out.tree.below HBW.out) (HM2.out.place.below HBW.out) (HM2.out.scene.below HBW.out) (nodesW_ok HUM.out) (fun _ h => h) HKM.out (by rw [nodesW_len]; simp) (by decide)).mono ?_
            rintro e wc5 ⟨v2, og2, rfl, hse, hbA⟩
            obtain ⟨A2, n2, c2, m2, rfl⟩ := hse.form
            have HSE2 := Lib.hid hse
            clear hse
            replace HBW := Lib.hid (bstep HBW.out hbA)
            replace KA6 := Lib.hid (KA6.out.belowS hbA)
            replace KA7 := Lib.hid (KA7.out.belowS hbA)
            replace HSE1 := Lib.hid (HSE1.out.below hbA)
            clear hbA
            go_simp
            refine hK.out _ _ ?_ (fun hHeld => ?_)
            · (try dsimp only)
              exact ⟨(K13.out.belowS HBW.out).cellV (i := 0) rfl, (K13.out.belowS HBW.out).cellV (i := 1) rfl, (K14.out.belowS HBW.out).cellV (i := 0) rfl, (K16.out.belowS HBW.out).cellV (i := 0) rfl, (K16.out.belowS HBW.out).cellV (i := 1) rfl, (K17.out.belowS HBW.out).cellV (i := 0) rfl⟩
            clear hK K
            refine wpAnyH_ready (rs := [8]) (by kernel_rfl) (by simp) ?_
            refine AllReadyH.cons rfl (fun K hK => ?_) AllReadyH.nil
            refine Tr.wanted_plain rfl ?_
            refine store_mid0 rfl 43 _ _ rfl (wc2.heap.size) 0 #[.slice A1 n1 c1, .map m1] (by rfl) (by rfl) (by have h := there_blk KA6.out; exact h) Tryz.sizeVx (by simp [Value.oneCell']) ?_
            have xK := blk_puts2 (.slice A1 n1 c1) (.map m1) KA6.out
            have xB := bsets HBW.out HL6.out (#[.slice A1 n1 c1, .map m1] : Array Value).toList 0
            have xA7 := KA7.out.farCells (HN6_7.out.symm) (#[.slice A1 n1 c1, .map m1] : Array Value).toList 0
            have xHSE1 := (show SeenG (World.setCells (wc5) (wc2.heap.size) 0 (#[.slice A1 n1 c1, .map m1] : Array Value).toList) _ 13 13 _ _ _ from (HSE1.out.setNo KA6.out (blkX_noI KA6.out (viewX_no _ _ _ _)) 0 (.slice A1 n1 c1)).setNo (KA6.out.set_ 0 (.slice A1 n1 c1)) (blkX_noI (KA6.out.set_ 0 (.slice A1 n1 c1)) (viewX_no _ _ _ _)) 1 (.map m1))
            have xHSE2 := (show SeenG (World.setCells (wc5) (wc2.heap.size) 0 (#[.slice A1 n1 c1, .map m1] : Array Value).toList) _ 13 13 _ _ _ from (HSE2.out.setNo KA6.out (blkX_noI KA6.out (viewX_no _ _ _ _)) 0 (.slice A1 n1 c1)).setNo (KA6.out.set_ 0 (.slice A1 n1 c1)) (blkX_noI (KA6.out.set_ 0 (.slice A1 n1 c1)) (viewX_no _ _ _ _)) 1 (.map m1))
            obtain ⟨wS8, hwS⟩ : ∃ wS, World.setCells wc5 (wc2.heap.size) 0 (#[.slice A1 n1 c1, .map m1] : Array Value).toList = wS := ⟨_, rfl⟩
            rw [hwS] at xK xB xA7 xHSE1 xHSE2 ⊢
            replace HBW := Lib.hid xB
            replace KA6 := Lib.hid xK
            replace KA7 := Lib.hid xA7
            replace HSE1 := Lib.hid xHSE1
            replace HSE2 := Lib.hid xHSE2
            clear hwS xK xB xA7 xHSE1 xHSE2
            refine hK.out _ _ ?_ (fun hHeld => ?_)
            · (try dsimp only)
              exact ⟨(K13.out.belowS HBW.out).cellV (i := 0) rfl, (K13.out.belowS HBW.out).cellV (i := 1) rfl, (K14.out.belowS HBW.out).cellV (i := 0) rfl, (K16.out.belowS HBW.out).cellV (i := 0) rfl, (K16.out.belowS HBW.out).cellV (i := 1) rfl, (K17.out.belowS HBW.out).cellV (i := 0) rfl⟩
            clear hK K
            refine wpAnyH_ready (rs := [9]) (by kernel_rfl) (by simp) ?_
            refine AllReadyH.cons rfl (fun K hK => ?_) AllReadyH.nil
            refine Tr.wanted_plain rfl ?_
            refine store_mid0 rfl 43 _ _ rfl (wc2.heap.size + 1) 0 #[.slice A2 n2 c2, .map m2] (by rfl) (by rfl) (by have h := there_blk KA7.out; exact h) Tryz.sizeVx (by simp [Value.oneCell']) ?_
            have xK := blk_puts2 (.slice A2 n2 c2) (.map m2) KA7.out
            have xB := bsets HBW.out HL7.out (#[.slice A2 n2 c2, .map m2] : Array Value).toList 0
            have xA6 := KA6.out.farCells (HN6_7.out) (#[.slice A2 n2 c2, .map m2] : Array Value).toList 0
            have xHSE1 := (show SeenG (World.setCells (wS8) (wc2.heap.size + 1) 0 (#[.slice A2 n2 c2, .map m2] : Array Value).toList) _ 13 13 _ _ _ from (HSE1.out.setNo KA7.out (blkX_noI KA7.out (viewX_no _ _ _ _)) 0 (.slice A2 n2 c2)).setNo (KA7.out.set_ 0 (.slice A2 n2 c2)) (blkX_noI (KA7.out.set_ 0 (.slice A2 n2 c2)) (viewX_no _ _ _ _)) 1 (.map m2))
            have xHSE2 := (show SeenG (World.setCells (wS8) (wc2.heap.size + 1) 0 (#[.slice A2 n2 c2, .map m2] : Array Value).toList) _ 13 13 _ _ _ from (HSE2.out.setNo KA7.out (blkX_noI KA7.out (viewX_no _ _ _ _)) 0 (.slice A2 n2 c2)).setNo (KA7.out.set_ 0 (.slice A2 n2 c2)) (blkX_noI (KA7.out.set_ 0 (.slice A2 n2 c2)) (viewX_no _ _ _ _)) 1 (.map m2))
            obtain ⟨wS9, hwS⟩ : ∃ wS, World.setCells wS8 (wc2.heap.size + 1) 0 (#[.slice A2 n2 c2, .map m2] : Array Value).toList = wS := ⟨_, rfl⟩
            rw [hwS] at xK xB xA6 xHSE1 xHSE2 ⊢
            replace HBW := Lib.hid xB
            replace KA7 := Lib.hid xK
            replace KA6 := Lib.hid xA6
            replace HSE1 := Lib.hid xHSE1
            replace HSE2 := Lib.hid xHSE2
            clear hwS xK xB xA6 xHSE1 xHSE2
            refine hK.out _ _ ?_ (fun hHeld => ?_)
            · (try dsimp only)
              exact ⟨(K13.out.belowS HBW.out).cellV (i := 0) rfl, (K13.out.belowS HBW.out).cellV (i := 1) rfl, (K14.out.belowS HBW.out).cellV (i := 0) rfl, (K16.out.belowS HBW.out).cellV (i := 0) rfl, (K16.out.belowS HBW.out).cellV (i := 1) rfl, (K17.out.belowS HBW.out).cellV (i := 0) rfl⟩
            clear hK K
            refine wpAnyH_done (by kernel_rfl) ?_ _
            refine NoPanic.normal ?_
            go_wp2_with fail
            go_meet
            exact ⟨_, _, A1, n1, c1, m1, A2, n2, c2, m2, og1, og2, rfl, rfl, KA6.out, KA7.out, HSE1.out, HSE2.out, HBW.out⟩
        ·
          go_simp
          have KA7 := Lib.hid (show Blk (wc2.alloc (.cells #[.slice none 0 0, .map none] 43)) (wc2.heap.size) 43 #[.slice none 0 0, .map none] from Blk.new wc2 43 #[.slice none 0 0, .map none])
          have HL7 := Lib.hid (show Y2.heap.size ≤ wc2.heap.size from HBW.out.size)
          have hbA : Below wc2.heap.size wc2 ((wc2.alloc (.cells #[.slice none 0 0, .map none] 43))) := bal (bre wc2) (.cells #[.slice none 0 0, .map none] 43)
          replace HBW := Lib.hid (bstep HBW.out hbA)
          replace HSE1 := Lib.hid (HSE1.out.below hbA)
          clear hbA
          refine hK.out _ _ ?_ (fun hHeld => ?_)
          · (try dsimp only)
            exact ⟨(K13.out.belowS HBW.out).cellV (i := 0) rfl, (K13.out.belowS HBW.out).cellV (i := 1) rfl, (K14.out.belowS HBW.out).cellV (i := 0) rfl, (K16.out.belowS HBW.out).cellV (i := 0) rfl, (K16.out.belowS HBW.out).cellV (i := 1) rfl, (K17.out.belowS HBW.out).cellV (i := 0) rfl⟩
          clear hK K
          refine wpAnyH_ready (rs := [5, 6]) (by kernel_rfl) (by simp) ?_
          refine AllReadyH.cons rfl (fun K hK => ?_) (AllReadyH.cons rfl (fun K hK => ?_) AllReadyH.nil)
          ·
            go_simp
            refine (seenG_of (RW := 13) (RH := 13) (l := [d2, ee]) (ns := nodesW [d2, ee]) (bs := bs2) (fk := fk2) (nk := nk2) (n := 3) _ (HM2.out.tree.below HBW.out) (HM2.out.place.below HBW.out) (HM2.out.scene.below HBW.out) (nodesW_ok HUM.out) (fun _ h => h) HKM.out (by rw [nodesW_len]; simp) (by decide)).mono ?_
            rintro e wc5 ⟨v2, og2, rfl, hse, hbA⟩
            obtain ⟨A2, n2, c2, m2, rfl⟩ := hse.form
            have HSE2 := Lib.hid hse
            clear hse
            replace HBW := Lib.hid (bstep HBW.out hbA)
            replace KA7 := Lib.hid (KA7.out.belowS hbA)
            replace HSE1 := Lib.hid (HSE1.out.below hbA)
            clear hbA
            go_simp
            refine hK.out _ _ ?_ (fun hHeld => ?_)
            · (try dsimp only)
              exact ⟨(K13.out.belowS HBW.out).cellV (i := 0) rfl, (K13.out.belowS HBW.out).cellV (i := 1) rfl, (K14.out.belowS HBW.out).cellV (i := 0) rfl, (K16.out.belowS HBW.out).cellV (i := 0) rfl, (K16.out.belowS HBW.out).cellV (i := 1) rfl, (K17.out.belowS HBW.out).cellV (i := 0) rfl⟩
            clear hK K
            refine wpAnyH_ready (rs := [6]) (by kernel_rfl) (by simp) ?_
            refine AllReadyH.cons rfl (fun K hK => ?_) AllReadyH.nil
            go_simp
            have HN7_6 := Lib.hid (Nat.ne_of_lt KA7.out.lt)
            have KA6 := Lib.hid (show Blk (wc5.alloc (.cells #[.slice none 0 0, .map none] 43)) (wc5.heap.size) 43 #[.slice none 0 0, .map none] from Blk.new wc5 43 #[.slice none 0 0, .map none])
            have HL6 := Lib.hid (show Y2.heap.size ≤ wc5.heap.size from HBW.out.size)
            have hbA : Below wc5.heap.size wc5 ((wc5.alloc (.cells #[.slice none 0 0, .map none] 43))) := bal (bre wc5) (.cells #[.slice none 0 0, .map none] 43)
            replace HBW := Lib.hid (bstep HBW.out hbA)
            replace KA7 := Lib.hid (KA7.out.belowS hbA)
            replace HSE1 := Lib.hid (HSE1.out.below hbA)
            replace HSE2 := Lib.hid (HSE2.out.below hbA)
            clear hbA
            refine hK.out _ _ ?_ (fun hHeld => ?_)
            · (try dsimp only)
              exact ⟨(K13.out.belowS HBW.out).cellV (i := 0) rfl, (K13.out.belowS HBW.out).cellV (i := 1) rfl, (K14.out.belowS HBW.out).cellV (i := 0) rfl, (K16.out.belowS HBW.out).cellV (i := 0) rfl, (K16.out.belowS HBW.out).cellV (i := 1) rfl, (K17.out.belowS HBW.out).cellV (i := 0) rfl⟩
            clear hK K
            refine wpAnyH_ready (rs := [8]) (by kernel_rfl) (by simp) ?_
            refine AllReadyH.cons rfl (fun K hK => ?_) AllReadyH.nil
            refine Tr.wanted_plain rfl ?_
            refine store_mid0 rfl 43 _ _ rfl (wc5.heap.size) 0 #[.slice A1 n1 c1, .map m1] (by rfl) (by rfl) (by have h := there_blk KA6.out; exact h) Tryz.sizeVx (by simp [Value.oneCell']) ?_
            have xK := blk_puts2 (.slice A1 n1 c1) (.map m1) KA6.out
            have xB := bsets HBW.out HL6.out (#[.slice A1 n1 c1, .map m1] : Array Value).toList 0
            have xA7 := KA7.out.farCells (HN7_6.out) (#[.slice A1 n1 c1, .map m1] : Array Value).toList 0
            have xHSE1 := (show SeenG (World.setCells (wc5.alloc (.cells #[.slice none 0 0, .map none] 43)) (wc5.heap.size) 0 (#[.slice A1 n1 c1, .map m1] : Array Value).toList) _ 13 13 _ _ _ from (HSE1.out.setNo KA6.out (blkX_noI KA6.out (viewX_no _ _ _ _)) 0 (.slice A1 n1 c1)).setNo (KA6.out.set_ 0 (.slice A1 n1 c1)) (blkX_noI (KA6.out.set_ 0 (.slice A1 n1 c1)) (viewX_no _ _ _ _)) 1 (.map m1))
            have xHSE2 := (show SeenG (World.setCells (wc5.alloc (.cells #[.slice none 0 0, .map none] 43)) (wc5.heap.size) 0 (#[.slice A1 n1 c1, .map m1] : Array Value).toList) _ 13 13 _ _ _ from (HSE2.out.setNo KA6.out (blkX_noI KA6.out (viewX_no _ _ _ _)) 0 (.slice A1 n1 c1)).setNo (KA6.out.set_ 0 (.slice A1 n1 c1)) (blkX_noI (KA6.out.set_ 0 (.slice A1 n1 c1)) (viewX_no _ _ _ _)) 1 (.map m1))
            obtain ⟨wS8, hwS⟩ : ∃ wS, World.setCells (wc5.alloc (.cells #[.slice none 0 0, .map none] 43)) (wc5.heap.size) 0 (#[.slice A1 n1 c1, .map m1] : Array Value).toList = wS := ⟨_, rfl⟩
            rw [hwS] at xK xB xA7 xHSE1 xHSE2 ⊢
            replace HBW := Lib.hid xB
            replace KA6 := Lib.hid xK
            replace KA7 := Lib.hid xA7
            replace HSE1 := Lib.hid xHSE1
            replace HSE2 := Lib.hid xHSE2
            clear hwS xK xB xA7 xHSE1 xHSE2
            refine hK.out _ _ ?_ (fun hHeld => ?_)
            · (try dsimp only)
              exact ⟨(K13.out.belowS HBW.out).cellV (i := 0) rfl, (K13.out.belowS HBW.out).cellV (i := 1) rfl, (K14.out.belowS HBW.out).cellV (i := 0) rfl, (K16.out.belowS HBW.out).cellV (i := 0) rfl, (K16.out.belowS HBW.out).cellV (i := 1) rfl, (K17.out.belowS HBW.out).cellV (i := 0) rfl⟩
            clear hK K
            refine wpAnyH_ready (rs := [9]) (by kernel_rfl) (by simp) ?_
            refine AllReadyH.cons rfl (fun K hK => ?_) AllReadyH.nil
            refine Tr.wanted_plain rfl ?_
            refine store_mid0 rfl 43 _ _ rfl (wc2.heap.size) 0 #[.slice A2 n2 c2, .map m2] (by rfl) (by rfl) (by have h := there_blk KA7.out; exact h) Tryz.sizeVx (by simp [Value.oneCell']) ?_
            have xK := blk_puts2 (.slice A2 n2 c2) (.map m2) KA7.out
            have xB := bsets HBW.out HL7.out (#[.slice A2 n2 c2, .map m2] : Array Value).toList 0
            have xA6 := KA6.out.farCells (HN7_6.out.symm) (#[.slice A2 n2 c2, .map m2] : Array Value).toList 0
            have xHSE1 := (show SeenG (World.setCells (wS8) (wc2.heap.size) 0 (#[.slice A2 n2 c2, .map m2] : Array Value).toList) _ 13 13 _ _ _ from (HSE1.out.setNo KA7.out (blkX_noI KA7.out (viewX_no _ _ _ _)) 0 (.slice A2 n2 c2)).setNo (KA7.out.set_ 0 (.slice A2 n2 c2)) (blkX_noI (KA7.out.set_ 0 (.slice A2 n2 c2)) (viewX_no _ _ _ _)) 1 (.map m2))
            have xHSE2 := (show SeenG (World.setCells (wS8) (wc2.heap.size) 0 (#[.slice A2 n2 c2, .map m2] : Array Value).toList) _ 13 13 _ _ _ from (HSE2.out.setNo KA7.out (blkX_noI KA7.out (viewX_no _ _ _ _)) 0 (.slice A2 n2 c2)).setNo (KA7.out.set_ 0 (.slice A2 n2 c2)) (blkX_noI (KA7.out.set_ 0 (.slice A2 n2 c2)) (viewX_no _ _ _ _)) 1 (.map m2))
            obtain ⟨wS9, hwS⟩ : ∃ wS, World.setCells wS8 (wc2.heap.size) 0 (#[.slice A2 n2 c2, .map m2] : Array Value).toList = wS := ⟨_, rfl⟩
            rw [hwS] at xK xB xA6 xHSE1 xHSE2 ⊢
            replace HBW := Lib.hid xB
            replace KA7 := Lib.hid xK
            replace KA6 := Lib.hid xA6
            replace HSE1 := Lib.hid xHSE1
            replace HSE2 := Lib.hid xHSE2
            clear hwS xK xB xA6 xHSE1 xHSE2
            refine hK.out _ _ ?_ (fun hHeld => ?_)
            · (try dsimp only)
              exact ⟨(K13.out.belowS HBW.out).cellV (i := 0) rfl, (K13.out.belowS HBW.out).cellV (i := 1) rfl, (K14.out.belowS HBW.out).cellV (i := 0) rfl, (K16.out.belowS HBW.out).cellV (i := 0) rfl, (K16.out.belowS HBW.out).cellV (i := 1) rfl, (K17.out.belowS HBW.out).cellV (i := 0) rfl⟩
            clear hK K
            refine wpAnyH_done (by kernel_rfl) ?_ _
            refine NoPanic.normal ?_
            go_wp2_with fail
            go_meet
            exact ⟨_, _, A1, n1, c1, m1, A2, n2, c2, m2, og1, og2, rfl, rfl, KA6.out, KA7.out, HSE1.out, HSE2.out, HBW.out⟩
          ·
            go_simp
            have HN7_6 := Lib.hid (show wc2.heap.size ≠ wc2.heap.size + 1 from by have h := KA7.out.lt; rw [show ((wc2.alloc (.cells #[.slice none 0 0, .map none] 43))).heap.size = wc2.heap.size + 1 from (show ((wc2.alloc (.cells #[.slice none 0 0, .map none] 43))).heap.size = wc2.heap.size + 1 by simp)] at h; exact Nat.ne_of_lt h)
            have KA6 := Lib.hid (show Blk ((wc2.alloc (.cells #[.slice none 0 0, .map none] 43)).alloc (.cells #[.slice none 0 0, .map none] 43)) (wc2.heap.size + 1) 43 #[.slice none 0 0, .map none] from by have h := Blk.new ((wc2.alloc (.cells #[.slice none 0 0, .map none] 43))) 43 #[.slice none 0 0, .map none]; rw [show ((wc2.alloc (.cells #[.slice none 0 0, .map none] 43))).heap.size = wc2.heap.size + 1 from (show ((wc2.alloc (.cells #[.slice none 0 0, .map none] 43))).heap.size = wc2.heap.size + 1 by simp)] at h; exact h)
            have HL6 := Lib.hid (show Y2.heap.size ≤ wc2.heap.size + 1 from by have h := HBW.out.size; rw [show ((wc2.alloc (.cells #[.slice none 0 0, .map none] 43))).heap.size = wc2.heap.size + 1 from (show ((wc2.alloc (.cells #[.slice none 0 0, .map none] 43))).heap.size = wc2.heap.size + 1 by simp)] at h; exact h)
            have hbA : Below (wc2.alloc (.cells #[.slice none 0 0, .map none] 43)).heap.size (wc2.alloc (.cells #[.slice none 0 0, .map none] 43)) (((wc2.alloc (.cells #[.slice none 0 0, .map none] 43)).alloc (.cells #[.slice none 0 0, .map none] 43))) := bal (bre (wc2.alloc (.cells #[.slice none 0 0, .map none] 43))) (.cells #[.slice none 0 0, .map none] 43)
            replace HBW := Lib.hid (bstep HBW.out hbA)
            replace KA7 := Lib.hid (KA7.out.belowS hbA)
            replace HSE1 := Lib.hid (HSE1.out.below hbA)
            clear hbA
            refine hK.out _ _ ?_ (fun hHeld => ?_)
            · (try dsimp only)
              exact ⟨(K13.out.belowS HBW.out).cellV (i := 0) rfl, (K13.out.belowS HBW.out).cellV (i := 1) rfl, (K14.out.belowS HBW.out).cellV (i := 0) rfl, (K16.out.belowS HBW.out).cellV (i := 0) rfl, (K16.out.belowS HBW.out).cellV (i := 1) rfl, (K17.out.belowS HBW.out).cellV (i := 0) rfl⟩
            clear hK K
            refine wpAnyH_ready (rs := [5]) (by kernel_rfl) (by simp) ?_
            refine AllReadyH.cons rfl (fun K hK => ?_) AllReadyH.nil
            go_simp
            refine (seenG_of (RW := 13) (RH := 13) (l := [d2, ee]) (ns := nodesW [d2, ee]) (bs := bs2) (fk := fk2) (nk := nk2) (n := 3) _ (HM2.out.tree.below HBW.out) (HM2.out.place.below HBW.out) (HM2.out.scene.below HBW.out) (nodesW_ok HUM.out) (fun _ h => h) HKM.out (by rw [nodesW_len]; simp) (by decide)).mono ?_
            rintro e wc5 ⟨v2, og2, rfl, hse, hbA⟩
            obtain ⟨A2, n2, c2, m2, rfl⟩ := hse.form
            have HSE2 := Lib.hid hse
            clear hse
            replace HBW := Lib.hid (bstep HBW.out hbA)
            replace KA7 := Lib.hid (KA7.out.belowS hbA)
            replace KA6 := Lib.hid (KA6.out.belowS hbA)
            replace HSE1 := Lib.hid (HSE1.out.below hbA)
            clear hbA
            go_simp
            refine hK.out _ _ ?_ (fun hHeld => ?_)
            · (try dsimp only)
              exact ⟨(K13.out.belowS HBW.out).cellV (i := 0) rfl, (K13.out.belowS HBW.out).cellV (i := 1) rfl, (K14.out.belowS HBW.out).cellV (i := 0) rfl, (K16.out.belowS HBW.out).cellV (i := 0) rfl, (K16.out.belowS HBW.out).cellV (i := 1) rfl, (K17.out.belowS HBW.out).cellV (i := 0) rfl⟩
            clear hK K
            refine wpAnyH_ready (rs := [8]) (by kernel_rfl) (by simp) ?_
            refine AllReadyH.cons rfl (fun K hK => ?_) AllReadyH.nil
            refine Tr.wanted_plain rfl ?_
            refine store_mid0 rfl 43 _ _ rfl (wc2.heap.size + 1) 0 #[.slice A1 n1 c1, .map m1] (by rfl) (by rfl) (by have h := there_blk KA6.out; exact h) Tryz.sizeVx (by simp [Value.oneCell']) ?_
            have xK := blk_puts2 (.slice A1 n1 c1) (.map m1) KA6.out
            have xB := bsets HBW.out HL6.out (#[.slice A1 n1 c1, .map m1] : Array Value).toList 0
            have xA7 := KA7.out.farCells (HN7_6.out) (#[.slice A1 n1 c1, .map m1] : Array Value).toList 0
            have xHSE1 := (show SeenG (World.setCells (wc5) (wc2.heap.size + 1) 0 (#[.slice A1 n1 c1, .map m1] : Array Value).toList) _ 13 13 _ _ _ from (HSE1.out.setNo KA6.out (blkX_noI KA6.out (viewX_no _ _ _ _)) 0 (.slice A1 n1 c1)).setNo (KA6.out.set_ 0 (.slice A1 n1 c1)) (blkX_noI (KA6.out.set_ 0 (.slice A1 n1 c1)) (viewX_no _ _ _ _)) 1 (.map m1))
            have xHSE2 := (show SeenG (World.setCells (wc5) (wc2.heap.size + 1) 0 (#[.slice A1 n1 c1, .map m1] : Array Value).toList) _ 13 13 _ _ _ from (HSE2.out.setNo KA6.out (blkX_noI KA6.out (viewX_no _ _ _ _)) 0 (.slice A1 n1 c1)).setNo (KA6.out.set_ 0 (.slice A1 n1 c1)) (blkX_noI (KA6.out.set_ 0 (.slice A1 n1 c1)) (viewX_no _ _ _ _)) 1 (.map m1))
            obtain ⟨wS8, hwS⟩ : ∃ wS, World.setCells wc5 (wc2.heap.size + 1) 0 (#[.slice A1 n1 c1, .map m1] : Array Value).toList = wS := ⟨_, rfl⟩
            rw [hwS] at xK xB xA7 xHSE1 xHSE2 ⊢
            replace HBW := Lib.hid xB
            replace KA6 := Lib.hid xK
            replace KA7 := Lib.hid xA7
            replace HSE1 := Lib.hid xHSE1
            replace HSE2 := Lib.hid xHSE2
            clear hwS xK xB xA7 xHSE1 xHSE2
            refine hK.out _ _ ?_ (fun hHeld => ?_)
            · (try dsimp only)
              exact ⟨(K13.out.belowS HBW.out).cellV (i := 0) rfl, (K13.out.belowS HBW.out).cellV (i := 1) rfl, (K14.out.belowS HBW.out).cellV (i := 0) rfl, (K16.out.belowS HBW.out).cellV (i := 0) rfl, (K16.out.belowS HBW.out).cellV (i := 1) rfl, (K17.out.belowS HBW.out).cellV (i := 0) rfl⟩
            clear hK K
            refine wpAnyH_ready (rs := [9]) (by kernel_rfl) (by simp) ?_
            refine AllReadyH.cons rfl (fun K hK => ?_) AllReadyH.nil
            refine Tr.wanted_plain rfl ?_
            refine store_mid0 rfl 43 _ _ rfl (wc2.heap.size) 0 #[.slice A2 n2 c2, .map m2] (by rfl) (by rfl) (by have h := there_blk KA7.out; exact h) Tryz.sizeVx (by simp [Value.oneCell']) ?_
            have xK := blk_puts2 (.slice A2 n2 c2) (.map m2) KA7.out
            have xB := bsets HBW.out HL7.out (#[.slice A2 n2 c2, .map m2] : Array Value).toList 0
            have xA6 := KA6.out.farCells (HN7_6.out.symm) (#[.slice A2 n2 c2, .map m2] : Array Value).toList 0
            have xHSE1 := (show SeenG (World.setCells (wS8) (wc2.heap.size) 0 (#[.slice A2 n2 c2, .map m2] : Array Value).toList) _ 13 13 _ _ _ from (HSE1.out.setNo KA7.out (blkX_noI KA7.out (viewX_no _ _ _ _)) 0 (.slice A2 n2 c2)).setNo (KA7.out.set_ 0 (.slice A2 n2 c2)) (blkX_noI (KA7.out.set_ 0 (.slice A2 n2 c2)) (viewX_no _ _ _ _)) 1 (.map m2))
            have xHSE2 := (show SeenG (World.setCells (wS8) (wc2.heap.size) 0 (#[.slice A2 n2 c2, .map m2] : Array Value).toList) _ 13 13 _ _ _ from (HSE2.out.setNo KA7.out (blkX_noI KA7.out (viewX_no _ _ _ _)) 0 (.slice A2 n2 c2)).setNo (KA7.out.set_ 0 (.slice A2 n2 c2)) (blkX_noI (KA7.out.set_ 0 (.slice A2 n2 c2)) (viewX_no _ _ _ _)) 1 (.map m2))
            obtain ⟨wS9, hwS⟩ : ∃ wS, World.setCells wS8 (wc2.heap.size) 0 (#[.slice A2 n2 c2, .map m2] : Array Value).toList = wS := ⟨_, rfl⟩
            rw [hwS] at xK xB xA6 xHSE1 xHSE2 ⊢
            replace HBW := Lib.hid xB
            replace KA7 := Lib.hid xK
            replace KA6 := Lib.hid xA6
            replace HSE1 := Lib.hid xHSE1
            replace HSE2 := Lib.hid xHSE2
            clear hwS xK xB xA6 xHSE1 xHSE2
            refine hK.out _ _ ?_ (fun hHeld => ?_)
            · (try dsimp only)
              exact ⟨(K13.out.belowS HBW.out).cellV (i := 0) rfl, (K13.out.belowS HBW.out).cellV (i := 1) rfl, (K14.out.belowS HBW.out).cellV (i := 0) rfl, (K16.out.belowS HBW.out).cellV (i := 0) rfl, (K16.out.belowS HBW.out).cellV (i := 1) rfl, (K17.out.belowS HBW.out).cellV (i := 0) rfl⟩
            clear hK K
            refine wpAnyH_done (by kernel_rfl) ?_ _
            refine NoPanic.normal ?_
            go_wp2_with fail
            go_meet
            exact ⟨_, _, A1, n1, c1, m1, A2, n2, c2, m2, og1, og2, rfl, rfl, KA6.out, KA7.out, HSE1.out, HSE2.out, HBW.out⟩
      ·
        go_simp
        have KA6 := Lib.hid (show Blk (Y2.alloc (.cells #[.slice none 0 0, .map none] 43)).drew (Y2.heap.size) 43 #[.slice none 0 0, .map none] from Blk.new Y2.drew 43 #[.slice none 0 0, .map none])
        have HL6 := Lib.hid (show Y2.heap.size ≤ Y2.heap.size from HBW.out.size)
        have hbA : Below Y2.drew.heap.size Y2.drew ((Y2.alloc (.cells #[.slice none 0 0, .map none] 43)).drew) := bal (bre Y2.drew) (.cells #[.slice none 0 0, .map none] 43)
        replace HBW := Lib.hid (bstep HBW.out hbA)
        clear hbA
        refine hK.out _ _ ?_ (fun hHeld => ?_)
        · (try dsimp only)
          exact ⟨(K13.out.belowS HBW.out).cellV (i := 0) rfl, (K13.out.belowS HBW.out).cellV (i := 1) rfl, (K14.out.belowS HBW.out).cellV (i := 0) rfl, (K16.out.belowS HBW.out).cellV (i := 0) rfl, (K16.out.belowS HBW.out).cellV (i := 1) rfl, (K17.out.belowS HBW.out).cellV (i := 0) rfl⟩
        clear hK K
        refine wpAnyH_ready (rs := [2, 7]) (by kernel_rfl) (by simp) ?_
        refine AllReadyH.cons rfl (fun K hK => ?_) (AllReadyH.cons rfl (fun K hK => ?_) AllReadyH.nil)
        ·
          go_simp
          refine (seenG_of (RW := 13) (RH := 13) (l := [d1, ee]) (ns := nodesW [d1, ee]) (bs := bs) (fk := fk) (nk := nk) (n := 3) _ (HM1.out.tree.below HBW.out) (HM1.out.place.below HBW.out) (HM1.out.scene.below HBW.out) (nodesW_ok HUL.out) (fun _ h => h) HKL.out (by rw [nodesW_len]; simp) (by decide)).mono ?_
          rintro e wc2 ⟨v1, og1, rfl, hse, hbA⟩
          obtain ⟨A1, n1, c1, m1, rfl⟩ := hse.form
          have HSE1 := Lib.hid hse
          clear hse
          replace HBW := Lib.hid (bstep HBW.out hbA)
          replace KA6 := Lib.hid (KA6.out.belowS hbA)
          clear hbA
          go_simp
          refine hK.out _ _ ?_ (fun hHeld => ?_)
          · (try dsimp only)
            exact ⟨(K13.out.belowS HBW.out).cellV (i := 0) rfl, (K13.out.belowS HBW.out).cellV (i := 1) rfl, (K14.out.belowS HBW.out).cellV (i := 0) rfl, (K16.out.belowS HBW.out).cellV (i := 0) rfl, (K16.out.belowS HBW.out).cellV (i := 1) rfl, (K17.out.belowS HBW.out).cellV (i := 0) rfl⟩
          clear hK K
          refine wpAnyH_ready (rs := [5, 7]) (by kernel_rfl) (by simp) ?_
          refine AllReadyH.cons rfl (fun K hK => ?_) (AllReadyH.cons rfl (fun K hK => ?_) AllReadyH.nil)
          ·
            go_simp
            refine (seenG_of (RW := 13) (RH := 13) (l := [d2, ee]) (ns := nodesW [d2, ee]) (bs := bs2) (fk := fk2) (nk := nk2) (n := 3) _ (HM2.out.tree.below HBW.out) (HM2.out.place.below HBW.out) (HM2.out.scene.below HBW.out) (nodesW_ok HUM.out) (fun _ h => h) HKM.out (by rw [nodesW_len]; simp) (by decide)).mono ?_
            rintro e wc5 ⟨v2, og2, rfl, hse, hbA⟩
            obtain ⟨A2, n2, c2, m2, rfl⟩ := hse.form
            have HSE2 := Lib.hid hse
            clear hse
            replace HBW := Lib.hid (bstep HBW.out hbA)
            replace KA6 := Lib.hid (KA6.out.belowS hbA)
            replace HSE1 := Lib.hid (HSE1.out.below hbA)
            clear hbA
            go_simp
            refine hK.out _ _ ?_ (fun hHeld => ?_)
            · (try dsimp only)
              exact ⟨(K13.out.belowS HBW.out).cellV (i := 0) rfl, (K13.out.belowS HBW.out).cellV (i := 1) rfl, (K14.out.belowS HBW.out).cellV (i := 0) rfl, (K16.out.belowS HBW.out).cellV (i := 0) rfl, (K16.out.belowS HBW.out).cellV (i := 1) rfl, (K17.out.belowS HBW.out).cellV (i := 0) rfl⟩
            clear hK K
            refine wpAnyH_ready (rs := [7]) (by kernel_rfl) (by simp) ?_
            refine AllReadyH.cons rfl (fun K hK => ?_) AllReadyH.nil
            go_simp
            have HN6_7 := Lib.hid (Nat.ne_of_lt KA6.out.lt)
            have KA7 := Lib.hid (show Blk (wc5.alloc (.cells #[.slice none 0 0, .map none] 43)) (wc5.heap.size) 43 #[.slice none 0 0, .map none] from Blk.new wc5 43 #[.slice none 0 0, .map none])
            have HL7 := Lib.hid (show Y2.heap.size ≤ wc5.heap.size from HBW.out.size)
            have hbA : Below wc5.heap.size wc5 ((wc5.alloc (.cells #[.slice none 0 0, .map none] 43))) := bal (bre wc5) (.cells #[.slice none 0 0, .map none] 43)
            replace HBW := Lib.hid (bstep HBW.out hbA)
            replace KA6 := Lib.hid (KA6.out.belowS hbA)
            replace HSE1 := Lib.hid (HSE1.out.below hbA)
            replace HSE2 := Lib.hid (HSE2.out.below hbA)
            clear hbA
            refine hK.out _ _ ?_ (fun hHeld => ?_)
            · (try dsimp only)
              exact ⟨(K13.out.belowS HBW.out).cellV (i := 0) rfl, (K13.out.belowS HBW.out).cellV (i := 1) rfl, (K14.out.belowS HBW.out).cellV (i := 0) rfl, (K16.out.belowS HBW.out).cellV (i := 0) rfl, (K16.out.belowS HBW.out).cellV (i := 1) rfl, (K17.out.belowS HBW.out).cellV (i := 0) rfl⟩
            clear hK K
            refine wpAnyH_ready (rs := [8]) (by kernel_rfl) (by simp) ?_
            refine AllReadyH.cons rfl (fun K hK => ?_) AllReadyH.nil
            refine Tr.wanted_plain rfl ?_
            refine store_mid0 rfl 43 _ _ rfl (Y2.heap.size) 0 #[.slice A1 n1 c1, .map m1] (by rfl) (by rfl) (by have h := there_blk KA6.out; exact h) Tryz.sizeVx (by simp [Value.oneCell']) ?_
            have xK := blk_puts2 (.slice A1 n1 c1) (.map m1) KA6.out
            have xB := bsets HBW.out HL6.out (#[.slice A1 n1 c1, .map m1] : Array Value).toList 0
            have xA7 := KA7.out.farCells (HN6_7.out.symm) (#[.slice A1 n1 c1, .map m1] : Array Value).toList 0
            have xHSE1 := (show SeenG (World.setCells (wc5.alloc (.cells #[.slice none 0 0, .map none] 43)) (Y2.heap.size) 0 (#[.slice A1 n1 c1, .map m1] : Array Value).toList) _ 13 13 _ _ _ from (HSE1.out.setNo KA6.out (blkX_noI KA6.out (viewX_no _ _ _ _)) 0 (.slice A1 n1 c1)).setNo (KA6.out.set_ 0 (.slice A1 n1 c1)) (blkX_noI (KA6.out.set_ 0 (.slice A1 n1 c1)) (viewX_no _ _ _ _)) 1 (.map m1))
            have xHSE2 := (show SeenG (World.setCells (wc5.alloc (.cells #[.slice none 0 0, .map none] 43)) (Y2.heap.size) 0 (#[.slice A1 n1 c1, .map m1] : Array Value).toList) _ 13 13 _ _ _ from (HSE2.out.setNo KA6.out (blkX_noI KA6.out (viewX_no _ _ _ _)) 0 (.slice A1 n1 c1)).setNo (KA6.out.set_ 0 (.slice A1 n1 c1)) (blkX_noI (KA6.out.set_ 0 (.slice A1 n1 c1)) (viewX_no _ _ _ _)) 1 (.map m1))
            obtain ⟨wS8, hwS⟩ : ∃ wS, World.setCells (wc5.alloc (.cells #[.slice none 0 0, .map none] 43)) (Y2.heap.size) 0 (#[.slice A1 n1 c1, .map m1] : Array Value).toList = wS := ⟨_, rfl⟩
            rw [hwS] at xK xB xA7 xHSE1 xHSE2 ⊢
            replace HBW := Lib.hid xB
            replace KA6 := Lib.hid xK
            replace KA7 := Lib.hid xA7
            replace HSE1 := Lib.hid xHSE1
            replace HSE2 := Lib.hid xHSE2
            clear hwS xK xB xA7 xHSE1 xHSE2
            refine hK.out _ _ ?_ (fun hHeld => ?_)
            · (try dsimp only)
              exact ⟨(K13.out.belowS HBW.out).cellV (i := 0) rfl, (K13.out.belowS HBW.out).cellV (i := 1) rfl, (K14.out.belowS HBW.out).cellV (i := 0) rfl, (K16.out.belowS HBW.out).cellV (i := 0) rfl, (K16.out.belowS HBW.out).cellV (i := 1) rfl, (K17.out.belowS HBW.out).cellV (i := 0) rfl⟩
            clear hK K
            refine wpAnyH_ready (rs := [9]) (by kernel_rfl) (by simp) ?_
            refine AllReadyH.cons rfl (fun K hK => ?_) AllReadyH.nil
            refine Tr.wanted_plain rfl ?_
            refine store_mid0 rfl 43 _ _ rfl (wc5.heap.size) 0 #[.slice A2 n2 c2, .map m2] (by rfl) (by rfl) (by have h := there_blk KA7.out; exact h) Tryz.sizeVx (by simp [Value.oneCell']) ?_
            have xK := blk_puts2 (.slice A2 n2 c2) (.map m2) KA7.out
            have xB := bsets HBW.out HL7.out (#[.slice A2 n2 c2, .map m2] : Array Value).toList 0
            have xA6 := KA6.out.farCells (HN6_7.out) (#[.slice A2 n2 c2, .map m2] : Array Value).toList 0
            have xHSE1 := (show SeenG (World.setCells (wS8) (wc5.heap.size) 0 (#[.slice A2 n2 c2, .map m2] : Array Value).toList) _ 13 13 _ _ _ from (HSE1.out.setNo KA7.out (blkX_noI KA7.out (viewX_no _ _ _ _)) 0 (.slice A2 n2 c2)).setNo (KA7.out.set_ 0 (.slice A2 n2 c2)) (blkX_noI (KA7.out.set_ 0 (.slice A2 n2 c2)) (viewX_no _ _ _ _)) 1 (.map m2))
            have xHSE2 := (show SeenG (World.setCells (wS8) (wc5.heap.size) 0 (#[.slice A2 n2 c2, .map m2] : Array Value).toList) _ 13 13 _ _ _ from (HSE2.out.setNo KA7.out (blkX_noI KA7.out (viewX_no _ _ _ _)) 0 (.slice A2 n2 c2)).setNo (KA7.out.set_ 0 (.slice A2 n2 c2)) (blkX_noI (KA7.out.set_ 0 (.slice A2 n2 c2)) (viewX_no _ _ _ _)) 1 (.map m2))
            obtain ⟨wS9, hwS⟩ : ∃ wS, World.setCells wS8 (wc5.heap.size) 0 (#[.slice A2 n2 c2, .map m2] : Array Value).toList = wS := ⟨_, rfl⟩
            rw [hwS] at xK xB xA6 xHSE1 xHSE2 ⊢
            replace HBW := Lib.hid xB
            replace KA7 := Lib.hid xK
            replace KA6 := Lib.hid xA6
            replace HSE1 := Lib.hid xHSE1
            replace HSE2 := Lib.hid xHSE2
            clear hwS xK xB xA6 xHSE1 xHSE2
            refine hK.out _ _ ?_ (fun hHeld => ?_)
            · (try dsimp only)
              exact ⟨(K13.out.belowS HBW.out).cellV (i := 0) rfl, (K13.out.belowS HBW.out).cellV (i := 1) rfl, (K14.out.belowS HBW.out).cellV (i := 0) rfl, (K16.out.belowS HBW.out).cellV (i := 0) rfl, (K16.out.belowS HBW.out).cellV (i := 1) rfl, (K17.out.belowS HBW.out).cellV (i := 0) rfl⟩
            clear hK K
            refine wpAnyH_done (by kernel_rfl) ?_ _
            refine NoPanic.normal ?_
            go_wp2_with fail
            go_meet
            exact ⟨_, _, A1, n1, c1, m1, A2, n2, c2, m2, og1, og2, rfl, rfl, KA6.out, KA7.out, HSE1.out, HSE2.out, HBW.out⟩
          ·
            go_simp
            have HN6_7 := Lib.hid (Nat.ne_of_lt KA6.out.lt)
            have KA7 := Lib.hid (show Blk (wc2.alloc (.cells #[.slice none 0 0, .map none] 43)) (wc2.heap.size) 43 #[.slice none 0 0, .map none] from Blk.new wc2 43 #[.slice none 0 0, .map none])
            have HL7 := Lib.hid (show Y2.heap.size ≤ wc2.heap.size from HBW.out.size)
            have hbA : Below wc2.heap.size wc2 ((wc2.alloc (.cells #[.slice none 0 0, .map none] 43))) := bal (bre wc2) (.cells #[.slice none 0 0, .map none] 43)
            replace HBW := Lib.hid (bstep HBW.out hbA)
            replace KA6 := Lib.hid (KA6.out.belowS hbA)
            replace HSE1 := Lib.hid (HSE1.out.below hbA)
            clear hbA
            refine hK.out _ _ ?_ (fun hHeld => ?_)
            · (try dsimp only)
              exact ⟨(K13.out.belowS HBW.out).cellV (i := 0) rfl, (K13.out.belowS HBW.out).cellV (i := 1) rfl, (K14.out.belowS HBW.out).cellV (i := 0) rfl, (K16.out.belowS HBW.out).cellV (i := 0) rfl, (K16.out.belowS HBW.out).cellV (i := 1) rfl, (K17.out.belowS HBW.out).cellV (i := 0) rfl⟩
            clear hK K
            refine wpAnyH_ready (rs := [5]) (by kernel_rfl) (by simp) ?_
            refine AllReadyH.cons rfl (fun K hK => ?_) AllReadyH.nil
            go_simp
            refine (seenG_of (RW := 13) (RH := 13) (l := [d2, ee]) (ns := nodesW [d2, ee]) (bs := bs2) (fk := fk2) (nk := nk2) (n := 3) _ (HM2.out.tree.below HBW.out) (HM2.out.place.below HBW.out) (HM2.out.scene.below HBW.out) (nodesW_ok HUM.out) (fun _ h => h) HKM.out (by rw [nodesW_len]; simp) (by decide)).mono ?_
            rintro e wc5 ⟨v2, og2, rfl, hse, hbA⟩
            obtain ⟨A2, n2, c2, m2, rfl⟩ := hse.form
            have HSE2 := Lib.hid hse
            clear hse
            replace HBW := Lib.hid (bstep HBW.out hbA)
            replace KA6 := Lib.hid (KA6.out.belowS hbA)
            replace KA7 := Lib.hid (KA7.out.belowS hbA)
            replace HSE1 := Lib.hid (HSE1.out.below hbA)
            clear hbA
            go_simp
            refine hK.out _ _ ?_ (fun hHeld => ?_)
            · (try dsimp only)
              exact ⟨(K13.out.belowS HBW.out).cellV (i := 0) rfl, (K13.out.belowS HBW.out).cellV (i := 1) rfl, (K14.out.belowS HBW.out).cellV (i := 0) rfl, (K16.out.belowS HBW.out).cellV (i := 0) rfl, (K16.out.belowS HBW.out).cellV (i := 1) rfl, (K17.out.belowS HBW.out).cellV (i := 0) rfl⟩
            clear hK K
            refine wpAnyH_ready (rs := [8]) (by kernel_rfl) (by simp) ?_
            refine AllReadyH.cons rfl (fun K hK => ?_) AllReadyH.nil
            refine Tr.wanted_plain rfl ?_
            refine store_mid0 rfl 43 _ _ rfl (Y2.heap.size) 0 #[.slice A1 n1 c1, .map m1] (by rfl) (by rfl) (by have h := there_blk KA6.out; exact h) Tryz.sizeVx (by simp [Value.oneCell']) ?_
            have xK := blk_puts2 (.slice A1 n1 c1) (.map m1) KA6.out
            have xB := bsets HBW.out HL6.out (#[.slice A1 n1 c1, .map m1] : Array Value).toList 0
            have xA7 := KA7.out.farCells (HN6_7.out.symm) (#[.slice A1 n1 c1, .map m1] : Array Value).toList 0
            have xHSE1 := (show SeenG (World.setCells (wc5) (Y2.heap.size) 0 (#[.slice A1 n1 c1, .map m1] : Array Value).toList) _ 13 13 _ _ _ from (HSE1.out.setNo KA6.out (blkX_noI KA6.out (viewX_no _ _ _ _)) 0 (.slice A1 n1 c1)).setNo (KA6.out.set_ 0 (.slice A1 n1 c1)) (blkX_noI (KA6.out.set_ 0 (.slice A1 n1 c1)) (viewX_no _ _ _ _)) 1 (.map m1))
            have xHSE2 := (show SeenG (World.setCells (wc5) (Y2.heap.size) 0 (#[.slice A1 n1 c1, .map m1] : Array Value).toList) _ 13 13 _ _ _ from (HSE2.out.setNo KA6.out (blkX_noI KA6.out (viewX_no _ _ _ _)) 0 (.slice A1 n1 c1)).setNo (KA6.out.set_ 0 (.slice A1 n1 c1)) (blkX_noI (KA6.out.set_ 0 (.slice A1 n1 c1)) (viewX_no _ _ _ _)) 1 (.map m1))
            obtain ⟨wS8, hwS⟩ : ∃ wS, World.setCells wc5 (Y2.heap.size) 0 (#[.slice A1 n1 c1, .map m1] : Array Value).toList = wS := ⟨_, rfl⟩
            rw [hwS] at xK xB xA7 xHSE1 xHSE2 ⊢
            replace HBW := Lib.hid xB
            replace KA6 := Lib.hid xK
            replace KA7 := Lib.hid xA7
            replace HSE1 := Lib.hid xHSE1
            replace HSE2 := Lib.hid xHSE2
            clear hwS xK xB xA7 xHSE1 xHSE2
            refine hK.out _ _ ?_ (fun hHeld => ?_)
            · (try dsimp only)
              exact ⟨(K13.out.belowS HBW.out).cellV (i := 0) rfl, (K13.out.belowS HBW.out).cellV (i := 1) rfl, (K14.out.belowS HBW.out).cellV (i := 0) rfl, (K16.out.belowS HBW.out).cellV (i := 0) rfl, (K16.out.belowS HBW.out).cellV (i := 1) rfl, (K17.out.belowS HBW.out).cellV (i := 0) rfl⟩
            clear hK K
            refine wpAnyH_ready (rs := [9]) (by kernel_rfl) (by simp) ?_
            refine AllReadyH.cons rfl (fun K hK => ?_) AllReadyH.nil
            refine Tr.wanted_plain rfl ?_
            refine store_mid0 rfl 43 _ _ rfl (wc2.heap.size) 0 #[.slice A2 n2 c2, .map m2] (by rfl) (by rfl) (by have h := there_blk KA7.out; exact h) Tryz.sizeVx (by simp [Value.oneCell']) ?_
            have xK := blk_puts2 (.slice A2 n2 c2) (.map m2) KA7.out
            have xB := bsets HBW.out HL7.out (#[.slice A2 n2 c2, .map m2] : Array Value).toList 0
            have xA6 := KA6.out.farCells (HN6_7.out) (#[.slice A2 n2 c2, .map m2] : Array Value).toList 0
            have xHSE1 := (show SeenG (World.setCells (wS8) (wc2.heap.size) 0 (#[.slice A2 n2 c2, .map m2] : Array Value).toList) _ 13 13 _ _ _ from (HSE1.out.setNo KA7.out (blkX_noI KA7.out (viewX_no _ _ _ _)) 0 (.slice A2 n2 c2)).setNo (KA7.out.set_ 0 (.slice A2 n2 c2)) (blkX_noI (KA7.out.set_ 0 (.slice A2 n2 c2)) (viewX_no _ _ _ _)) 1 (.map m2))
            have xHSE2 := (show SeenG (World.setCells (wS8) (wc2.heap.size) 0 (#[.slice A2 n2 c2, .map m2] : Array Value).toList) _ 13 13 _ _ _ from (HSE2.out.setNo KA7.out (blkX_noI KA7.out (viewX_no _ _ _ _)) 0 (.slice A2 n2 c2)).setNo (KA7.out.set_ 0 (.slice A2 n2 c2)) (blkX_noI (KA7.out.set_ 0 (.slice A2 n2 c2)) (viewX_no _ _ _ _)) 1 (.map m2))
            obtain ⟨wS9, hwS⟩ : ∃ wS, World.setCells wS8 (wc2.heap.size) 0 (#[.slice A2 n2 c2, .map m2] : Array Value).toList = wS := ⟨_, rfl⟩
            rw [hwS] at xK xB xA6 xHSE1 xHSE2 ⊢
            replace HBW := Lib.hid xB
            replace KA7 := Lib.hid xK
            replace KA6 := Lib.hid xA6
            replace HSE1 := Lib.hid xHSE1
            replace HSE2 := Lib.hid xHSE2
            clear hwS xK xB xA6 xHSE1 xHSE2
            refine hK.out _ _ ?_ (fun hHeld => ?_)
            · (try dsimp only)
              exact ⟨(K13.out.belowS HBW.out).cellV (i := 0) rfl, (K13.out.belowS HBW.out).cellV (i := 1) rfl, (K14.out.belowS HBW.out).cellV (i := 0) rfl, (K16.out.belowS HBW.out).cellV (i := 0) rfl, (K16.out.belowS HBW.out).cellV (i := 1) rfl, (K17.out.belowS HBW.out).cellV (i := 0) rfl⟩
            clear hK K
            refine wpAnyH_done (by kernel_rfl) ?_ _
            refine NoPanic.normal ?_
            go_wp2_with fail
            go_meet
            exact ⟨_, _, A1, n1, c1, m1, A2, n2, c2, m2, og1, og2, rfl, rfl, KA6.out, KA7.out, HSE1.out, HSE2.out, HBW.out⟩
        ·
          go_simp
          have HN6_7 := Lib.hid (show Y2.heap.size ≠ Y2.heap.size + 1 from by have h := KA6.out.lt; rw [show ((Y2.alloc (.cells #[.slice none 0 0, .map none] 43)).drew).heap.size = Y2.heap.size + 1 from (show ((Y2.alloc (.cells #[.slice none 0 0, .map none] 43))).heap.size = Y2.heap.size + 1 by simp)] at h; exact Nat.ne_of_lt h)
          have KA7 := Lib.hid (show Blk ((Y2.alloc (.cells #[.slice none 0 0, .map none] 43)).alloc (.cells #[.slice none 0 0, .map none] 43)).drew (Y2.heap.size + 1) 43 #[.slice none 0 0, .map none] from by have h := Blk.new ((Y2.alloc (.cells #[.slice none 0 0, .map none] 43)).drew) 43 #[.slice none 0 0, .map none]; rw [show ((Y2.alloc (.cells #[.slice none 0 0, .map none] 43)).drew).heap.size = Y2.heap.size + 1 from (show ((Y2.alloc (.cells #[.slice none 0 0, .map none] 43))).heap.size = Y2.heap.size + 1 by simp)] at h; exact h)
          have HL7 := Lib.hid (show Y2.heap.size ≤ Y2.heap.size + 1 from by have h := HBW.out.size; rw [show ((Y2.alloc (.cells #[.slice none 0 0, .map none] 43)).drew).heap.size = Y2.heap.size + 1 from (show ((Y2.alloc (.cells #[.slice none 0 0, .map none] 43))).heap.size = Y2.heap.size + 1 by simp)] at h; exact h)
          have hbA : Below (Y2.alloc (.cells #[.slice none 0 0, .map none] 43)).drew.heap.size (Y2.alloc (.cells #[.slice none 0 0, .map none] 43)).drew (((Y2.alloc (.cells #[.slice none 0 0, .map none] 43)).alloc (.cells #[.slice none 0 0, .map none] 43)).drew) := bal (bre (Y2.alloc (.cells #[.slice none 0 0, .map none] 43)).drew) (.cells #[.slice none 0 0, .map none] 43)
          replace HBW := Lib.hid (bstep HBW.out hbA)
          replace KA6 := Lib.hid (KA6.out.belowS hbA)
          clear hbA
          refine hK.out _ _ ?_ (fun hHeld => ?_)
          · (try dsimp only)
            exact ⟨(K13.out.belowS HBW.out).cellV (i := 0) rfl, (K13.out.belowS HBW.out).cellV (i := 1) rfl, (K14.out.belowS HBW.out).cellV (i := 0) rfl, (K16.out.belowS HBW.out).cellV (i := 0) rfl, (K16.out.belowS HBW.out).cellV (i := 1) rfl, (K17.out.belowS HBW.out).cellV (i := 0) rfl⟩
          clear hK K
          refine wpAnyH_ready (rs := [2]) (by kernel_rfl) (by simp) ?_
          refine AllReadyH.cons rfl (fun K hK => ?_) AllReadyH.nil
          go_simp
          refine (seenG_of (RW := 13) (RH := 13) (l := [d1, ee]) (ns := nodesW [d1, ee]) (bs := bs) (fk := fk) (nk := nk) (n := 3) _ (HM1.out.tree.below HBW.out) (HM1.out.place.below HBW.out) (HM1.out.scene.below HBW.out) (nodesW_ok HUL.out) (fun _ h => h) HKL.out (by rw [nodesW_len]; simp) (by decide)).mono ?_
          rintro e wc2 ⟨v1, og1, rfl, hse, hbA⟩
          obtain ⟨A1, n1, c1, m1, rfl⟩ := hse.form
          have HSE1 := Lib.hid hse
          clear hse
          replace HBW := Lib.hid (bstep HBW.out hbA)
          replace KA6 := Lib.hid (KA6.out.belowS hbA)
          replace KA7 := Lib.hid (KA7.out.belowS hbA)
          clear hbA
          go_simp
          refine hK.out _ _ ?_ (fun hHeld => ?_)
          · (try dsimp only)
            exact ⟨(K13.out.belowS HBW.out).cellV (i := 0) rfl, (K13.out.belowS HBW.out).cellV (i := 1) rfl, (K14.out.belowS HBW.out).cellV (i := 0) rfl, (K16.out.belowS HBW.out).cellV (i := 0) rfl, (K16.out.belowS HBW.out).cellV (i := 1) rfl, (K17.out.belowS HBW.out).cellV (i := 0) rfl⟩
          clear hK K
          refine wpAnyH_ready (rs := [5]) (by kernel_rfl) (by simp) ?_
          refine AllReadyH.cons rfl (fun K hK => ?_) AllReadyH.nil
          go_simp
          refine (seenG_of (RW := 13) (RH := 13) (l := [d2, ee]) (ns := nodesW [d2, ee]) (bs := bs2) (fk := fk2) (nk := nk2) (n := 3) _ (HM2.out.tree.below HBW.out) (HM2.out.place.below HBW.out) (HM2.out.scene.below HBW.out) (nodesW_ok HUM.out) (fun _ h => h) HKM.out (by rw [nodesW_len]; simp) (by decide)).mono ?_
          rintro e wc5 ⟨v2, og2, rfl, hse, hbA⟩
          obtain ⟨A2, n2, c2, m2, rfl⟩ := hse.form
          have HSE2 := Lib.hid hse
          clear hse
          replace HBW := Lib.hid (bstep HBW.out hbA)
          replace KA6 := Lib.hid (KA6.out.belowS hbA)
          replace KA7 := Lib.hid (KA7.out.belowS hbA)
          replace HSE1 := Lib.hid (HSE1.out.below hbA)
          clear hbA
          go_simp
          refine hK.out _ _ ?_ (fun hHeld => ?_)
          · (try dsimp only)
            exact ⟨(K13.out.belowS HBW.out).cellV (i := 0) rfl, (K13.out.belowS HBW.out).cellV (i := 1) rfl, (K14.out.belowS HBW.out).cellV (i := 0) rfl, (K16.out.belowS HBW.out).cellV (i := 0) rfl, (K16.out.belowS HBW.out).cellV (i := 1) rfl, (K17.out.belowS HBW.out).cellV (i := 0) rfl⟩
          clear hK K
          refine wpAnyH_ready (rs := [8]) (by kernel_rfl) (by simp) ?_
          refine AllReadyH.cons rfl (fun K hK => ?_) AllReadyH.nil
          refine Tr.wanted_plain rfl ?_
          refine store_mid0 rfl 43 _ _ rfl (Y2.heap.size) 0 #[.slice A1 n1 c1, .map m1] (by rfl) (by rfl) (by have h := there_blk KA6.out; exact h) Tryz.sizeVx (by simp [Value.oneCell']) ?_
          have xK := blk_puts2 (.slice A1 n1 c1) (.map m1) KA6.out
          have xB := bsets HBW.out HL6.out (#[.slice A1 n1 c1, .map m1] : Array Value).toList 0
          have xA7 := KA7.out.farCells (HN6_7.out.symm) (#[.slice A1 n1 c1, .map m1] : Array Value).toList 0
          have xHSE1 := (show SeenG (World.setCells (wc5) (Y2.heap.size) 0 (#[.slice A1 n1 c1, .map m1] : Array Value).toList) _ 13 13 _ _ _ from (HSE1.out.setNo KA6.out (blkX_noI KA6.out (viewX_no _ _ _ _)) 0 (.slice A1 n1 c1)).setNo (KA6.out.set_ 0 (.slice A1 n1 c1)) (blkX_noI (KA6.out.set_ 0 (.slice A1 n1 c1)) (viewX_no _ _ _ _)) 1 (.map m1))
          have xHSE2 := (show SeenG (World.setCells (wc5) (Y2.heap.size) 0 (#[.slice A1 n1 c1, .map m1] : Array Value).toList) _ 13 13 _ _ _ from (HSE2.out.setNo KA6.out (blkX_noI KA6.out (viewX_no _ _ _ _)) 0 (.slice A1 n1 c1)).setNo (KA6.out.set_ 0 (.slice A1 n1 c1)) (blkX_noI (KA6.out.set_ 0 (.slice A1 n1 c1)) (viewX_no _ _ _ _)) 1 (.map m1))
          obtain ⟨wS8, hwS⟩ : ∃ wS, World.setCells wc5 (Y2.heap.size) 0 (#[.slice A1 n1 c1, .map m1] : Array Value).toList = wS := ⟨_, rfl⟩
          rw [hwS] at xK xB xA7 xHSE1 xHSE2 ⊢
          replace HBW := Lib.hid xB
          replace KA6 := Lib.hid xK
          replace KA7 := Lib.hid xA7
          replace HSE1 := Lib.hid xHSE1
          replace HSE2 := Lib.hid xHSE2
          clear hwS xK xB xA7 xHSE1 xHSE2
          refine hK.out _ _ ?_ (fun hHeld => ?_)
          · (try dsimp only)
            exact ⟨(K13.out.belowS HBW.out).cellV (i := 0) rfl, (K13.out.belowS HBW.out).cellV (i := 1) rfl, (K14.out.belowS HBW.out).cellV (i := 0) rfl, (K16.out.belowS HBW.out).cellV (i := 0) rfl, (K16.out.belowS HBW.out).cellV (i := 1) rfl, (K17.out.belowS HBW.out).cellV (i := 0) rfl⟩
          clear hK K
          refine wpAnyH_ready (rs := [9]) (by kernel_rfl) (by simp) ?_
          refine AllReadyH.cons rfl (fun K hK => ?_) AllReadyH.nil
          refine Tr.wanted_plain rfl ?_
          refine store_mid0 rfl 43 _ _ rfl (Y2.heap.size + 1) 0 #[.slice A2 n2 c2, .map m2] (by rfl) (by rfl) (by have h := there_blk KA7.out; exact h) Tryz.sizeVx (by simp [Value.oneCell']) ?_
          have xK := blk_puts2 (.slice A2 n2 c2) (.map m2) KA7.out
          have xB := bsets HBW.out HL7.out (#[.slice A2 n2 c2, .map m2] : Array Value).toList 0
          have xA6 := KA6.out.farCells (HN6_7.out) (#[.slice A2 n2 c2, .map m2] : Array Value).toList 0
          have xHSE1 := (show SeenG (World.setCells (wS8) (Y2.heap.size + 1) 0 (#[.slice A2 n2 c2, .map m2] : Array Value).toList) _ 13 13 _ _ _ from (HSE1.out.setNo KA7.out (blkX_noI KA7.out (viewX_no _ _ _ _)) 0 (.slice A2 n2 c2)).setNo (KA7.out.set_ 0 (.slice A2 n2 c2)) (blkX_noI (KA7.out.set_ 0 (.slice A2 n2 c2)) (viewX_no _ _ _ _)) 1 (.map m2))
          have xHSE2 := (show SeenG (World.setCells (wS8) (Y2.heap.size + 1) 0 (#[.slice A2 n2 c2, .map m2] : Array Value).toList) _ 13 13 _ _ _ from (HSE2.out.setNo KA7.out (blkX_noI KA7.out (viewX_no _ _ _ _)) 0 (.slice A2 n2 c2)).setNo (KA7.out.set_ 0 (.slice A2 n2 c2)) (blkX_noI (KA7.out.set_ 0 (.slice A2 n2 c2)) (viewX_no _ _ _ _)) 1 (.map m2))
          obtain ⟨wS9, hwS⟩ : ∃ wS, World.setCells wS8 (Y2.heap.size + 1) 0 (#[.slice A2 n2 c2, .map m2] : Array Value).toList = wS := ⟨_, rfl⟩
          rw [hwS] at xK xB xA6 xHSE1 xHSE2 ⊢
          replace HBW := Lib.hid xB
          replace KA7 := Lib.hid xK
          replace KA6 := Lib.hid xA6
          replace HSE1 := Lib.hid xHSE1
          replace HSE2 := Lib.hid xHSE2
          clear hwS xK xB xA6 xHSE1 xHSE2
          refine hK.out _ _ ?_ (fun hHeld => ?_)
          · (try dsimp only)
            exact ⟨(K13.out.belowS HBW.out).cellV (i := 0) rfl, (K13.out.belowS HBW.out).cellV (i := 1) rfl, (K14.out.belowS HBW.out).cellV (i := 0) rfl, (K16.out.belowS HBW.out).cellV (i := 0) rfl, (K16.out.belowS HBW.out).cellV (i := 1) rfl, (K17.out.belowS HBW.out).cellV (i := 0) rfl⟩
          clear hK K
          refine wpAnyH_done (by kernel_rfl) ?_ _
          refine NoPanic.normal ?_
          go_wp2_with fail
          go_meet
          exact ⟨_, _, A1, n1, c1, m1, A2, n2, c2, m2, og1, og2, rfl, rfl, KA6.out, KA7.out, HSE1.out, HSE2.out, HBW.out⟩
      ·
        go_simp
        have KA7 := Lib.hid (show Blk (Y2.alloc (.cells #[.slice none 0 0, .map none] 43)).drew (Y2.heap.size) 43 #[.slice none 0 0, .map none] from Blk.new Y2.drew 43 #[.slice none 0 0, .map none])
        have HL7 := Lib.hid (show Y2.heap.size ≤ Y2.heap.size from HBW.out.size)
        have hbA : Below Y2.drew.heap.size Y2.drew ((Y2.alloc (.cells #[.slice none 0 0, .map none] 43)).drew) := bal (bre Y2.drew) (.cells #[.slice none 0 0, .map none] 43)
        replace HBW := Lib.hid (bstep HBW.out hbA)
        clear hbA
        refine hK.out _ _ ?_ (fun hHeld => ?_)
        · (try dsimp only)
          exact ⟨(K13.out.belowS HBW.out).cellV (i := 0) rfl, (K13.out.belowS HBW.out).cellV (i := 1) rfl, (K14.out.belowS HBW.out).cellV (i := 0) rfl, (K16.out.belowS HBW.out).cellV (i := 0) rfl, (K16.out.belowS HBW.out).cellV (i := 1) rfl, (K17.out.belowS HBW.out).cellV (i := 0) rfl⟩
        clear hK K
        refine wpAnyH_ready (rs := [2, 6]) (by kernel_rfl) (by simp) ?_
        refine AllReadyH.cons rfl (fun K hK => ?_) (AllReadyH.cons rfl (fun K hK => ?_) AllReadyH.nil)
        ·
          go_simp
          refine (seenG_of (RW := 13) (RH := 13) (l := [d1, ee]) (ns := nodesW [d1, ee]) (bs := bs) (fk := fk) (nk := nk) (n := 3) _ (HM1.out.tree.below HBW.out) (HM1.out.place.below HBW.out) (HM1.out.scene.below HBW.out) (nodesW_ok HUL.out) (fun _ h => h) HKL.out (by rw [nodesW_len]; simp) (by decide)).mono ?_
          rintro e wc2 ⟨v1, og1, rfl, hse, hbA⟩
          obtain ⟨A1, n1, c1, m1, rfl⟩ := hse.form
          have HSE1 := Lib.hid hse
          clear hse
          replace HBW := Lib.hid (bstep HBW.out hbA)
          replace KA7 := Lib.hid (KA7.out.belowS hbA)
          clear hbA
          go_simp
          refine hK.out _ _ ?_ (fun hHeld => ?_)
          · (try dsimp only)
            exact ⟨(K13.out.belowS HBW.out).cellV (i := 0) rfl, (K13.out.belowS HBW.out).cellV (i := 1) rfl, (K14.out.belowS HBW.out).cellV (i := 0) rfl, (K16.out.belowS HBW.out).cellV (i := 0) rfl, (K16.out.belowS HBW.out).cellV (i := 1) rfl, (K17.out.belowS HBW.out).cellV (i := 0) rfl⟩
          clear hK K
          refine wpAnyH_ready (rs := [5, 6]) (by kernel_rfl) (by simp) ?_
          refine AllReadyH.cons rfl (fun K hK => ?_) (AllReadyH.cons rfl (fun K hK => ?_) AllReadyH.nil)
          ·
            go_simp
            refine (seenG_of (RW := 13) (RH := 13) (l := [d2, ee]) (ns := nodesW [d2, ee]) (bs := bs2) (fk := fk2) (nk := nk2) (n := 3) _ (HM2.out.tree.below HBW.out) (HM2.out.place.below HBW.out) (HM2.out.scene.below HBW.out) (nodesW_ok HUM.out) (fun _ h => h) HKM.out (by rw [nodesW_len]; simp) (by decide)).mono ?_
            rintro e wc5 ⟨v2, og2, rfl, hse, hbA⟩
            obtain ⟨A2, n2, c2, m2, rfl⟩ := hse.form
            have HSE2 := Lib.hid hse
            clear hse
            replace HBW := Lib.hid (bstep HBW.out hbA)
            replace KA7 := Lib.hid (KA7.out.belowS hbA)
            replace HSE1 := Lib.hid (HSE1.out.below hbA)
            clear hbA
            go_simp
            refine hK.out _ _ ?_ (fun hHeld => ?_)
            · (try dsimp only)
              exact ⟨(K13.out.belowS HBW.out).cellV (i := 0) rfl, (K13.out.belowS HBW.out).cellV (i := 1) rfl, (K14.out.belowS HBW.out).cellV (i := 0) rfl, (K16.out.belowS HBW.out).cellV (i := 0) rfl, (K16.out.belowS HBW.out).cellV (i := 1) rfl, (K17.out.belowS HBW.out).cellV (i := 0) rfl⟩
            clear hK K
            refine wpAnyH_ready (rs := [6]) (by kernel_rfl) (by simp) ?_
            refine AllReadyH.cons rfl (fun K hK => ?_) AllReadyH.nil
            go_simp
            have HN7_6 := Lib.hid (Nat.ne_of_lt KA7.out.lt)
            have KA6 := Lib.hid (show Blk (wc5.alloc (.cells #[.slice none 0 0, .map none] 43)) (wc5.heap.size) 43 #[.slice none 0 0, .map none] from Blk.new wc5 43 #[.slice none 0 0, .map none])
            have HL6 := Lib.hid (show Y2.heap.size ≤ wc5.heap.size from HBW.out.size)
            have hbA : Below wc5.heap.size wc5 ((wc5.alloc (.cells #[.slice none 0 0, .map none] 43))) := bal (bre wc5) (.cells #[.slice none 0 0, .map none] 43)
            replace HBW := Lib.hid (bstep HBW.out hbA)
            replace KA7 := Lib.hid (KA7.out.belowS hbA)
            replace HSE1 := Lib.hid (HSE1.out.below hbA)
            replace HSE2 := Lib.hid (HSE2.out.below hbA)
            clear hbA
            refine hK.out _ _ ?_ (fun hHeld => ?_)
            · (try dsimp only)
              exact ⟨(K13.out.belowS HBW.out).cellV (i := 0) rfl, (K13.out.belowS HBW.out).cellV (i := 1) rfl, (K14.out.belowS HBW.out).cellV (i := 0) rfl, (K16.out.belowS HBW.out).cellV (i := 0) rfl, (K16.out.belowS HBW.out).cellV (i := 1) rfl, (K17.out.belowS HBW.out).cellV (i := 0) rfl⟩
            clear hK K
            refine wpAnyH_ready (rs := [8]) (by kernel_rfl) (by simp) ?_
            refine AllReadyH.cons rfl (fun K hK => ?_) AllReadyH.nil
            refine Tr.wanted_plain rfl ?_
            refine store_mid0 rfl 43 _ _ rfl (wc5.heap.size) 0 #[.slice A1 n1 c1, .map m1] (by rfl) (by rfl) (by have h := there_blk KA6.out; exact h) Tryz.sizeVx (by simp [Value.oneCell']) ?_
            have xK := blk_puts2 (.slice A1 n1 c1) (.map m1) KA6.out
            have xB := bsets HBW.out HL6.out (#[.slice A1 n1 c1, .map m1] : Array Value).toList 0
            have xA7 := KA7.out.farCells (HN7_6.out) (#[.slice A1 n1 c1, .map m1] : Array Value).toList 0
            have xHSE1 := (show SeenG (World.setCells (wc5.alloc (.cells #[.slice none 0 0, .map none] 43)) (wc5.heap.size) 0 (#[.slice A1 n1 c1, .map m1] : Array Value).toList) _ 13 13 _ _ _ from (HSE1.out.setNo KA6.out (blkX_noI KA6.out (viewX_no _ _ _ _)) 0 (.slice A1 n1 c1)).setNo (KA6.out.set_ 0 (.slice A1 n1 c1)) (blkX_noI (KA6.out.set_ 0 (.slice A1 n1 c1)) (viewX_no _ _ _ _)) 1 (.map m1))
            have xHSE2 := (show SeenG (World.setCells (wc5.alloc (.cells #[.slice none 0 0, .map none] 43)) (wc5.heap.size) 0 (#[.slice A1 n1 c1, .map m1] : Array Value).toList) _ 13 13 _ _ _ from (HSE2.out.setNo KA6.out (blkX_noI KA6.out (viewX_no _ _ _ _)) 0 (.slice A1 n1 c1)).setNo (KA6.out.set_ 0 (.slice A1 n1 c1)) (blkX_noI (KA6.out.set_ 0 (.slice A1 n1 c1)) (viewX_no _ _ _ _)) 1 (.map m1))
            obtain ⟨wS8, hwS⟩ : ∃ wS, World.setCells (wc5.alloc (.cells #[.slice none 0 0, .map none] 43)) (wc5.heap.size) 0 (#[.slice A1 n1 c1, .map m1] : Array Value).toList = wS := ⟨_, rfl⟩
            rw [hwS] at xK xB xA7 xHSE1 xHSE2 ⊢
            replace HBW := Lib.hid xB
            replace KA6 := Lib.hid xK
            replace KA7 := Lib.hid xA7
            replace HSE1 := Lib.hid xHSE1
            replace HSE2 := Lib.hid xHSE2
            clear hwS xK xB xA7 xHSE1 xHSE2
            refine hK.out _ _ ?_ (fun hHeld => ?_)
            · (try dsimp only)
              exact ⟨(K13.out.belowS HBW.out).cellV (i := 0) rfl, (K13.out.belowS HBW.out).cellV (i := 1) rfl, (K14.out.belowS HBW.out).cellV (i := 0) rfl, (K16.out.belowS HBW.out).cellV (i := 0) rfl, (K16.out.belowS HBW.out).cellV (i := 1) rfl, (K17.out.belowS HBW.out).cellV (i := 0) rfl⟩
            clear hK K
            refine wpAnyH_ready (rs := [9]) (by kernel_rfl) (by simp) ?_
            refine AllReadyH.cons rfl (fun K hK => ?_) AllReadyH.nil
            refine Tr.wanted_plain rfl ?_
            refine store_mid0 rfl 43 _ _ rfl (Y2.heap.size) 0 #[.slice A2 n2 c2, .map m2] (by rfl) (by rfl) (by have h := there_blk KA7.out; exact h) Tryz.sizeVx (by simp [Value.oneCell']) ?_
            have xK := blk_puts2 (.slice A2 n2 c2) (.map m2) KA7.out
            have xB := bsets HBW.out HL7.out (#[.slice A2 n2 c2, .map m2] : Array Value).toList 0
            have xA6 := KA6.out.farCells (HN7_6.out.symm) (#[.slice A2 n2 c2, .map m2] : Array Value).toList 0
            have xHSE1 := (show SeenG (World.setCells (wS8) (Y2.heap.size) 0 (#[.slice A2 n2 c2, .map m2] : Array Value).toList) _ 13 13 _ _ _ from (HSE1.out.setNo KA7.out (blkX_noI KA7.out (viewX_no _ _ _ _)) 0 (.slice A2 n2 c2)).setNo (KA7.out.set_ 0 (.slice A2 n2 c2)) (blkX_noI (KA7.out.set_ 0 (.slice A2 n2 c2)) (viewX_no _ _ _ _)) 1 (.map m2))
            have xHSE2 := (show SeenG (World.setCells (wS8) (Y2.heap.size) 0 (#[.slice A2 n2 c2, .map m2] : Array Value).toList) _ 13 13 _ _ _ from (HSE2.out.setNo KA7.out (blkX_noI KA7.out (viewX_no _ _ _ _)) 0 (.slice A2 n2 c2)).setNo (KA7.out.set_ 0 (.slice A2 n2 c2)) (blkX_noI (KA7.out.set_ 0 (.slice A2 n2 c2)) (viewX_no _ _ _ _)) 1 (.map m2))
            obtain ⟨wS9, hwS⟩ : ∃ wS, World.setCells wS8 (Y2.heap.size) 0 (#[.slice A2 n2 c2, .map m2] : Array Value).toList = wS := ⟨_, rfl⟩
            rw [hwS] at xK xB xA6 xHSE1 xHSE2 ⊢
            replace HBW := Lib.hid xB
            replace KA7 := Lib.hid xK
            replace KA6 := Lib.hid xA6
            replace HSE1 := Lib.hid xHSE1
            replace HSE2 := Lib.hid xHSE2
            clear hwS xK xB xA6 xHSE1 xHSE2
            refine hK.out _ _ ?_ (fun hHeld => ?_)
            · (try dsimp only)
              exact ⟨(K13.out.belowS HBW.out).cellV (i := 0) rfl, (K13.out.belowS HBW.out).cellV (i := 1) rfl, (K14.out.belowS HBW.out).cellV (i := 0) rfl, (K16.out.belowS HBW.out).cellV (i := 0) rfl, (K16.out.belowS HBW.out).cellV (i := 1) rfl, (K17.out.belowS HBW.out).cellV (i := 0) rfl⟩
            clear hK K
            refine wpAnyH_done (by kernel_rfl) ?_ _
            refine NoPanic.normal ?_
            go_wp2_with fail
            go_meet
            exact ⟨_, _, A1, n1, c1, m1, A2, n2, c2, m2, og1, og2, rfl, rfl, KA6.out, KA7.out, HSE1.out, HSE2.out, HBW.out⟩
          ·
            go_simp
            have HN7_6 := Lib.hid (Nat.ne_of_lt KA7.out.lt)
            have KA6 := Lib.hid (show Blk (wc2.alloc (.cells #[.slice none 0 0, .map none] 43)) (wc2.heap.size) 43 #[.slice none 0 0, .map none] from Blk.new wc2 43 #[.slice none 0 0, .map none])
            have HL6 := Lib.hid (show Y2.heap.size ≤ wc2.heap.size from HBW.out.size)
            have hbA : Below wc2.heap.size wc2 ((wc2.alloc (.cells #[.slice none 0 0, .map none] 43))) := bal (bre wc2) (.cells #[.slice none 0 0, .map none] 43)
            replace HBW := Lib.hid (bstep HBW.out hbA)
            replace KA7 := Lib.hid (KA7.out.belowS hbA)
            replace HSE1 := Lib.hid (HSE1.out.below hbA)
            clear hbA
            refine hK.out _ _ ?_ (fun hHeld => ?_)
            · (try dsimp only)
              exact ⟨(K13.out.belowS HBW.out).cellV (i := 0) rfl, (K13.out.belowS HBW.out).cellV (i := 1) rfl, (K14.out.belowS HBW.out).cellV (i := 0) rfl, (K16.out.belowS HBW.out).cellV (i := 0) rfl, (K16.out.belowS HBW.out).cellV (i := 1) rfl, (K17.out.belowS HBW.out).cellV (i := 0) rfl⟩
            clear hK K
            refine wpAnyH_ready (rs := [5]) (by kernel_rfl) (by simp) ?_
            refine AllReadyH.cons rfl (fun K hK => ?_) AllReadyH.nil
            go_simp
            refine (seenG_of (RW := 13) (RH := 13) (l := [d2, ee]) (ns := nodesW [d2, ee]) (bs := bs2) (fk := fk2) (nk := nk2) (n := 3) _ (HM2.out.tree.below HBW.out) (HM2.out.place.below HBW.out) (HM2.out.scene.below HBW.out) (nodesW_ok HUM.out) (fun _ h => h) HKM.out (by rw [nodesW_len]; simp) (by decide)).mono ?_
            rintro e wc5 ⟨v2, og2, rfl, hse, hbA⟩
            obtain ⟨A2, n2, c2, m2, rfl⟩ := hse.form
            have HSE2 := Lib.hid hse
            clear hse
            replace HBW := Lib.hid (bstep HBW.out hbA)
            replace KA7 := Lib.hid (KA7.out.belowS hbA)
            replace KA6 := Lib.hid (KA6.out.belowS hbA)
            replace HSE1 := Lib.hid (HSE1.out.below hbA)
            clear hbA
            go_simp
            refine hK.out _ _ ?_ (fun hHeld => ?_)
            · (try dsimp only)
              exact ⟨(K13.out.belowS HBW.out).cellV (i := 0) rfl, (K13.out.belowS HBW.out).cellV (i := 1) rfl, (K14.out.belowS HBW.out).cellV (i := 0) rfl, (K16.out.belowS HBW.out).cellV (i := 0) rfl, (K16.out.belowS HBW.out).cellV (i := 1) rfl, (K17.out.belowS HBW.out).cellV (i := 0) rfl⟩
            clear hK K
            refine wpAnyH_ready (rs := [8]) (by kernel_rfl) (by simp) ?_
            refine AllReadyH.cons rfl (fun K hK => ?_) AllReadyH.nil
            refine Tr.wanted_plain rfl ?_
            refine store_mid0 rfl 43 _ _ rfl (wc2.heap.size) 0 #[.slice A1 n1 c1, .map m1] (by rfl) (by rfl) (by have h := there_blk KA6.out; exact h) Tryz.sizeVx (by simp [Value.oneCell']) ?_
            have xK := blk_puts2 (.slice A1 n1 c1) (.map m1) KA6.out
            have xB := bsets HBW.out HL6.out (#[.slice A1 n1 c1, .map m1] : Array Value).toList 0
            have xA7 := KA7.out.farCells (HN7_6.out) (#[.slice A1 n1 c1, .map m1] : Array Value).toList 0
            have xHSE1 := (show SeenG (World.setCells (wc5) (wc2.heap.size) 0 (#[.slice A1 n1 c1, .map m1] : Array Value).toList) _ 13 13 _ _ _ from (HSE1.out.setNo KA6.out (blkX_noI KA6.out (viewX_no _ _ _ _)) 0 (.slice A1 n1 c1)).setNo (KA6.out.set_ 0 (.slice A1 n1 c1)) (blkX_noI (KA6.out.set_ 0 (.slice A1 n1 c1)) (viewX_no _ _ _ _)) 1 (.map m1))
            have xHSE2 := (show SeenG (World.setCells (wc5) (wc2.heap.size) 0 (#[.slice A1 n1 c1, .map m1] : Array Value).toList) _ 13 13 _ _ _ from (HSE2.out.setNo KA6.out (blkX_noI KA6.out (viewX_no _ _ _ _)) 0 (.slice A1 n1 c1)).setNo (KA6.out.set_ 0 (.slice A1 n1 c1)) (blkX_noI (KA6.out.set_ 0 (.slice A1 n1 c1)) (viewX_no _ _ _ _)) 1 (.map m1))
            obtain ⟨wS8, hwS⟩ : ∃ wS, World.setCells wc5 (wc2.heap.size) 0 (#[.slice A1 n1 c1, .map m1] : Array Value).toList = wS := ⟨_, rfl⟩
            rw [hwS] at xK xB xA7 xHSE1 xHSE2 ⊢
            replace HBW := Lib.hid xB
            replace KA6 := Lib.hid xK
            replace KA7 := Lib.hid xA7
            replace HSE1 := Lib.hid xHSE1
            replace HSE2 := Lib.hid xHSE2
            clear hwS xK xB xA7 xHSE1 xHSE2
            refine hK.out _ _ ?_ (fun hHeld => ?_)
            · (try dsimp only)
              exact ⟨(K13.out.belowS HBW.out).cellV (i := 0) rfl, (K13.out.belowS HBW.out).cellV (i := 1) rfl, (K14.out.belowS HBW.out).cellV (i := 0) rfl, (K16.out.belowS HBW.out).cellV (i := 0) rfl, (K16.out.belowS HBW.out).cellV (i := 1) rfl, (K17.out.belowS HBW.out).cellV (i := 0) rfl⟩
            clear hK K
            refine wpAnyH_ready (rs := [9]) (by kernel_rfl) (by simp) ?_
            refine AllReadyH.cons rfl (fun K hK => ?_) AllReadyH.nil
            refine Tr.wanted_plain rfl ?_
            refine store_mid0 rfl 43 _ _ rfl (Y2.heap.size) 0 #[.slice A2 n2 c2, .map m2] (by rfl) (by rfl) (by have h := there_blk KA7.out; exact h) Tryz.sizeVx (by simp [Value.oneCell']) ?_
            have xK := blk_puts2 (.slice A2 n2 c2) (.map m2) KA7.out
            have xB := bsets HBW.out HL7.out (#[.slice A2 n2 c2, .map m2] : Array Value).toList 0
            have xA6 := KA6.out.farCells (HN7_6.out.symm) (#[.slice A2 n2 c2, .map m2] : Array Value).toList 0
            have xHSE1 := (show SeenG (World.setCells (wS8) (Y2.heap.size) 0 (#[.slice A2 n2 c2, .map m2] : Array Value).toList) _ 13 13 _ _ _ from (HSE1.out.setNo KA7.out (blkX_noI KA7.out (viewX_no _ _ _ _)) 0 (.slice A2 n2 c2)).setNo (KA7.out.set_ 0 (.slice A2 n2 c2)) (blkX_noI (KA7.out.set_ 0 (.slice A2 n2 c2)) (viewX_no _ _ _ _)) 1 (.map m2))
            have xHSE2 := (show SeenG (World.setCells (wS8) (Y2.heap.size) 0 (#[.slice A2 n2 c2, .map m2] : Array Value).toList) _ 13 13 _ _ _ from (HSE2.out.setNo KA7.out (blkX_noI KA7.out (viewX_no _ _ _ _)) 0 (.slice A2 n2 c2)).setNo (KA7.out.set_ 0 (.slice A2 n2 c2)) (blkX_noI (KA7.out.set_ 0 (.slice A2 n2 c2)) (viewX_no _ _ _ _)) 1 (.map m2))
            obtain ⟨wS9, hwS⟩ : ∃ wS, World.setCells wS8 (Y2.heap.size) 0 (#[.slice A2 n2 c2, .map m2] : Array Value).toList = wS := ⟨_, rfl⟩
            rw [hwS] at xK xB xA6 xHSE1 xHSE2 ⊢
            replace HBW := Lib.hid xB
            replace KA7 := Lib.hid xK
            replace KA6 := Lib.hid xA6
            replace HSE1 := Lib.hid xHSE1
            replace HSE2 := Lib.hid xHSE2
            clear hwS xK xB xA6 xHSE1 xHSE2
            refine hK.out _ _ ?_ (fun hHeld => ?_)
            · (try dsimp only)
              exact ⟨(K13.out.belowS HBW.out).cellV (i := 0) rfl, (K13.out.belowS HBW.out).cellV (i := 1) rfl, (K14.out.belowS HBW.out).cellV (i := 0) rfl, (K16.out.belowS HBW.out).cellV (i := 0) rfl, (K16.out.belowS HBW.out).cellV (i := 1) rfl, (K17.out.belowS HBW.out).cellV (i := 0) rfl⟩
            clear hK K
            refine wpAnyH_done (by kernel_rfl) ?_ _
            refine NoPanic.normal ?_
            go_wp2_with fail
            go_meet
            exact ⟨_, _, A1, n1, c1, m1, A2, n2, c2, m2, og1, og2, rfl, rfl, KA6.out, KA7.out, HSE1.out, HSE2.out, HBW.out⟩
        ·
          go_simp
          have HN7_6 := Lib.hid (show Y2.heap.size ≠ Y2.heap.size + 1 from by have h := KA7.out.lt; rw [show ((Y2.alloc (.cells #[.slice none 0 0, .map none] 43)).drew).heap.size = Y2.heap.size + 1 from (show ((Y2.alloc (.cells #[.slice none 0 0, .map none] 43))).heap.size = Y2.heap.size + 1 by simp)] at h; exact Nat.ne_of_lt h)
          have KA6 := Lib.hid (show Blk ((Y2.alloc (.cells #[.slice none 0 0, .map none] 43)).alloc (.cells #[.slice none 0 0, .map none] 43)).drew (Y2.heap.size + 1) 43 #[.slice none 0 0, .map none] from by have h := Blk.new ((Y2.alloc (.cells #[.slice none 0 0, .map none] 43)).drew) 43 #[.slice none 0 0, .map none]; rw [show ((Y2.alloc (.cells #[.slice none 0 0, .map none] 43)).drew).heap.size = Y2.heap.size + 1 from (show ((Y2.alloc (.cells #[.slice none 0 0, .map none] 43))).heap.size = Y2.heap.size + 1 by simp)] at h; exact h)
          have HL6 := Lib.hid (show Y2.heap.size ≤ Y2.heap.size + 1 from by have h := HBW.out.size; rw [show ((Y2.alloc (.cells #[.slice none 0 0, .map none] 43)).drew).heap.size = Y2.heap.size + 1 from (show ((Y2.alloc (.cells #[.slice none 0 0, .map none] 43))).heap.size = Y2.heap.size + 1 by simp)] at h; exact h)
          have hbA : Below (Y2.alloc (.cells #[.slice none 0 0, .map none] 43)).drew.heap.size (Y2.alloc (.cells #[.slice none 0 0, .map none] 43)).drew (((Y2.alloc (.cells #[.slice none 0 0, .map none] 43)).alloc (.cells #[.slice none 0 0, .map none] 43)).drew) := bal (bre (Y2.alloc (.cells #[.slice none 0 0, .map none] 43)).drew) (.cells #[.slice none 0 0, .map none] 43)
          replace HBW := Lib.hid (bstep HBW.out hbA)
          replace KA7 := Lib.hid (KA7.out.belowS hbA)
          clear hbA
          refine hK.out _ _ ?_ (fun hHeld => ?_)
          · (try dsimp only)
            exact ⟨(K13.out.belowS HBW.out).cellV (i := 0) rfl, (K13.out.belowS HBW.out).cellV (i := 1) rfl, (K14.out.belowS HBW.out).cellV (i := 0) rfl, (K16.out.belowS HBW.out).cellV (i := 0) rfl, (K16.out.belowS HBW.out).cellV (i := 1) rfl, (K17.out.belowS HBW.out).cellV (i := 0) rfl⟩
          clear hK K
          refine wpAnyH_ready (rs := [2]) (by kernel_rfl) (by simp) ?_
          refine AllReadyH.cons rfl (fun K hK => ?_) AllReadyH.nil
          go_simp
          refine (seenG_of (RW := 13) (RH := 13) (l := [d1, ee]) (ns := nodesW [d1, ee]) (bs := bs) (fk := fk) (nk := nk) (n := 3) _ (HM1.out.tree.below HBW.out) (HM1.out.place.below HBW.out) (HM1.out.scene.below HBW.out) (nodesW_ok HUL.out) (fun _ h => h) HKL.out (by rw [nodesW_len]; simp) (by decide)).mono ?_
          rintro e wc2 ⟨v1, og1, rfl, hse, hbA⟩
          obtain ⟨A1, n1, c1, m1, rfl⟩ := hse.form
          have HSE1 := Lib.hid hse
          clear hse
          replace HBW := Lib.hid (bstep HBW.out hbA)
          replace KA7 := Lib.hid (KA7.out.belowS hbA)
          replace KA6 := Lib.hid (KA6.out.belowS hbA)
          clear hbA
          go_simp
          refine hK.out _ _ ?_ (fun hHeld => ?_)
          · (try dsimp only)
            exact ⟨(K13.out.belowS HBW.out).cellV (i := 0) rfl, (K13.out.belowS HBW.out).cellV (i := 1) rfl, (K14.out.belowS HBW.out).cellV (i := 0) rfl, (K16.out.belowS HBW.out).cellV (i := 0) rfl, (K16.out.belowS HBW.out).cellV (i := 1) rfl, (K17.out.belowS HBW.out).cellV (i := 0) rfl⟩
          clear hK K
          refine wpAnyH_ready (rs := [5]) (by kernel_rfl) (by simp) ?_
          refine AllReadyH.cons rfl (fun K hK => ?_) AllReadyH.nil
          go_simp
          refine (seenG_of (RW := 13) (RH := 13) (l := [d2, ee]) (ns := nodesW [d2, ee]) (bs := bs2) (fk := fk2) (nk := nk2) (n := 3) _ (HM2.out.tree.below HBW.out) (HM2.out.place.below HBW.out) (HM2.out.scene.below HBW.out) (nodesW_ok HUM.out) (fun _ h => h) HKM.out (by rw [nodesW_len]; simp) (by decide)).mono ?_
          rintro e wc5 ⟨v2, og2, rfl, hse, hbA⟩
          obtain ⟨A2, n2, c2, m2, rfl⟩ := hse.form
          have HSE2 := Lib.hid hse
          clear hse
          replace HBW := Lib.hid (bstep HBW.out hbA)
          replace KA7 := Lib.hid (KA7.out.belowS hbA)
          replace KA6 := Lib.hid (KA6.out.belowS hbA)
          replace HSE1 := Lib.hid (HSE1.out.below hbA)
          clear hbA
          go_simp
          refine hK.out _ _ ?_ (fun hHeld => ?_)
          · (try dsimp only)
            exact ⟨(K13.out.belowS HBW.out).cellV (i := 0) rfl, (K13.out.belowS HBW.out).cellV (i := 1) rfl, (K14.out.belowS HBW.out).cellV (i := 0) rfl, (K16.out.belowS HBW.out).cellV (i := 0) rfl, (K16.out.belowS HBW.out).cellV (i := 1) rfl, (K17.out.belowS HBW.out).cellV (i := 0) rfl⟩
          clear hK K
          refine wpAnyH_ready (rs := [8]) (by kernel_rfl) (by simp) ?_
          refine AllReadyH.cons rfl (fun K hK => ?_) AllReadyH.nil
          refine Tr.wanted_plain rfl ?_
          refine store_mid0 rfl 43 _ _ rfl (Y2.heap.size + 1) 0 #[.slice A1 n1 c1, .map m1] (by rfl) (by rfl) (by have h := there_blk KA6.out; exact h) Tryz.sizeVx (by simp [Value.oneCell']) ?_
          have xK := blk_puts2 (.slice A1 n1 c1) (.map m1) KA6.out
          have xB := bsets HBW.out HL6.out (#[.slice A1 n1 c1, .map m1] : Array Value).toList 0
          have xA7 := KA7.out.farCells (HN7_6.out) (#[.slice A1 n1 c1, .map m1] : Array Value).toList 0
          have xHSE1 := (show SeenG (World.setCells (wc5) (Y2.heap.size + 1) 0 (#[.slice A1 n1 c1, .map m1] : Array Value).toList) _ 13 13 _ _ _ from (HSE1.out.setNo KA6.out (blkX_noI KA6.out (viewX_no _ _ _ _)) 0 (.slice A1 n1 c1)).setNo (KA6.out.set_ 0 (.slice A1 n1 c1)) (blkX_noI (KA6.out.set_ 0 (.slice A1 n1 c1)) (viewX_no _ _ _ _)) 1 (.map m1))
          have xHSE2 := (show SeenG (World.setCells (wc5) (Y2.heap.size + 1) 0 (#[.slice A1 n1 c1, .map m1] : Array Value).toList) _ 13 13 _ _ _ from (HSE2.out.setNo KA6.out (blkX_noI KA6.out (viewX_no _ _ _ _)) 0 (.slice A1 n1 c1)).setNo (KA6.out.set_ 0 (.slice A1 n1 c1)) (blkX_noI (KA6.out.set_ 0 (.slice A1 n1 c1)) (viewX_no _ _ _ _)) 1 (.map m1))
          obtain ⟨wS8, hwS⟩ : ∃ wS, World.setCells wc5 (Y2.heap.size + 1) 0 (#[.slice A1 n1 c1, .map m1] : Array Value).toList = wS := ⟨_, rfl⟩
          rw [hwS] at xK xB xA7 xHSE1 xHSE2 ⊢
          replace HBW := Lib.hid xB
          replace KA6 := Lib.hid xK
          replace KA7 := Lib.hid xA7
          replace HSE1 := Lib.hid xHSE1
          replace HSE2 := Lib.hid xHSE2
          clear hwS xK xB xA7 xHSE1 xHSE2
          refine hK.out _ _ ?_ (fun hHeld => ?_)
          · (try dsimp only)
            exact ⟨(K13.out.belowS HBW.out).cellV (i := 0) rfl, (K13.out.belowS HBW.out).cellV (i := 1) rfl, (K14.out.belowS HBW.out).cellV (i := 0) rfl, (K16.out.belowS HBW.out).cellV (i := 0) rfl, (K16.out.belowS HBW.out).cellV (i := 1) rfl, (K17.out.belowS HBW.out).cellV (i := 0) rfl⟩
          clear hK K
          refine wpAnyH_ready (rs := [9]) (by kernel_rfl) (by simp) ?_
          refine AllReadyH.cons rfl (fun K hK => ?_) AllReadyH.nil
          refine Tr.wanted_plain rfl ?_
          refine store_mid0 rfl 43 _ _ rfl (Y2.heap.size) 0 #[.slice A2 n2 c2, .map m2] (by rfl) (by rfl) (by have h := there_blk KA7.out; exact h) Tryz.sizeVx (by simp [Value.oneCell']) ?_
          have xK := blk_puts2 (.slice A2 n2 c2) (.map m2) KA7.out
          have xB := bsets HBW.out HL7.out (#[.slice A2 n2 c2, .map m2] : Array Value).toList 0
          have xA6 := KA6.out.farCells (HN7_6.out.symm) (#[.slice A2 n2 c2, .map m2] : Array Value).toList 0
          have xHSE1 := (show SeenG (World.setCells (wS8) (Y2.heap.size) 0 (#[.slice A2 n2 c2, .map m2] : Array Value).toList) _ 13 13 _ _ _ from (HSE1.out.setNo KA7.out (blkX_noI KA7.out (viewX_no _ _ _ _)) 0 (.slice A2 n2 c2)).setNo (KA7.out.set_ 0 (.slice A2 n2 c2)) (blkX_noI (KA7.out.set_ 0 (.slice A2 n2 c2)) (viewX_no _ _ _ _)) 1 (.map m2))
          have xHSE2 := (show SeenG (World.setCells (wS8) (Y2.heap.size) 0 (#[.slice A2 n2 c2, .map m2] : Array Value).toList) _ 13 13 _ _ _ from (HSE2.out.setNo KA7.out (blkX_noI KA7.out (viewX_no _ _ _ _)) 0 (.slice A2 n2 c2)).setNo (KA7.out.set_ 0 (.slice A2 n2 c2)) (blkX_noI (KA7.out.set_ 0 (.slice A2 n2 c2)) (viewX_no _ _ _ _)) 1 (.map m2))
          obtain ⟨wS9, hwS⟩ : ∃ wS, World.setCells wS8 (Y2.heap.size) 0 (#[.slice A2 n2 c2, .map m2] : Array Value).toList = wS := ⟨_, rfl⟩
          rw [hwS] at xK xB xA6 xHSE1 xHSE2 ⊢
          replace HBW := Lib.hid xB
          replace KA7 := Lib.hid xK
          replace KA6 := Lib.hid xA6
          replace HSE1 := Lib.hid xHSE1
          replace HSE2 := Lib.hid xHSE2
          clear hwS xK xB xA6 xHSE1 xHSE2
          refine hK.out _ _ ?_ (fun hHeld => ?_)
          · (try dsimp only)
            exact ⟨(K13.out.belowS HBW.out).cellV (i := 0) rfl, (K13.out.belowS HBW.out).cellV (i := 1) rfl, (K14.out.belowS HBW.out).cellV (i := 0) rfl, (K16.out.belowS HBW.out).cellV (i := 0) rfl, (K16.out.belowS HBW.out).cellV (i := 1) rfl, (K17.out.belowS HBW.out).cellV (i := 0) rfl⟩
          clear hK K
          refine wpAnyH_done (by kernel_rfl) ?_ _
          refine NoPanic.normal ?_
          go_wp2_with fail
          go_meet
          exact ⟨_, _, A1, n1, c1, m1, A2, n2, c2, m2, og1, og2, rfl, rfl, KA6.out, KA7.out, HSE1.out, HSE2.out, HBW.out⟩
  obtain ⟨g1, g2, A1, n1, c1, m1, A2, n2, c2, m2, og1, og2, rfl, rfl, hk1, hk2, hs1, hs2, hbc⟩ := hcut
  have K19 := Lib.hid hk1
  have K20 := Lib.hid hk2
  have HS1 := Lib.hid hs1
  have HS2 := Lib.hid hs2
  replace HB := Lib.hid (bstep HB.out hbc)
  clear hk1 hk2 hs1 hs2 hbc HM1 HM2 K13 K14 K16 K17
  obtain ⟨Z, hZ⟩ : ∃ Z, Z = wc := ⟨_, rfl⟩
  subst hZ
  go_wp2_with fail
  go_loopw [21] (fun i wr => ∃ k : Nat, i = .int .i64 k ∧ k ≤ 2 ∧ Below Z.heap.size Z wr) (fun i _ => 2 - (intOf i).toNat)
  case atStart => exact ⟨0, rfl, by omega, bre Z⟩
  case round =>
    obtain ⟨k, rfl, hk, hbw⟩ := hrel
    have HBZ := Lib.hid hbw
    clear hbw
    by_cases hlt : k < 2
    · have k1 : (k : Int) < 2 := by omega
      have hids : -1 ≤ (k : Int) ∧ (k : Int) ≤ 1000000 := by omega
      have HIW := Lib.hid (idW_bd hids)
      go_upto_region 15 with fail
      have HBW := Lib.hid (show Below wr.heap.size wr wr.drew from (bre wr).drew)
      refine wp_region_noPanic ?_
      refine wp_region_held_drew (S := (fun w' => w'.cell? ⟨g1, 0, none⟩ = some (.slice A1 n1 c1) ∧ w'.cell? ⟨g1, 1, none⟩ = some (.map m1) ∧ w'.cell? ⟨g2, 0, none⟩ = some (.slice A2 n2 c2) ∧ w'.cell? ⟨g2, 1, none⟩ = some (.map m2))) (by kernel_rfl) ?_ (fun hHeld => ?_)
      · (try dsimp only)
        exact ⟨((K19.out.belowS HBZ.out).belowS HBW.out).cellV (i := 0) rfl, ((K19.out.belowS HBZ.out).belowS HBW.out).cellV (i := 1) rfl, ((K20.out.belowS HBZ.out).belowS HBW.out).cellV (i := 0) rfl, ((K20.out.belowS HBZ.out).belowS HBW.out).cellV (i := 1) rfl⟩
      refine Tr.take_at 0 102 (.agg #[.slice A1 n1 c1, .map m1]) rfl rfl (by kernel_rfl) (by kernel_rfl) (by kernel_rfl) (fun _ _ _ h => h) (Or.inl ⟨by rfl, ?_⟩) (by assumption) ?_
      · intro W0 hSw
        (try dsimp only at hSw)
        go_simp
      simp only [List.set_cons_zero, List.set_cons_succ]
      refine Tr.take_at 1 103 (.int .i64 k) rfl rfl (by kernel_rfl) (by kernel_rfl) (by kernel_rfl) (fun _ _ _ h => h) (Or.inl ⟨by rfl, ?_⟩) (by assumption) ?_
      · intro W0 hSw
        (try dsimp only at hSw)
        go_simp
      simp only [List.set_cons_zero, List.set_cons_succ]
      refine Tr.take_at 4 106 (.agg #[.slice A2 n2 c2, .map m2]) rfl rfl (by kernel_rfl) (by kernel_rfl) (by kernel_rfl) (fun _ _ _ h => h) (Or.inl ⟨by rfl, ?_⟩) (by assumption) ?_
      · intro W0 hSw
        (try dsimp only at hSw)
        go_simp
      simp only [List.set_cons_zero, List.set_cons_succ]
      refine Tr.take_at 5 107 (.int .i64 k) rfl rfl (by kernel_rfl) (by kernel_rfl) (by kernel_rfl) (fun _ _ _ h => h) (Or.inl ⟨by rfl, ?_⟩) (by assumption) ?_
      · intro W0 hSw
        (try dsimp only at hSw)
        go_simp
      simp only [List.set_cons_zero, List.set_cons_succ]
      refine wpAnyH_ready (rs := [2]) (by kernel_rfl) (by simp) ?_
      refine AllReadyH.cons rfl (fun K hK => ?_) AllReadyH.nil
      go_simp
      refine (id_b (k : Int) _ hids).mono ?_
      rintro e wd2 ⟨rfl, hbA⟩
      replace HBW := Lib.hid (bstep HBW.out hbA)
      clear hbA
      go_simp
      refine hK.out _ _ ?_ (fun hHeld => ?_)
      · (try dsimp only)
        exact ⟨((K19.out.belowS HBZ.out).belowS HBW.out).cellV (i := 0) rfl, ((K19.out.belowS HBZ.out).belowS HBW.out).cellV (i := 1) rfl, ((K20.out.belowS HBZ.out).belowS HBW.out).cellV (i := 0) rfl, ((K20.out.belowS HBZ.out).belowS HBW.out).cellV (i := 1) rfl⟩
      clear hK K
      refine wpAnyH_ready (rs := [3]) (by kernel_rfl) (by simp) ?_
      refine AllReadyH.cons rfl (fun K hK => ?_) AllReadyH.nil
      go_simp
      refine (((HS1.out.below HBZ.out).below HBW.out).visible (nodesW_ok HUL.out) (idW (k : Int)) HIW.out).mono ?_
      rintro e wd3 ⟨u3, out3, rfl, hro, hpo, hao, hln, hbA⟩
      have hrr := hro
      obtain ⟨Ao3, co3, rfl, hrd, hcan, _, hcnt⟩ := hro
      have HRD3 := Lib.hid hrd
      have HAO3 := Lib.hid hao
      have HLN3 := Lib.hid hln
      have HCN3 := Lib.hid hcnt
      have HPO3 := Lib.hid hpo
      have HCA3 := Lib.hid hcan
      clear hrd hcan hcnt hpo hao hln hrr
      replace HBW := Lib.hid (bstep HBW.out hbA)
      clear hbA
      go_simp
      refine hK.out _ _ ?_ (fun hHeld => ?_)
      · (try dsimp only)
        exact ⟨((K19.out.belowS HBZ.out).belowS HBW.out).cellV (i := 0) rfl, ((K19.out.belowS HBZ.out).belowS HBW.out).cellV (i := 1) rfl, ((K20.out.belowS HBZ.out).belowS HBW.out).cellV (i := 0) rfl, ((K20.out.belowS HBZ.out).belowS HBW.out).cellV (i := 1) rfl⟩
      clear hK K
      refine wpAnyH_ready (rs := [6]) (by kernel_rfl) (by simp) ?_
      refine AllReadyH.cons rfl (fun K hK => ?_) AllReadyH.nil
      go_simp
      refine (id_b (k : Int) _ hids).mono ?_
      rintro e wd6 ⟨rfl, hbA⟩
      replace HBW := Lib.hid (bstep HBW.out hbA)
      replace HRD3 := Lib.hid (HRD3.out.below hbA)
      clear hbA
      go_simp
      refine hK.out _ _ ?_ (fun hHeld => ?_)
      · (try dsimp only)
        exact ⟨((K19.out.belowS HBZ.out).belowS HBW.out).cellV (i := 0) rfl, ((K19.out.belowS HBZ.out).belowS HBW.out).cellV (i := 1) rfl, ((K20.out.belowS HBZ.out).belowS HBW.out).cellV (i := 0) rfl, ((K20.out.belowS HBZ.out).belowS HBW.out).cellV (i := 1) rfl⟩
      clear hK K
      refine wpAnyH_ready (rs := [7]) (by kernel_rfl) (by simp) ?_
      refine AllReadyH.cons rfl (fun K hK => ?_) AllReadyH.nil
      go_simp
      refine (((HS2.out.below HBZ.out).below HBW.out).visible (nodesW_ok HUM.out) (idW (k : Int)) HIW.out).mono ?_
      rintro e wd7 ⟨u7, out7, rfl, hro, hpo, hao, hln, hbA⟩
      have hrr := hro
      obtain ⟨Ao7, co7, rfl, hrd, hcan, _, hcnt⟩ := hro
      have HRD7 := Lib.hid hrd
      have HAO7 := Lib.hid hao
      have HLN7 := Lib.hid hln
      have HCN7 := Lib.hid hcnt
      have HPO7 := Lib.hid hpo
      have HCA7 := Lib.hid hcan
      clear hrd hcan hcnt hpo hao hln hrr
      replace HBW := Lib.hid (bstep HBW.out hbA)
      replace HRD3 := Lib.hid (HRD3.out.below hbA)
      clear hbA
      go_simp
      refine hK.out _ _ ?_ (fun hHeld => ?_)
      · (try dsimp only)
        exact ⟨((K19.out.belowS HBZ.out).belowS HBW.out).cellV (i := 0) rfl, ((K19.out.belowS HBZ.out).belowS HBW.out).cellV (i := 1) rfl, ((K20.out.belowS HBZ.out).belowS HBW.out).cellV (i := 0) rfl, ((K20.out.belowS HBZ.out).belowS HBW.out).cellV (i := 1) rfl⟩
      clear hK K
      refine wpAnyH_ready (rs := [8]) (by kernel_rfl) (by simp) ?_
      refine AllReadyH.cons rfl (fun K hK => ?_) AllReadyH.nil
      go_simp
      have heq : out7 = out3 := canon_uniq HCA7.out HCA3.out (fun x y => by
        rw [← inB_iff, ← inB_iff, HPO7.out, HPO3.out, HMV.out k hlt x y])
      subst heq
      have HAE := Lib.hid (HAO7.out.symm.trans HAO3.out)
      refine (bandSame_eq Ao3 Ao7 out7.length co3 co7 out7 _ (by have := HLN3.out; omega) HRD3.out HRD7.out).mono ?_
      rintro e wd8 ⟨rfl, hbA⟩
      replace HBW := Lib.hid (bstep HBW.out hbA)
      replace HRD3 := Lib.hid (HRD3.out.below hbA)
      replace HRD7 := Lib.hid (HRD7.out.below hbA)
      clear hbA
      go_simp
      refine hK.out _ _ ?_ (fun hHeld => ?_)
      · (try dsimp only)
        exact ⟨((K19.out.belowS HBZ.out).belowS HBW.out).cellV (i := 0) rfl, ((K19.out.belowS HBZ.out).belowS HBW.out).cellV (i := 1) rfl, ((K20.out.belowS HBZ.out).belowS HBW.out).cellV (i := 0) rfl, ((K20.out.belowS HBZ.out).belowS HBW.out).cellV (i := 1) rfl⟩
      clear hK K
      refine Tr.take_at 9 111 (.bool false) rfl rfl (by kernel_rfl) (by kernel_rfl) (by kernel_rfl) (fun _ _ _ h => h) (Or.inl ⟨by rfl, ?_⟩) (by assumption) ?_
      · intro W0 hSw
        (try dsimp only at hSw)
        go_simp
      simp only [List.set_cons_zero, List.set_cons_succ]
      refine Tr.take_at 10 112 (.bool false) rfl rfl (by kernel_rfl) (by kernel_rfl) (by kernel_rfl) (fun _ _ _ h => h) (Or.inl ⟨by rfl, ?_⟩) (by assumption) ?_
      · intro W0 hSw
        (try dsimp only at hSw)
        go_simp
      simp only [List.set_cons_zero, List.set_cons_succ]
      refine Tr.take_at 11 113 (.agg #[.slice A1 n1 c1, .map m1]) rfl rfl (by kernel_rfl) (by kernel_rfl) (by kernel_rfl) (fun _ _ _ h => h) (Or.inl ⟨by rfl, ?_⟩) (by assumption) ?_
      · intro W0 hSw
        (try dsimp only at hSw)
        go_simp
      simp only [List.set_cons_zero, List.set_cons_succ]
      refine Tr.take_at 12 114 (.int .i64 k) rfl rfl (by kernel_rfl) (by kernel_rfl) (by kernel_rfl) (fun _ _ _ h => h) (Or.inl ⟨by rfl, ?_⟩) (by assumption) ?_
      · intro W0 hSw
        (try dsimp only at hSw)
        go_simp
      simp only [List.set_cons_zero, List.set_cons_succ]
      refine Tr.take_at 16 118 (.agg #[.slice A2 n2 c2, .map m2]) rfl rfl (by kernel_rfl) (by kernel_rfl) (by kernel_rfl) (fun _ _ _ h => h) (Or.inl ⟨by rfl, ?_⟩) (by assumption) ?_
      · intro W0 hSw
        (try dsimp only at hSw)
        go_simp
      simp only [List.set_cons_zero, List.set_cons_succ]
      refine Tr.take_at 17 119 (.int .i64 k) rfl rfl (by kernel_rfl) (by kernel_rfl) (by kernel_rfl) (fun _ _ _ h => h) (Or.inl ⟨by rfl, ?_⟩) (by assumption) ?_
      · intro W0 hSw
        (try dsimp only at hSw)
        go_simp
      simp only [List.set_cons_zero, List.set_cons_succ]
      refine wpAnyH_ready (rs := [13]) (by kernel_rfl) (by simp) ?_
      refine AllReadyH.cons rfl (fun K hK => ?_) AllReadyH.nil
      go_simp
      refine (id_b (k : Int) _ hids).mono ?_
      rintro e wd13 ⟨rfl, hbA⟩
      replace HBW := Lib.hid (bstep HBW.out hbA)
      clear hbA
      go_simp
      refine hK.out _ _ ?_ (fun hHeld => ?_)
      · (try dsimp only)
        exact ⟨((K19.out.belowS HBZ.out).belowS HBW.out).cellV (i := 0) rfl, ((K19.out.belowS HBZ.out).belowS HBW.out).cellV (i := 1) rfl, ((K20.out.belowS HBZ.out).belowS HBW.out).cellV (i := 0) rfl, ((K20.out.belowS HBZ.out).belowS HBW.out).cellV (i := 1) rfl⟩
      clear hK K
      refine wpAnyH_ready (rs := [14]) (by kernel_rfl) (by simp) ?_
      refine AllReadyH.cons rfl (fun K hK => ?_) AllReadyH.nil
      go_simp
      refine (((HS1.out.below HBZ.out).below HBW.out).clip (nodesW_ok HUL.out) (idW (k : Int)) HIW.out).mono ?_
      rintro e wd14 ⟨u14, out14, rfl, hro, hpo, hao, hln, hbA⟩
      have hrr := hro
      obtain ⟨Ao14, co14, rfl, hrd, hcan, _, hcnt⟩ := hro
      have HRD14 := Lib.hid hrd
      have HAO14 := Lib.hid hao
      have HLN14 := Lib.hid hln
      have HCN14 := Lib.hid hcnt
      have HPO14 := Lib.hid hpo
      have HCA14 := Lib.hid hcan
      clear hrd hcan hcnt hpo hao hln hrr
      replace HBW := Lib.hid (bstep HBW.out hbA)
      clear hbA
      go_simp
      refine hK.out _ _ ?_ (fun hHeld => ?_)
      · (try dsimp only)
        exact ⟨((K19.out.belowS HBZ.out).belowS HBW.out).cellV (i := 0) rfl, ((K19.out.belowS HBZ.out).belowS HBW.out).cellV (i := 1) rfl, ((K20.out.belowS HBZ.out).belowS HBW.out).cellV (i := 0) rfl, ((K20.out.belowS HBZ.out).belowS HBW.out).cellV (i := 1) rfl⟩
      clear hK K
      refine wpAnyH_ready (rs := [15]) (by kernel_rfl) (by simp) ?_
      refine AllReadyH.cons rfl (fun K hK => ?_) AllReadyH.nil
      go_simp
      have hh := area_any Ao14 out14.length co14 out14 _ (by have := HLN14.out; omega) HRD14.out HCN14.out
      rw [HAO14.out] at hh
      refine hh.mono ?_
      clear hh
      rintro e wd15 ⟨rfl, hbA⟩
      replace HBW := Lib.hid (bstep HBW.out hbA)
      replace HRD14 := Lib.hid (HRD14.out.below hbA)
      clear hbA
      go_simp
      refine hK.out _ _ ?_ (fun hHeld => ?_)
      · (try dsimp only)
        exact ⟨((K19.out.belowS HBZ.out).belowS HBW.out).cellV (i := 0) rfl, ((K19.out.belowS HBZ.out).belowS HBW.out).cellV (i := 1) rfl, ((K20.out.belowS HBZ.out).belowS HBW.out).cellV (i := 0) rfl, ((K20.out.belowS HBZ.out).belowS HBW.out).cellV (i := 1) rfl⟩
      clear hK K
      refine wpAnyH_ready (rs := [18]) (by kernel_rfl) (by simp) ?_
      refine AllReadyH.cons rfl (fun K hK => ?_) AllReadyH.nil
      go_simp
      refine (id_b (k : Int) _ hids).mono ?_
      rintro e wd18 ⟨rfl, hbA⟩
      replace HBW := Lib.hid (bstep HBW.out hbA)
      replace HRD14 := Lib.hid (HRD14.out.below hbA)
      clear hbA
      go_simp
      refine hK.out _ _ ?_ (fun hHeld => ?_)
      · (try dsimp only)
        exact ⟨((K19.out.belowS HBZ.out).belowS HBW.out).cellV (i := 0) rfl, ((K19.out.belowS HBZ.out).belowS HBW.out).cellV (i := 1) rfl, ((K20.out.belowS HBZ.out).belowS HBW.out).cellV (i := 0) rfl, ((K20.out.belowS HBZ.out).belowS HBW.out).cellV (i := 1) rfl⟩
      clear hK K
      refine wpAnyH_ready (rs := [19]) (by kernel_rfl) (by simp) ?_
      refine AllReadyH.cons rfl (fun K hK => ?_) AllReadyH.nil
      go_simp
      refine (((HS2.out.below HBZ.out).below HBW.out).clip (nodesW_ok HUM.out) (idW (k : Int)) HIW.out).mono ?_
      rintro e wd19 ⟨u19, out19, rfl, hro, hpo, hao, hln, hbA⟩
      have hrr := hro
      obtain ⟨Ao19, co19, rfl, hrd, hcan, _, hcnt⟩ := hro
      have HRD19 := Lib.hid hrd
      have HAO19 := Lib.hid hao
      have HLN19 := Lib.hid hln
      have HCN19 := Lib.hid hcnt
      have HPO19 := Lib.hid hpo
      have HCA19 := Lib.hid hcan
      clear hrd hcan hcnt hpo hao hln hrr
      replace HBW := Lib.hid (bstep HBW.out hbA)
      replace HRD14 := Lib.hid (HRD14.out.below hbA)
      clear hbA
      go_simp
      refine hK.out _ _ ?_ (fun hHeld => ?_)
      · (try dsimp only)
        exact ⟨((K19.out.belowS HBZ.out).belowS HBW.out).cellV (i := 0) rfl, ((K19.out.belowS HBZ.out).belowS HBW.out).cellV (i := 1) rfl, ((K20.out.belowS HBZ.out).belowS HBW.out).cellV (i := 0) rfl, ((K20.out.belowS HBZ.out).belowS HBW.out).cellV (i := 1) rfl⟩
      clear hK K
      refine wpAnyH_ready (rs := [20]) (by kernel_rfl) (by simp) ?_
      refine AllReadyH.cons rfl (fun K hK => ?_) AllReadyH.nil
      go_simp
      have hh := area_any Ao19 out19.length co19 out19 _ (by have := HLN19.out; omega) HRD19.out HCN19.out
      rw [HAO19.out, HAE.out] at hh
      refine hh.mono ?_
      clear hh
      rintro e wd20 ⟨rfl, hbA⟩
      replace HBW := Lib.hid (bstep HBW.out hbA)
      replace HRD14 := Lib.hid (HRD14.out.below hbA)
      replace HRD19 := Lib.hid (HRD19.out.below hbA)
      clear hbA
      go_simp
      refine hK.out _ _ ?_ (fun hHeld => ?_)
      · (try dsimp only)
        exact ⟨((K19.out.belowS HBZ.out).belowS HBW.out).cellV (i := 0) rfl, ((K19.out.belowS HBZ.out).belowS HBW.out).cellV (i := 1) rfl, ((K20.out.belowS HBZ.out).belowS HBW.out).cellV (i := 0) rfl, ((K20.out.belowS HBZ.out).belowS HBW.out).cellV (i := 1) rfl⟩
      clear hK K
      refine Tr.take_at 21 123 (.bool false) rfl rfl (by kernel_rfl) (by kernel_rfl) (by kernel_rfl) (fun _ _ _ h => h) (Or.inl ⟨by rfl, ?_⟩) (by assumption) ?_
      · intro W0 hSw
        (try dsimp only at hSw)
        go_simp
      simp only [List.set_cons_zero, List.set_cons_succ]
      refine Tr.take_at 22 124 (.bool false) rfl rfl (by kernel_rfl) (by kernel_rfl) (by kernel_rfl) (fun _ _ _ h => h) (Or.inl ⟨by rfl, ?_⟩) (by assumption) ?_
      · intro W0 hSw
        (try dsimp only at hSw)
        go_simp
      simp only [List.set_cons_zero, List.set_cons_succ]
      refine wpAnyH_done (by kernel_rfl) ?_ _
      refine NoPanic.normal ?_
      go_wp2_with fail
      go_roundw
      case rel => exact ⟨k + 1, by go_num, by omega, bstep HBZ.out HBW.out⟩
      case measure => simp [intOf]; omega
    · obtain rfl : k = 2 := by omega
      have k1 : ¬ ((2 : Nat) : Int) < 2 := by decide
      go_wp2_with fail
      refine (awake31_any _).mono ?_
      rintro e w22 ⟨rfl, hb22⟩
      have HB2 := Lib.hid (bstep (bstep HB.out HBZ.out) hb22)
      clear hb22
      go_wp2_with fail
      go_ret
      exact ⟨rfl, HB2.out⟩
end Go.Proofs.YtbkkecijcijhdaaGreat
end
