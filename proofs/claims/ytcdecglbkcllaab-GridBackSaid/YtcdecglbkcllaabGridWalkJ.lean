/-
  The walk of the laws' planes as the document's grid.
-/
import Derived.Test.YtcdecglbkcllaabGridWalkI
namespace Go.Proofs.Ytcdecglbkcllaab
open Go.RowKit

set_option maxRecDepth 100000 in
set_option maxHeartbeats 2000000 in
theorem ref_fr (a b : Int) (W H : Nat) (ps : List Int) (A : Option Addr) (m c : Nat) (w : World) (ha : a % 16 + 1 = W) (hb : b % 16 + 1 = H) (ha0 : 0 ≤ a ∧ a ≤ 255) (hb0 : 0 ≤ b ∧ b ≤ 255) (hm : m ≤ 300) (hr : Rd w A m (U8 ps)) :
    Calls Try.prog 20 #[.agg #[.int .u8 a, .int .u8 b, .slice A m c]] w fun e w' => ∃ A' c', e = .returned (.agg #[.int .i64 W, .int .i64 H, .slice A' (W * H) c']) ∧ Rd w' A' (W * H) (U8 (pl (W * H) ps m)) ∧ Fr w.heap.size A' ∧ Below w.heap.size w w' := by
  have hW : 1 ≤ W ∧ W ≤ 16 := by omega
  have hH : 1 ≤ H ∧ H ≤ 16 := by omega
  have hN : W * H ≤ 256 := by have := Nat.mul_le_mul hW.2 hH.2; omega
  have t1 : a.tmod 16 = a % 16 := Int.tmod_eq_emod_of_nonneg ha0.1
  have t2 : b.tmod 16 = b % 16 := Int.tmod_eq_emod_of_nonneg hb0.1
  have v1 : IntKind.u8.wrap (a % 16) = a % 16 := IntWalk.u8_in _ (by omega)
  have v2 : IntKind.u8.wrap (b % 16) = b % 16 := IntWalk.u8_in _ (by omega)
  have v3 : IntKind.i64.wrap (a % 16) = a % 16 := IntWalk.i64_in _ (by omega)
  have v4 : IntKind.i64.wrap (b % 16) = b % 16 := IntWalk.i64_in _ (by omega)
  have v5 : IntKind.i64.wrap (a % 16 + 1) = (W : Int) := (IntWalk.i64_in _ (by omega)).trans ha
  have v6 : IntKind.i64.wrap (b % 16 + 1) = (H : Int) := (IntWalk.i64_in _ (by omega)).trans hb
  have HR := Lib.hid hr
  have HA := Lib.hid ha
  have HB := Lib.hid hb
  clear hr ha hb
  go_enter Try.func20, Try.ntmps20
  go_wp2_with (go_at_call 16; refine (rnew_any _ _ _ _ (by omega) (by omega)).mono ?_; rintro e w1 ⟨A1, c1, rfl, r1, b1⟩; have R1 := Lib.hid r1; have B1 := Lib.hid b1; have bx0 := (((Blk.new w 41 #[.int .u8 a, .int .u8 b, .slice A m c]).alloc (.cells #[.int .i64 0, .int .i64 0, .slice none 0 0] 36))).belowS b1; have z1 : w.heap.size + 1 + 1 ≤ w1.heap.size := (by simpa using b1.size); have x2' : (w1.alloc (.cells #[.int .i64 W, .int .i64 H, .slice A1 (W * H) c1] 36)).cell? ⟨w.heap.size, 2, none⟩ = some (.slice A m c) := ((bx0.alloc _).cellV (i := 2) rfl); clear r1 b1)
  obtain ⟨gp, rfl⟩ : ∃ gp, A1 = some ⟨gp, 0, none⟩ := by
    rcases R1.out.2 with ⟨e, e2⟩ | ⟨g, _, _, e, _⟩
    · have := Nat.mul_pos hW.1 hH.1
      omega
    · injection e with e _ _
      exact ⟨g, e⟩
  have bB : Below w.heap.size w (w1.alloc (.cells #[.int .i64 W, .int .i64 H, .slice (some ⟨gp, 0, none⟩) (W * H) c1] 36)) := bal (bstep (bal (bal (bre w) (.cells #[.int .u8 a, .int .u8 b, .slice A m c] 41)) (.cells #[.int .i64 0, .int .i64 0, .slice none 0 0] 36)) B1.out) _
  have bG := Blk.new w1 36 #[.int .i64 W, .int .i64 H, .slice (some ⟨gp, 0, none⟩) (W * H) c1]
  have bZ : Blk (w1.alloc (.cells #[.int .i64 W, .int .i64 H, .slice (some ⟨gp, 0, none⟩) (W * H) c1] 36)) (w.heap.size + 1) 36 #[.int .i64 0, .int .i64 0, .slice none 0 0] := by
    have h := Blk.new (w.alloc (.cells #[.int .u8 a, .int .u8 b, .slice A m c] 41)) 36 #[.int .i64 0, .int .i64 0, .slice none 0 0]
    rw [World.size_alloc] at h
    exact (h.belowS B1.out).alloc _
  have rG := R1.out.alloc (.cells #[.int .i64 W, .int .i64 H, .slice (some ⟨gp, 0, none⟩) (W * H) c1] 36)
  simp only [World.size_alloc] at rG
  have gpl : gp < w1.heap.size := (R1.out.lt gp rfl).2
  have gpg : w.heap.size + 1 + 1 ≤ gp := by have := (R1.out.lt gp rfl).1; simpa using this
  obtain ⟨X, hX⟩ : ∃ X, w1.alloc (.cells #[.int .i64 W, .int .i64 H, .slice (some ⟨gp, 0, none⟩) (W * H) c1] 36) = X := ⟨_, rfl⟩
  obtain ⟨g, hg⟩ : ∃ g, w1.heap.size = g := ⟨_, rfl⟩
  rw [hX] at bG bZ bB rG ⊢
  rw [hg] at bG z1 gpl ⊢
  clear hX hg R1 B1 bx0 x2'
  rw [← pl_zero (W * H) ps] at rG
  have hBB := Lib.hid bB
  have hBG := Lib.hid bG
  have hBZ := Lib.hid bZ
  have hRG := Lib.hid rG
  obtain ⟨N, hNN⟩ : ∃ N, W * H = N := ⟨_, rfl⟩
  have HNN := Lib.hid hNN
  rw [hNN] at hBG hRG hN
  clear bB bG bZ rG hNN
  go_loopw [20] (fun i wr => ∃ k : Nat, i = .int .i64 k ∧ k ≤ m ∧ Blk wr g 36 #[.int .i64 W, .int .i64 H, .slice (some ⟨gp, 0, none⟩) N c1] ∧ Blk wr (w.heap.size + 1) 36 #[.int .i64 0, .int .i64 0, .slice none 0 0] ∧ wr.ownsRow (w.heap.size + 1 + 1) 22 1 (.slice (some ⟨gp, 0, none⟩) N c1) N (U8 (pl N ps k)) ∧ Below w.heap.size w wr) (fun i _ => m - (intOf i).toNat)
  case atStart => exact ⟨0, rfl, by omega, hBG.out, hBZ.out, hRG.out, hBB.out⟩
  case round =>
    obtain ⟨k, rfl, hk, bg, bz, rg, hB⟩ := hrel
    clear hBB hBG hBZ hRG
    have BG := Lib.hid bg
    have BZ := Lib.hid bz
    have RG := Lib.hid rg
    have hBB := Lib.hid hB
    have gl := bg.lt
    have g0 := bg.cellV (i := 0) (v := .int .i64 W) rfl
    have g1 := bg.cellV (i := 1) (v := .int .i64 H) rfl
    have g2 := bg.cellV (i := 2) (v := .slice (some ⟨gp, 0, none⟩) N c1) rfl
    clear bz rg hB bg
    by_cases hlt : k < m
    · obtain ⟨p, hp⟩ : ∃ p, ps[k]? = some p := ⟨_, List.getElem?_eq_getElem (by have := HR.out.1; simp [U8] at this; omega)⟩
      obtain ⟨bA, off, rfl, hbl, hcell⟩ := HR.out.2 (by omega)
      have hcp : wr.cell? ⟨bA, off + k, none⟩ = some (.int .u8 p) := (hBB.out.cell (p := ⟨bA, off + k, none⟩) hbl).trans (hcell k _ (by simp [U8, hp]))
      have HP := Lib.hid hp
      have k0 : (0 : Int) ≤ (k : Int) := by omega
      have k2 : (k : Int) < (m : Int) := by omega
      clear hp hcell
      by_cases hkN : k < N
      · have hd : decide ((k : Int) < (N : Int)) = true := by simp; omega
        have k3 : (k : Int) < (N : Int) := by omega
        obtain ⟨v0, hv0⟩ : ∃ v, (U8 (pl N ps k))[k]? = some v := ⟨_, List.getElem?_eq_getElem (by have := RG.out.1; omega)⟩
        have cp := (RG.out.cellAt k (by omega)).trans hv0
        have fp := RG.out.frozenAt k
        clear hv0
        go_wp2_with fail
        go_roundw
        case rel =>
          have e : (U8 (pl N ps k)).set k (.int .u8 p) = U8 (pl N ps (k + 1)) := by rw [pl_set HP.out]; simp [U8, List.map_set]
          refine ⟨k + 1, by go_num, by omega, BG.out.far (p := ⟨gp, k, none⟩) (by dsimp only; omega) _, BZ.out.far (p := ⟨gp, k, none⟩) (by dsimp only; omega) _, ?_, bset (p := ⟨gp, k, none⟩) hBB.out (by dsimp only; omega) _⟩
          rw [← e]
          exact (RG.out.stored k _).1
        case measure => simp [intOf]; omega
      · have hd : decide ((k : Int) < (N : Int)) = false := by simp; omega
        go_wp2_with fail
        go_roundw
        case rel => exact ⟨k + 1, by go_num, by omega, BG.out, BZ.out, by rw [pl_far (by omega)]; exact RG.out, hBB.out⟩
        case measure => simp [intOf]; omega
    · obtain rfl : k = m := by omega
      have bz := BZ.out
      have d0 := bz.cellV (i := 0) (v := .int .i64 0) rfl
      have d1 := bz.cellV (i := 1) (v := .int .i64 0) rfl
      have d2 := bz.cellV (i := 2) (v := .slice none 0 0) rfl
      have f0 := bz.frozen 0
      have f1 := bz.frozen 1
      have f2 := bz.frozen 2
      clear bz
      have hne : ∀ a : Addr, some (⟨gp, 0, none⟩ : Addr) = some a → a.block ≠ w.heap.size + 1 := fun a ea => by cases ea; dsimp only; omega
      go_wp2_with fail
      rw [HNN.out]
      refine bodyPost_ret (v := .agg #[.int .i64 W, .int .i64 H, .slice (some ⟨gp, 0, none⟩) N c1]) (by simp [results, Try.results20, go_sem, d0, d1, d2]) rfl ⟨some ⟨gp, 0, none⟩, c1, rfl, ?_, (fun a ea => by cases ea; dsimp only; omega), ?_⟩
      · exact (((Rd.of_own RG.out).far (p := ⟨w.heap.size + 1, 0, none⟩) hne _).far (p := ⟨w.heap.size + 1, 1, none⟩) hne _).far (p := ⟨w.heap.size + 1, 2, none⟩) hne _
      · exact bset (p := ⟨_, _, _⟩) (bset (p := ⟨_, _, _⟩) (bset (p := ⟨_, _, _⟩) hBB.out (by dsimp only; omega) _) (by dsimp only; omega) _) (by dsimp only; omega) _

theorem ref_any (a b : Int) (W H : Nat) (ps : List Int) (A : Option Addr) (m c : Nat) (w : World) (ha : a % 16 + 1 = W) (hb : b % 16 + 1 = H) (ha0 : 0 ≤ a ∧ a ≤ 255) (hb0 : 0 ≤ b ∧ b ≤ 255) (hm : m ≤ 300) (hr : Rd w A m (U8 ps)) :
    Calls Try.prog 20 #[.agg #[.int .u8 a, .int .u8 b, .slice A m c]] w fun e w' => ∃ A' c', e = .returned (.agg #[.int .i64 W, .int .i64 H, .slice A' (W * H) c']) ∧ Rd w' A' (W * H) (U8 (pl (W * H) ps m)) ∧ Below w.heap.size w w' :=
  (ref_fr a b W H ps A m c w ha hb ha0 hb0 hm hr).mono fun _ _ ⟨A', c', h1, h2, _, h4⟩ => ⟨A', c', h1, h2, h4⟩

end Go.Proofs.Ytcdecglbkcllaab
