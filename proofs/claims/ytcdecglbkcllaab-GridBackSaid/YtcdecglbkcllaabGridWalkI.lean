/-
  The walks of the laws' planes: a grid by plain numbers.
-/
import Derived.Test.YtcdecglbkcllaabGridWalkG
import Derived.Deep.RegionWith
namespace Go.Proofs.Ytcdecglbkcllaab
open Go.RowKit

/-- the first k of the numbers, zeros else. -/
def pl (N : Nat) (ps : List Int) (k : Nat) : List Int := (List.range N).map fun i => if i < k then ps.getD i 0 else 0
theorem pl_length (N : Nat) (ps : List Int) (k : Nat) : (pl N ps k).length = N := by simp [pl]
theorem pl_zero (N : Nat) (ps : List Int) : pl N ps 0 = List.replicate N 0 := by
  apply List.ext_getElem <;> simp [pl]
theorem pl_far {N : Nat} {ps : List Int} {k : Nat} (h : N ≤ k) : pl N ps (k + 1) = pl N ps k := by
  unfold pl
  apply List.map_congr_left
  intro i hi
  simp at hi
  rw [if_pos (by omega), if_pos (by omega)]
theorem pl_set {N : Nat} {ps : List Int} {k : Nat} {p : Int} (hp : ps[k]? = some p) : pl N ps (k + 1) = (pl N ps k).set k p := by
  apply List.ext_getElem
  · simp [pl]
  · intro i h1 h2
    simp only [pl, List.getElem_map, List.getElem_range, List.getElem_set]
    by_cases hik : k = i
    · subst hik
      rw [if_pos (by omega), if_pos rfl, List.getD_eq_getElem?_getD, hp]
      rfl
    · rw [if_neg hik]
      by_cases h : i < k
      · rw [if_pos (by omega), if_pos h]
      · rw [if_neg (by omega), if_neg h]

set_option maxRecDepth 100000 in
set_option maxHeartbeats 2000000 in
theorem make_any (a b : Int) (W H : Nat) (ps : List Int) (A : Option Addr) (m c : Nat) (w : World) (ha : a % 16 + 1 = W) (hb : b % 16 + 1 = H) (ha0 : 0 ≤ a ∧ a ≤ 255) (hb0 : 0 ≤ b ∧ b ≤ 255) (hm : m ≤ 300) (hr : Rd w A m (U8 ps)) :
    Calls Try.prog 17 #[.agg #[.int .u8 a, .int .u8 b, .slice A m c]] w fun e w' => ∃ A' c', e = .returned (.agg #[.int .i64 W, .int .i64 H, .slice A' (W * H) c']) ∧ Rd w' A' (W * H) (U8 (pl (W * H) ps m)) ∧ W * H ≤ c' ∧ Fr w.heap.size A' ∧ Below w.heap.size w w' := by
  have hW : 1 ≤ W ∧ W ≤ 16 := by omega
  have hH : 1 ≤ H ∧ H ≤ 16 := by omega
  have m0 : (W : Int) * (H : Int) = ((W * H : Nat) : Int) := (Int.natCast_mul W H).symm
  have hN : W * H ≤ 256 := by have := Nat.mul_le_mul hW.2 hH.2; omega
  have t1 : a.tmod 16 = a % 16 := Int.tmod_eq_emod_of_nonneg ha0.1
  have t2 : b.tmod 16 = b % 16 := Int.tmod_eq_emod_of_nonneg hb0.1
  have v1 : IntKind.u8.wrap (a % 16) = a % 16 := IntWalk.u8_in _ (by omega)
  have v2 : IntKind.u8.wrap (b % 16) = b % 16 := IntWalk.u8_in _ (by omega)
  have v3 : IntKind.i64.wrap (a % 16) = a % 16 := IntWalk.i64_in _ (by omega)
  have v4 : IntKind.i64.wrap (b % 16) = b % 16 := IntWalk.i64_in _ (by omega)
  have v5 : IntKind.i64.wrap (a % 16 + 1) = (W : Int) := (IntWalk.i64_in _ (by omega)).trans ha
  have v6 : IntKind.i64.wrap (b % 16 + 1) = (H : Int) := (IntWalk.i64_in _ (by omega)).trans hb
  have HR := Lib.hid hr
  have HM := Lib.hid m0
  have HA := Lib.hid ha
  have HB := Lib.hid hb
  clear hr ha hb m0
  go_enter Try.func17, Try.ntmps17
  go_wp2_with fail
  go_quiet (fail)
  go_wp2_with (go_at_call 10; refine (new_any _ _ _ _ (by omega) (by omega)).mono ?_; rintro e w1 ⟨A1, c1, rfl, r1, k1, f1, b1⟩; have R1 := Lib.hid r1; have F1 := Lib.hid f1; have B1 := Lib.hid b1; have bx0 := (((Blk.new w 41 #[.int .u8 a, .int .u8 b, .slice A m c]).alloc (.cells #[.int .i64 0, .int .i64 0, .slice none 0 0] 25))).belowS (undrewX b1 rfl rfl rfl rfl); have z1 : w.heap.size + 1 + 1 ≤ w1.heap.size := (by simpa using b1.size); have x2' : (w1.alloc (.cells #[.int .i64 W, .int .i64 H, .slice A1 (W * H) c1] 25)).cell? ⟨w.heap.size, 2, none⟩ = some (.slice A m c) := ((bx0.alloc _).cellV (i := 2) rfl); clear r1 b1 f1)
  have bB : Below w.heap.size w (w1.alloc (.cells #[.int .i64 W, .int .i64 H, .slice A1 (W * H) c1] 25)) := bal (bstep (bal (bal (bre w) (.cells #[.int .u8 a, .int .u8 b, .slice A m c] 41)) (.cells #[.int .i64 0, .int .i64 0, .slice none 0 0] 25)) (undrewX B1.out rfl rfl rfl rfl)) _
  have bG := Blk.new w1 25 #[.int .i64 W, .int .i64 H, .slice A1 (W * H) c1]
  have bZ : Blk (w1.alloc (.cells #[.int .i64 W, .int .i64 H, .slice A1 (W * H) c1] 25)) (w.heap.size + 1) 25 #[.int .i64 0, .int .i64 0, .slice none 0 0] := by
    have h := Blk.new (w.alloc (.cells #[.int .u8 a, .int .u8 b, .slice A m c] 41)) 25 #[.int .i64 0, .int .i64 0, .slice none 0 0]
    rw [World.size_alloc] at h
    exact (h.belowS (undrewX B1.out rfl rfl rfl rfl)).alloc _
  have rG := R1.out.below (bal (bre w1) (.cells #[.int .i64 W, .int .i64 H, .slice A1 (W * H) c1] 25))
  have fG : Fr (w.heap.size + 2) A1 := F1.out.mono (by simp)
  have nG : ∀ a : Addr, A1 = some a → a.block ≠ w1.heap.size := fun a ea => by
    have := R1.out.lt (Nat.mul_pos hW.1 hH.1) a ea
    omega
  obtain ⟨X, hX⟩ : ∃ X, w1.alloc (.cells #[.int .i64 W, .int .i64 H, .slice A1 (W * H) c1] 25) = X := ⟨_, rfl⟩
  obtain ⟨g, hg⟩ : ∃ g, w1.heap.size = g := ⟨_, rfl⟩
  rw [hX] at bG bZ bB rG ⊢
  rw [hg] at bG nG z1 ⊢
  clear hX hg R1 F1 B1 bx0 x2'
  rw [← pl_zero (W * H) ps] at rG
  have hBB := Lib.hid bB
  have hBG := Lib.hid bG
  have hBZ := Lib.hid bZ
  have hRG := Lib.hid rG
  have hFG := Lib.hid fG
  have hNG := Lib.hid nG
  obtain ⟨N, hNN⟩ : ∃ N, W * H = N := ⟨_, rfl⟩
  have HNN := Lib.hid hNN
  rw [hNN] at hBG hRG hN k1
  clear bB bG bZ rG fG nG hNN
  go_loopw [28] (fun i wr => ∃ (k : Nat) (A2 : Option Addr) (c2 : Nat), i = .int .i64 k ∧ k ≤ m ∧ Blk wr g 25 #[.int .i64 W, .int .i64 H, .slice A2 N c2] ∧ Blk wr (w.heap.size + 1) 25 #[.int .i64 0, .int .i64 0, .slice none 0 0] ∧ Rd wr A2 N (U8 (pl N ps k)) ∧ N ≤ c2 ∧ Fr (w.heap.size + 2) A2 ∧ (∀ a : Addr, A2 = some a → a.block ≠ g) ∧ Below w.heap.size w wr) (fun i _ => m - (intOf i).toNat)
  case atStart => exact ⟨0, A1, c1, rfl, by omega, hBG.out, hBZ.out, hRG.out, k1, hFG.out, hNG.out, hBB.out⟩
  case round =>
    obtain ⟨k, A2, c2, rfl, hk, bg, bz, rg, kc, fg, ng, hB⟩ := hrel
    clear hBB hBG hBZ hRG hFG hNG k1
    have BG := Lib.hid bg
    have BZ := Lib.hid bz
    have RG := Lib.hid rg
    have FG := Lib.hid fg
    have NG := Lib.hid ng
    have hBB := Lib.hid hB
    have gl := bg.lt
    clear bz rg fg ng hB
    by_cases hlt : k < m
    · obtain ⟨p, hp⟩ : ∃ p, ps[k]? = some p := ⟨_, List.getElem?_eq_getElem (by have := HR.out.1; simp [U8] at this; omega)⟩
      obtain ⟨bA, off, rfl, hbl, hcell⟩ := HR.out.2 (by omega)
      have hcp : wr.cell? ⟨bA, off + k, none⟩ = some (.int .u8 p) := (hBB.out.cell (p := ⟨bA, off + k, none⟩) hbl).trans (hcell k _ (by simp [U8, hp]))
      have HP := Lib.hid hp
      have k0 : (0 : Int) ≤ (k : Int) := by omega
      have k2 : (k : Int) < (m : Int) := by omega
      have mm : IntKind.i64.wrap ((W : Int) * (H : Int)) = (N : Int) := by rw [HM.out, HNN.out]; exact IntWalk.i64_in _ (by omega)
      have g0 := bg.cellV (i := 0) (v := .int .i64 W) rfl
      have g1 := bg.cellV (i := 1) (v := .int .i64 H) rfl
      have g2 := bg.cellV (i := 2) (v := .slice A2 N c2) rfl
      have f0 := bg.frozen 0
      have f1 := bg.frozen 1
      have f2 := bg.frozen 2
      clear hp hcell bg
      by_cases hkN : k < N
      · have hd : decide ((k : Int) < (N : Int)) = true := by simp; omega
        have w0 : (W : Int) ≠ 0 := by omega
        have w0' : decide ((W : Int) = 0) = false := by simp; omega
        obtain ⟨X, hX⟩ : ∃ X, k % W = X := ⟨_, rfl⟩
        obtain ⟨Y, hY⟩ : ∃ Y, k / W = Y := ⟨_, rfl⟩
        have q1 : (k : Int).tmod (W : Int) = (X : Int) := by rw [Int.tmod_eq_emod_of_nonneg k0, ← Int.natCast_emod, hX]
        have q2 : (k : Int).tdiv (W : Int) = (Y : Int) := by rw [Int.tdiv_eq_ediv_of_nonneg k0, ← Int.natCast_ediv, hY]
        have hXl : X < W := by rw [← hX]; exact Nat.mod_lt k (by omega)
        have hYl : Y < H := by rw [← hY]; exact Nat.div_lt_of_lt_mul (by rw [HNN.out]; exact hkN)
        have q3 : IntKind.i64.wrap (X : Int) = (X : Int) := IntWalk.i64_in _ (by omega)
        have q4 : IntKind.i64.wrap (Y : Int) = (Y : Int) := IntWalk.i64_in _ (by omega)
        have hset : gset W H (pl N ps k) (X : Int) (Y : Int) p = pl N ps (k + 1) := by
          unfold gset
          rw [if_pos ((has_iff _ _ _ _).2 (by omega)), pl_set HP.out, Int.toNat_natCast, Int.toNat_natCast, ← hX, ← hY, Nat.div_add_mod']
        clear hX hY
        have HS := Lib.hid hset
        have HN2 : Hid (N = W * H) := Lib.hid HNN.out.symm
        clear hset
        go_wp2_with fail
        go_region_with (go_at_call 21; go_loud (refine (set_any W H (pl N ps k) _ _ _ _ _ _ _ HN2.out (by omega) (by omega) kc (by exact RG.out.alike rfl)).mono ?_; rintro e w2 ⟨A', c', rfl, r2, k3, hfr, b2⟩; have bx := BG.out.belowS (w := wr) (undrewX b2 rfl rfl rfl rfl); have x0 := bx.cellV (i := 0) (v := .int .i64 W) rfl; have x1 := bx.cellV (i := 1) (v := .int .i64 H) rfl; have x2 := bx.cellV (i := 2) (v := .slice A2 N c2) rfl; have e0 := bx.frozen 0; have e1 := bx.frozen 1; have e2 := bx.frozen 2))
        all_goals
          rw [HS.out] at r2
          have hsz : w.heap.size ≤ wr.heap.size := hBB.out.size
          have ne' : ∀ a : Addr, A' = some a → a.block ≠ g := fun a ea => by
            rcases hfr with rfl | hfr
            · exact NG.out a ea
            · have h : wr.heap.size ≤ a.block := hfr a ea
              omega
          have fr' : Fr (w.heap.size + 2) A' := by
            rcases hfr with rfl | hfr
            · exact FG.out
            · exact Fr.mono (lo := wr.heap.size) hfr (by omega)
          have b2' : Below wr.heap.size wr w2 := undrewX b2 rfl rfl rfl rfl
          have bX := ((bx.set_ 0 (.int .i64 W)).set_ 1 (.int .i64 H)).set_ 2 (.slice A' N c')
          have bZ := (((BZ.out.belowS b2').far (p := ⟨g, 0, none⟩) (by dsimp only; omega) (.int .i64 W)).far (p := ⟨g, 1, none⟩) (by dsimp only; omega) (.int .i64 H)).far (p := ⟨g, 2, none⟩) (by dsimp only; omega) (.slice A' N c')
          have rX := ((r2.far (p := ⟨g, 0, none⟩) ne' (.int .i64 W)).far (p := ⟨g, 1, none⟩) ne' (.int .i64 H)).far (p := ⟨g, 2, none⟩) ne' (.slice A' N c')
          have bB := bset (p := ⟨g, 2, none⟩) (bset (p := ⟨g, 1, none⟩) (bset (p := ⟨g, 0, none⟩) (bstep hBB.out b2') (by dsimp only; omega) (.int .i64 W)) (by dsimp only; omega) (.int .i64 H)) (by dsimp only; omega) (.slice A' N c')
          have BX := Lib.hid bX
          have BZX := Lib.hid bZ
          have RX := Lib.hid rX
          have BBX := Lib.hid bB
          have NEX := Lib.hid ne'
          have FRX := Lib.hid fr'
          clear bX bZ rX bB ne' fr' hfr r2 bx b2 b2'
          go_wp2_with fail
          go_roundw
          case rel => exact ⟨k + 1, A', c', by go_num, by omega, BX.out, BZX.out, RX.out, k3, FRX.out, NEX.out, BBX.out⟩
          case measure => simp [intOf]; omega
      · have hd : decide ((k : Int) < (N : Int)) = false := by simp; omega
        go_wp2_with fail
        go_roundw
        case rel => exact ⟨k + 1, A2, c2, by go_num, by omega, BG.out, BZ.out, by rw [pl_far (by omega)]; exact RG.out, kc, FG.out, NG.out, hBB.out⟩
        case measure => simp [intOf]; omega
    · obtain rfl : k = m := by omega
      have g0 := bg.cellV (i := 0) (v := .int .i64 W) rfl
      have g1 := bg.cellV (i := 1) (v := .int .i64 H) rfl
      have g2 := bg.cellV (i := 2) (v := .slice A2 N c2) rfl
      have bz := BZ.out
      have d0 := bz.cellV (i := 0) (v := .int .i64 0) rfl
      have d1 := bz.cellV (i := 1) (v := .int .i64 0) rfl
      have d2 := bz.cellV (i := 2) (v := .slice none 0 0) rfl
      have f0 := bz.frozen 0
      have f1 := bz.frozen 1
      have f2 := bz.frozen 2
      clear bz bg
      have hne : ∀ a : Addr, A2 = some a → a.block ≠ w.heap.size + 1 := fun a ea => by have := FG.out a ea; omega
      go_wp2_with fail
      rw [HNN.out]
      refine bodyPost_ret (v := .agg #[.int .i64 W, .int .i64 H, .slice A2 N c2]) (by simp [results, Try.results17, go_sem, d0, d1, d2]) rfl ⟨A2, c2, rfl, ?_, kc, FG.out.mono (by omega), ?_⟩
      · exact ((RG.out.far (p := ⟨w.heap.size + 1, 0, none⟩) hne _).far (p := ⟨w.heap.size + 1, 1, none⟩) hne _).far (p := ⟨w.heap.size + 1, 2, none⟩) hne _
      · exact bset (p := ⟨_, _, _⟩) (bset (p := ⟨_, _, _⟩) (bset (p := ⟨_, _, _⟩) hBB.out (by dsimp only; omega) _) (by dsimp only; omega) _) (by dsimp only; omega) _

end Go.Proofs.Ytcdecglbkcllaab
