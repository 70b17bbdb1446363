/-
  The walk of a grid's Row: a row's pixels as bytes.
-/
import Derived.Laws.IdiomStrings
import Derived.Test.YtcdecglbkcllaabGridWalkC
namespace Go.Proofs.Ytcdecglbkcllaab
open Go.RowKit

/-- pixels as bytes. -/
def B8 (l : List Int) : List UInt8 := l.map fun p => UInt8.ofNat p.toNat
/-- what a grid's row is as bytes. -/
def rowB (W H : Nat) (px : List Int) (y : Int) : List UInt8 := if 0 ≤ y ∧ y < H then B8 ((px.drop (y.toNat * W)).take W) else []
def Pix (px : List Int) : Prop := ∀ p ∈ px, 0 ≤ p ∧ p < 256
theorem Try.infoU8 : (Try.prog.info? 5).map (fun i => (i.zero, i.size, i.bytes)) = some (some (.int .u8 0), 1, 1) := by kernel_rfl

set_option maxHeartbeats 1000000 in
theorem row_no (W H : Nat) (px : List Int) (y : Int) (A : Option Addr) (n c : Nat) (w : World) (h : ¬ (0 ≤ y ∧ y < H)) :
    Calls Try.prog 24 #[.agg #[.int .i64 W, .int .i64 H, .slice A n c], .int .i64 y] w fun e w' => e = .returned (.string ⟨(rowB W H px y).toArray⟩) ∧ Below w.heap.size w w' := by
  have hv : rowB W H px y = [] := by unfold rowB; rw [if_neg h]
  rw [hv]
  by_cases h1 : y < 0
  · clear h
    go_enter Try.func24, Try.ntmps24
    go_wp2
    go_ret
    exact ⟨rfl, bal (bre w) _⟩
  · have h2 : (H : Int) ≤ y := by omega
    have h3 : 0 ≤ y := by omega
    clear h h1
    go_enter Try.func24, Try.ntmps24
    go_wp2
    go_ret
    exact ⟨rfl, bal (bre w) _⟩

set_option maxRecDepth 100000 in
set_option maxHeartbeats 2000000 in
theorem row_in (W H : Nat) (px : List Int) (y : Int) (A : Option Addr) (n c : Nat) (w : World) (hn : n = W * H) (hW : 1 ≤ W ∧ W ≤ 128) (hH : H ≤ 128) (hc : n ≤ c) (hr : Rd w A n (U8 px)) (hp : Pix px) (h : 0 ≤ y ∧ y < H) :
    Calls Try.prog 24 #[.agg #[.int .i64 W, .int .i64 H, .slice A n c], .int .i64 y] w fun e w' => e = .returned (.string ⟨(rowB W H px y).toArray⟩) ∧ Below w.heap.size w w' := by
  have hnm := mul_le_128 hW.2 hH
  have hi : y.toNat * W + W ≤ W * H := by
    have h1 : (y.toNat + 1) * W ≤ H * W := Nat.mul_le_mul_right W (by omega)
    rw [Nat.add_mul, Nat.one_mul, Nat.mul_comm H W] at h1
    exact h1
  obtain ⟨lo, hlo⟩ : ∃ lo, y.toNat * W = lo := ⟨_, rfl⟩
  rw [hlo] at hi
  have e1 : y * (W : Int) = (lo : Int) := by rw [← hlo, Int.natCast_mul, Int.toNat_of_nonneg h.1]
  have e2 : (y + 1) * (W : Int) = (lo : Int) + (W : Int) := by rw [Int.add_mul, e1, Int.one_mul]
  obtain ⟨row, hrow⟩ : ∃ row, (px.drop lo).take W = row := ⟨_, rfl⟩
  have hv : rowB W H px y = B8 row := by unfold rowB; rw [if_pos h, hlo, hrow]
  have hrl : row.length = W := by rw [← hrow, List.length_take, List.length_drop]; have := hr.1; simp [U8] at this; omega
  have hrp : Pix row := fun p hp' => hp p (by rw [← hrow] at hp'; exact List.mem_of_mem_drop (List.mem_of_mem_take hp'))
  obtain ⟨b, off, rfl, hlt', hcell⟩ := hr.2 (by omega)
  have hcr : ∀ (k : Nat) (p : Int), row[k]? = some p → w.cell? ⟨b, off + lo + k, none⟩ = some (.int .u8 p) := fun k p hk => by
    rw [Nat.add_assoc]
    refine hcell (lo + k) _ ?_
    simp only [U8, List.getElem?_map]
    rw [← hrow, List.getElem?_take] at hk
    split at hk
    · rw [List.getElem?_drop] at hk; rw [hk]; rfl
    · cases hk
  rw [hv]
  obtain ⟨i0, hi0, hz0, hz1, hz2⟩ := info_parts Try.infoU8
  have HC := Lib.hid hcr
  have HRL := Lib.hid hrl
  have HRP := Lib.hid hrp
  have y0 := h.1
  have y1 := h.2
  have y2 : 0 ≤ (W : Int) := by omega
  have hloc : lo + W ≤ c := by omega
  have hlocN : lo + W ≤ n := by omega
  have hww : lo + W - lo = W := by omega
  have by0 : decide (y < 0) = false := by simp; omega
  have by1 : decide ((H : Int) ≤ y) = false := by simp; omega
  clear hcell hcr hrl hrp hr hp hv hlo hrow h hn
  go_enter Try.func24, Try.ntmps24
  go_wp2_with (at_make; refine wpList_make_own _ rfl _ _ 39 rfl (w.heap.size + 1) 5 i0 _ 1 Try.underlying39 hi0 hz0 hz1 _ _ _ W rfl rfl rfl (by rw [hz2]; omega) (by simp only [maxLen]; omega) (by simp) ?_; intro w1 hown hg1; have HO := Lib.hid hown; have hB1 : Below (w.heap.size + 1) (w.alloc (.cells #[.int .i64 W, .int .i64 H, .slice (some ⟨b, off, none⟩) n c] 25)) w1 := (Below.refl _ _).grown hg1 (by simp) (by simp); clear hown hg1; have q0 : w1.cell? ⟨w.heap.size, 0, none⟩ = some (.int .i64 W) := (hB1.cell (p := ⟨w.heap.size, 0, none⟩) (by dsimp only; omega)).trans (by go_simp); have q2 : w1.cell? ⟨w.heap.size, 2, none⟩ = some (.slice (some ⟨b, off, none⟩) n c) := (hB1.cell (p := ⟨w.heap.size, 2, none⟩) (by dsimp only; omega)).trans (by go_simp))
  have hst : w1.ownsRow (w.heap.size + 1) 5 1 (.slice (some ⟨w.heap.size + 1, 0, none⟩) 0 W) 0 [] := by simpa using HO.out
  have HST := Lib.hid hst
  clear hst HO
  rw [hww]
  go_loopw [5, 32] (fun v i wr => ∃ (k : Nat) (B : Option Addr) (cap : Nat), i = .int .i64 k ∧ k ≤ W ∧ v = .slice B k cap ∧ wr.ownsRow (w.heap.size + 1) 5 1 (.slice B k cap) k (U8 (row.take k)) ∧ Below (w.heap.size + 1) (w.alloc (.cells #[.int .i64 W, .int .i64 H, .slice (some ⟨b, off, none⟩) n c] 25)) wr) (fun _ i _ => W - (intOf i).toNat)
  case atStart => exact ⟨0, _, _, rfl, by omega, rfl, by simpa [U8] using HST.out, hB1⟩
  case round =>
    obtain ⟨k, B, cap, rfl, hk, rfl, hown, hB⟩ := hrel
    have HO := Lib.hid hown
    have HB := Lib.hid hB
    have zB := hB.size
    simp only [World.size_alloc] at zB
    clear hown hB
    by_cases hlt : k < W
    · obtain ⟨p, hp⟩ : ∃ p, row[k]? = some p := ⟨_, List.getElem?_eq_getElem (by rw [HRL.out]; exact hlt)⟩
      have hcp : wr.cell? ⟨b, off + lo + k, none⟩ = some (.int .u8 p) := (HB.out.cell (p := ⟨b, off + lo + k, none⟩) (by dsimp only; omega)).trans ((World.cell?_alloc_lt _ _ _ hlt').trans (HC.out k p hp))
      have k0 : (0 : Int) ≤ (k : Int) := by omega
      have k1 : (k : Int) < (W : Int) := by omega
      have pw := HRP.out p (List.mem_of_getElem? hp)
      have HP := Lib.hid hp
      clear hp
      go_wp2_with (at_builtin; refine wpList_append_own _ rfl _ _ 39 rfl (w.heap.size + 1) 5 i0 _ 1 1 Try.underlying39 hi0 hz0 hz1 hz2 rfl (by decide) _ _ _ rfl (HO.out.alloc _) ⟨wr.heap.size, 0, none⟩ 1 1 [.int .u8 p] rfl rfl (cell_one_new _ _ _) (by simp [Value.oneCell']) (by simp only [maxLen]; omega) (by omega) (by simp; omega) ?_; intro v' w2 hown' hgrow _; obtain ⟨A', cap', rfl, _⟩ := own_form hown')
      have hlast : w2.ownsRow (w.heap.size + 1) 5 1 (.slice A' (k + 1) cap') (k + 1) (U8 (row.take (k + 1))) := by
        have e : U8 (row.take (k + 1)) = U8 (row.take k) ++ [.int .u8 p] := by rw [List.take_add_one, HP.out]; simp [U8]
        rw [e]; exact hown'
      have hB4 : Below (w.heap.size + 1) (w.alloc (.cells #[.int .i64 W, .int .i64 H, .slice (some ⟨b, off, none⟩) n c] 25)) w2 :=
        (HB.out.alloc (by omega) _).grown hgrow (by simp; omega) (own_ge HO.out)
      go_roundw
      case rel => first | exact ⟨k + 1, _, _, by go_num, by omega, rfl, hlast, hB4⟩ | ((repeat apply Exists.intro); exact ⟨⟨k + 1, _, _, by go_num, by omega, rfl, hlast, hB4⟩, rfl⟩)
      case measure => simp [intOf]; omega
    · obtain rfl : k = W := by omega
      have hrow : row.take k = row := List.take_of_length_le (by rw [HRL.out]; omega)
      have hown := HO.out
      rw [hrow] at hown
      obtain ⟨g, rfl⟩ : ∃ g, B = some ⟨g, 0, none⟩ := by
        rcases hown.2 with ⟨e, e2⟩ | ⟨g, _, _, e, _⟩
        · omega
        · injection e with e _ _
          exact ⟨g, e⟩
      have hcv : (convert 39 9 (.slice (some ⟨g, 0, none⟩) k cap)).run Try.prog wr = .ok (.string ⟨(B8 row).toArray⟩) wr := by
        have hl : (B8 row).length = k := by simp [B8, HRL.out]
        have := run_convert_bytes_back (P := Try.prog) wr 39 9 5 ⟨g, 0, none⟩ cap (B8 row) Try.underlying39 Try.underlying5 Try.underlying9 (fun j hj => by
          have hj' : j < row.length := by simpa [B8] using hj
          have hpw := HRP.out row[j] (List.getElem_mem hj')
          have hc := hown.cells (g := g) rfl j (.int .u8 row[j]) (by simp [U8, List.getElem?_eq_getElem hj'])
          rw [hc]
          simp only [B8, List.getElem_map, UInt8.toNat_ofNat']
          congr 2
          omega)
        rw [hl] at this
        exact this
      clear hown hrow
      go_wp2_with fail
      go_ret
      exact ⟨rfl, (bal (bre w) _).trans (HB.out.mono (by omega))⟩

end Go.Proofs.Ytcdecglbkcllaab
