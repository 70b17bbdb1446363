/-
  The walk of a grid's Row: a row's pixels as bytes.
  The walk of a grid's Crop.
  The walk of the laws' Is, where a grid is the document's.
  The walk of the laws' example (awake), and of the law GridNew.
  The walks of the grid's and the document's Same, and of the document's Set.
  Maps keyed by numbers, their elements taken as they are: what a map's block holds is a function from keys to values, and how many there are.
-/
import Derived.Laws.IdiomStrings
import Derived.Test.YtdaedkolpfkdjaaGreatZT00
import Derived.Maps.OwnSet
import Derived.Maps.RangeWalk
import Derived.Maps.Ext
import Derived.WalkKit
section
namespace Go.Proofs.YtdaedkolpfkdjaaGreat.Gr
open Go.RowKit

/-- pixels as bytes. -/
def B8 (l : List Int) : List UInt8 := l.map fun p => UInt8.ofNat p.toNat
/-- what a grid's row is as bytes. -/
def rowB (W H : Nat) (px : List Int) (y : Int) : List UInt8 := if 0 ≤ y ∧ y < H then B8 ((px.drop (y.toNat * W)).take W) else []
def Pix (px : List Int) : Prop := ∀ p ∈ px, 0 ≤ p ∧ p < 256
theorem Tryz.infoU8 : (Tryz.prog.info? 5).map (fun i => (i.zero, i.size, i.bytes)) = some (some (.int .u8 0), 1, 1) := by kernel_rfl

set_option maxHeartbeats 1000000 in
theorem row_no (W H : Nat) (px : List Int) (y : Int) (A : Option Addr) (n c : Nat) (w : World) (h : ¬ (0 ≤ y ∧ y < H)) :
    Calls Tryz.prog 101 #[.agg #[.int .i64 W, .int .i64 H, .slice A n c], .int .i64 y] w fun e w' => e = .returned (.string ⟨(rowB W H px y).toArray⟩) ∧ Below w.heap.size w w' := by
  have hv : rowB W H px y = [] := by unfold rowB; rw [if_neg h]
  rw [hv]
  by_cases h1 : y < 0
  · clear h
    go_enter Tryz.func101, Tryz.ntmps101
    go_wp2
    go_ret
    exact ⟨rfl, bal (bre w) _⟩
  · have h2 : (H : Int) ≤ y := by omega
    have h3 : 0 ≤ y := by omega
    clear h h1
    go_enter Tryz.func101, Tryz.ntmps101
    go_wp2
    go_ret
    exact ⟨rfl, bal (bre w) _⟩

set_option maxRecDepth 100000 in
set_option maxHeartbeats 2000000 in
theorem row_in (W H : Nat) (px : List Int) (y : Int) (A : Option Addr) (n c : Nat) (w : World) (hn : n = W * H) (hW : 1 ≤ W ∧ W ≤ 128) (hH : H ≤ 128) (hc : n ≤ c) (hr : Rd w A n (U8 px)) (hp : Pix px) (h : 0 ≤ y ∧ y < H) :
    Calls Tryz.prog 101 #[.agg #[.int .i64 W, .int .i64 H, .slice A n c], .int .i64 y] w fun e w' => e = .returned (.string ⟨(rowB W H px y).toArray⟩) ∧ Below w.heap.size w w' := by
  have hnm := mul_le_128 hW.2 hH
  have hi : y.toNat * W + W ≤ W * H := by
    have h1 : (y.toNat + 1) * W ≤ H * W := Nat.mul_le_mul_right W (by omega)
    rw [Nat.add_mul, Nat.one_mul, Nat.mul_comm H W] at h1
    exact h1
  obtain ⟨lo, hlo⟩ : ∃ lo, y.toNat * W = lo := ⟨_, rfl⟩
  rw [hlo] at hi
  have e1 : y * (W : Int) = (lo : Int) := by rw [← hlo, Int.natCast_mul, Int.toNat_of_nonneg h.1]
  have e2 : (y + 1) * (W : Int) = (lo : Int) + (W : Int) := by rw [Int.add_mul, e1, Int.one_mul]
  obtain ⟨row, hrow⟩ : ∃ row, (px.drop lo).take W = row := ⟨_, rfl⟩
  have hv : rowB W H px y = B8 row := by unfold rowB; rw [if_pos h, hlo, hrow]
  have hrl : row.length = W := by rw [← hrow, List.length_take, List.length_drop]; have := hr.1; simp [U8] at this; omega
  have hrp : Pix row := fun p hp' => hp p (by rw [← hrow] at hp'; exact List.mem_of_mem_drop (List.mem_of_mem_take hp'))
  obtain ⟨b, off, rfl, hlt', hcell⟩ := hr.2 (by omega)
  have hcr : ∀ (k : Nat) (p : Int), row[k]? = some p → w.cell? ⟨b, off + lo + k, none⟩ = some (.int .u8 p) := fun k p hk => by
    rw [Nat.add_assoc]
    refine hcell (lo + k) _ ?_
    simp only [U8, List.getElem?_map]
    rw [← hrow, List.getElem?_take] at hk
    split at hk
    · rw [List.getElem?_drop] at hk; rw [hk]; rfl
    · cases hk
  rw [hv]
  obtain ⟨i0, hi0, hz0, hz1, hz2⟩ := info_parts Tryz.infoU8
  have HC := Lib.hid hcr
  have HRL := Lib.hid hrl
  have HRP := Lib.hid hrp
  have y0 := h.1
  have y1 := h.2
  have y2 : 0 ≤ (W : Int) := by omega
  have hloc : lo + W ≤ c := by omega
  have hlocN : lo + W ≤ n := by omega
  have hww : lo + W - lo = W := by omega
  have by0 : decide (y < 0) = false := by simp; omega
  have by1 : decide ((H : Int) ≤ y) = false := by simp; omega
  clear hcell hcr hrl hrp hr hp hv hlo hrow h hn
  go_enter Tryz.func101, Tryz.ntmps101
  go_wp2_with (at_make; refine wpList_make_own _ rfl _ _ 86 rfl (w.heap.size + 1) 5 i0 _ 1 Tryz.underlying86 hi0 hz0 hz1 _ _ _ W rfl rfl rfl (by rw [hz2]; omega) (by simp only [maxLen]; omega) (by simp) ?_; intro w1 hown hg1; have HO := Lib.hid hown; have hB1 : Below (w.heap.size + 1) (w.alloc (.cells #[.int .i64 W, .int .i64 H, .slice (some ⟨b, off, none⟩) n c] 75)) w1 := (Below.refl _ _).grown hg1 (by simp) (by simp); clear hown hg1; have q0 : w1.cell? ⟨w.heap.size, 0, none⟩ = some (.int .i64 W) := (hB1.cell (p := ⟨w.heap.size, 0, none⟩) (by dsimp only; omega)).trans (by go_simp); have q2 : w1.cell? ⟨w.heap.size, 2, none⟩ = some (.slice (some ⟨b, off, none⟩) n c) := (hB1.cell (p := ⟨w.heap.size, 2, none⟩) (by dsimp only; omega)).trans (by go_simp))
  have hst : w1.ownsRow (w.heap.size + 1) 5 1 (.slice (some ⟨w.heap.size + 1, 0, none⟩) 0 W) 0 [] := by simpa using HO.out
  have HST := Lib.hid hst
  clear hst HO
  rw [hww]
  go_loopw [5, 32] (fun v i wr => ∃ (k : Nat) (B : Option Addr) (cap : Nat), i = .int .i64 k ∧ k ≤ W ∧ v = .slice B k cap ∧ wr.ownsRow (w.heap.size + 1) 5 1 (.slice B k cap) k (U8 (row.take k)) ∧ Below (w.heap.size + 1) (w.alloc (.cells #[.int .i64 W, .int .i64 H, .slice (some ⟨b, off, none⟩) n c] 75)) wr) (fun _ i _ => W - (intOf i).toNat)
  case atStart => exact ⟨0, _, _, rfl, by omega, rfl, by simpa [U8] using HST.out, hB1⟩
  case round =>
    obtain ⟨k, B, cap, rfl, hk, rfl, hown, hB⟩ := hrel
    have HO := Lib.hid hown
    have HB := Lib.hid hB
    have zB := hB.size
    simp only [World.size_alloc] at zB
    clear hown hB
    by_cases hlt : k < W
    · obtain ⟨p, hp⟩ : ∃ p, row[k]? = some p := ⟨_, List.getElem?_eq_getElem (by rw [HRL.out]; exact hlt)⟩
      have hcp : wr.cell? ⟨b, off + lo + k, none⟩ = some (.int .u8 p) := (HB.out.cell (p := ⟨b, off + lo + k, none⟩) (by dsimp only; omega)).trans ((World.cell?_alloc_lt _ _ _ hlt').trans (HC.out k p hp))
      have k0 : (0 : Int) ≤ (k : Int) := by omega
      have k1 : (k : Int) < (W : Int) := by omega
      have pw := HRP.out p (List.mem_of_getElem? hp)
      have HP := Lib.hid hp
      clear hp
      go_wp2_with (at_builtin; refine wpList_append_own _ rfl _ _ 86 rfl (w.heap.size + 1) 5 i0 _ 1 1 Tryz.underlying86 hi0 hz0 hz1 hz2 rfl (by decide) _ _ _ rfl (HO.out.alloc _) ⟨wr.heap.size, 0, none⟩ 1 1 [.int .u8 p] rfl rfl (cell_one_new _ _ _) (by simp [Value.oneCell']) (by simp only [maxLen]; omega) (by omega) (by simp; omega) ?_; intro v' w2 hown' hgrow _; obtain ⟨A', cap', rfl, _⟩ := own_form hown')
      have hlast : w2.ownsRow (w.heap.size + 1) 5 1 (.slice A' (k + 1) cap') (k + 1) (U8 (row.take (k + 1))) := by
        have e : U8 (row.take (k + 1)) = U8 (row.take k) ++ [.int .u8 p] := by rw [List.take_add_one, HP.out]; simp [U8]
        rw [e]; exact hown'
      have hB4 : Below (w.heap.size + 1) (w.alloc (.cells #[.int .i64 W, .int .i64 H, .slice (some ⟨b, off, none⟩) n c] 75)) w2 :=
        (HB.out.alloc (by omega) _).grown hgrow (by simp; omega) (own_ge HO.out)
      go_roundw
      case rel => first | exact ⟨k + 1, _, _, by go_num, by omega, rfl, hlast, hB4⟩ | ((repeat apply Exists.intro); exact ⟨⟨k + 1, _, _, by go_num, by omega, rfl, hlast, hB4⟩, rfl⟩)
      case measure => simp [intOf]; omega
    · obtain rfl : k = W := by omega
      have hrow : row.take k = row := List.take_of_length_le (by rw [HRL.out]; omega)
      have hown := HO.out
      rw [hrow] at hown
      obtain ⟨g, rfl⟩ : ∃ g, B = some ⟨g, 0, none⟩ := by
        rcases hown.2 with ⟨e, e2⟩ | ⟨g, _, _, e, _⟩
        · omega
        · injection e with e _ _
          exact ⟨g, e⟩
      have hcv : (convert 86 9 (.slice (some ⟨g, 0, none⟩) k cap)).run Tryz.prog wr = .ok (.string ⟨(B8 row).toArray⟩) wr := by
        have hl : (B8 row).length = k := by simp [B8, HRL.out]
        have := run_convert_bytes_back (P := Tryz.prog) wr 86 9 5 ⟨g, 0, none⟩ cap (B8 row) Tryz.underlying86 Tryz.underlying5 Tryz.underlying9 (fun j hj => by
          have hj' : j < row.length := by simpa [B8] using hj
          have hpw := HRP.out row[j] (List.getElem_mem hj')
          have hc := hown.cells (g := g) rfl j (.int .u8 row[j]) (by simp [U8, List.getElem?_eq_getElem hj'])
          rw [hc]
          simp only [B8, List.getElem_map, UInt8.toNat_ofNat']
          congr 2
          omega)
        rw [hl] at this
        exact this
      clear hown hrow
      go_wp2_with fail
      go_ret
      exact ⟨rfl, (bal (bre w) _).trans (HB.out.mono (by omega))⟩

end Go.Proofs.YtdaedkolpfkdjaaGreat.Gr
end

section
namespace Go.Proofs.YtdaedkolpfkdjaaGreat.Gr
open Go.RowKit

/-- the i-th pixel of what is cropped. -/
def cpx (W H : Nat) (px : List Int) (X Y : Int) (w : Nat) (out : Int) (i : Nat) : Int :=
  if hasB W H (X + (i % w : Nat)) (Y + (i / w : Nat)) then gat W H px (X + (i % w : Nat)) (Y + (i / w : Nat)) else out
def cropL (W H : Nat) (px : List Int) (X Y : Int) (w h : Nat) (out : Int) : List Int := (List.range (w * h)).map (cpx W H px X Y w out)

end Go.Proofs.YtdaedkolpfkdjaaGreat.Gr
end

section
namespace Go.Proofs.YtdaedkolpfkdjaaGreat.Gr
open Go.RowKit

end Go.Proofs.YtdaedkolpfkdjaaGreat.Gr
namespace Go.Proofs.YtdaedkolpfkdjaaGreat
open Go.RowKit
theorem Rd.alike {w w' : World} {A : Option Addr} {n : Nat} {vs : List Value} (h : Rd w A n vs) (hh : w'.heap = w.heap) : Rd w' A n vs :=
  h.keep (by rw [hh]; exact Nat.le_refl _) (fun b o v hc => by rw [← hc]; simp [World.cell?, hh])

end Go.Proofs.YtdaedkolpfkdjaaGreat
namespace Go.Proofs.YtdaedkolpfkdjaaGreat.Gr
open Go.RowKit
end Go.Proofs.YtdaedkolpfkdjaaGreat.Gr
end

section
namespace Go.Proofs.YtdaedkolpfkdjaaGreat.Gr
open Go.RowKit

theorem row_any (W H : Nat) (px : List Int) (y : Int) (A : Option Addr) (n c : Nat) (w : World) (hn : n = W * H) (hW : 1 ≤ W ∧ W ≤ 128) (hH : H ≤ 128) (hc : n ≤ c) (hr : Rd w A n (U8 px)) (hp : Pix px) :
    Calls Tryz.prog 101 #[.agg #[.int .i64 W, .int .i64 H, .slice A n c], .int .i64 y] w fun e w' => e = .returned (.string ⟨(rowB W H px y).toArray⟩) ∧ Below w.heap.size w w' := by
  by_cases h : 0 ≤ y ∧ y < H
  · exact row_in W H px y A n c w hn hW hH hc hr hp h
  · exact row_no W H px y A n c w h

end Go.Proofs.YtdaedkolpfkdjaaGreat.Gr
end

section
namespace Go.Proofs.YtdaedkolpfkdjaaGreat.Gr
open Go.RowKit

theorem u8_at {w : World} {A : Option Addr} {n : Nat} {px : List Int} (hr : Rd w A n (U8 px)) (hn : 0 < n) : ∃ b off, A = some ⟨b, off, none⟩ ∧ b < w.heap.size ∧ ∀ k p, px[k]? = some p → w.cell? ⟨b, off + k, none⟩ = some (.int .u8 p) := by
  obtain ⟨b, off, e, hb, hc⟩ := hr.2 hn
  exact ⟨b, off, e, hb, fun k p hp => hc k _ (by simp [U8, hp])⟩
theorem u8_len {w : World} {A : Option Addr} {n : Nat} {px : List Int} (hr : Rd w A n (U8 px)) : px.length = n := by simpa [U8] using hr.1

set_option maxHeartbeats 1000000 in
theorem gsame_any (W H : Int) (px qx : List Int) (A A' : Option Addr) (n c c' : Nat) (w : World) (hn : n ≤ 16384) (hr : Rd w A n (U8 px)) (hr' : Rd w A' n (U8 qx)) :
    Calls Tryz.prog 39 #[.agg #[.int .i64 W, .int .i64 H, .slice A n c], .agg #[.int .i64 W, .int .i64 H, .slice A' n c']] w fun e w' => e = .returned (.bool (decide (px = qx))) ∧ Below w.heap.size w w' := by
  have HR := Lib.hid hr
  have HR' := Lib.hid hr'
  clear hr hr'
  go_enter Tryz.func39, Tryz.ntmps39
  go_wp2_with fail
  have b0 := (Blk.new w 75 #[.int .i64 W, .int .i64 H, .slice A n c]).alloc (.cells #[.int .i64 W, .int .i64 H, .slice A' n c'] 75)
  have b1 := Blk.new (w.alloc (.cells #[.int .i64 W, .int .i64 H, .slice A n c] 75)) 75 #[.int .i64 W, .int .i64 H, .slice A' n c']
  have bB : Below w.heap.size w ((w.alloc (.cells #[.int .i64 W, .int .i64 H, .slice A n c] 75)).alloc (.cells #[.int .i64 W, .int .i64 H, .slice A' n c'] 75)) := bal (bal (bre w) _) _
  rw [World.size_alloc] at b1
  obtain ⟨Z, hZ⟩ : ∃ Z, (w.alloc (.cells #[.int .i64 W, .int .i64 H, .slice A n c] 75)).alloc (.cells #[.int .i64 W, .int .i64 H, .slice A' n c'] 75) = Z := ⟨_, rfl⟩
  rw [hZ] at b0 b1 bB ⊢
  have BB := Lib.hid bB
  have x2 := b1.cellV (i := 2) (v := .slice A' n c') rfl
  clear hZ b0 b1 bB
  go_loop [22] (fun i => ∃ k : Nat, i = .int .i64 k ∧ k ≤ n ∧ px.take k = qx.take k) (fun i => n - (intOf i).toNat)
  case atStart => exact ⟨0, rfl, by omega, rfl⟩
  case round =>
    obtain ⟨k, rfl, hk, htk⟩ := hrel
    have HT := Lib.hid htk
    clear htk
    by_cases hlt : k < n
    · obtain ⟨p, hp⟩ : ∃ p, px[k]? = some p := ⟨_, List.getElem?_eq_getElem (by have := u8_len HR.out; omega)⟩
      obtain ⟨q, hq⟩ : ∃ q, qx[k]? = some q := ⟨_, List.getElem?_eq_getElem (by have := u8_len HR'.out; omega)⟩
      obtain ⟨b, off, rfl, hb, hc⟩ := u8_at HR.out (by omega)
      obtain ⟨b', off', rfl, hb', hc'⟩ := u8_at HR'.out (by omega)
      have e1 := (BB.out.cell (p := ⟨b, off + k, none⟩) hb).trans (hc k p hp)
      have e2 := (BB.out.cell (p := ⟨b', off' + k, none⟩) hb').trans (hc' k q hq)
      have HP := Lib.hid hp
      have HQ := Lib.hid hq
      have k0 : (0 : Int) ≤ (k : Int) := by omega
      have k1 : (k : Int) < (n : Int) := by omega
      clear hp hq hc hc'
      by_cases hpq : p = q
      · subst hpq
        go_wp2_with fail
        go_round
        case rel => exact ⟨k + 1, by go_num, by omega, by rw [List.take_add_one, List.take_add_one, HT.out, HP.out, HQ.out]⟩
        case measure => simp [intOf]; omega
      · have d1 : (q != p) = true := by rw [bne_iff_ne]; exact fun e => hpq e.symm
        have hne : px ≠ qx := fun e => hpq (by have h := HP.out; rw [e, HQ.out] at h; exact (Option.some.inj h).symm)
        have HNE := Lib.hid hne
        clear hne hpq
        go_wp2_with fail
        go_ret
        exact ⟨ret_bool (decide_eq_false HNE.out).symm, BB.out⟩
    · obtain rfl : k = n := by omega
      have he : px = qx := by
        have h := HT.out
        rw [List.take_of_length_le (by rw [u8_len HR.out]; exact Nat.le_refl _), List.take_of_length_le (by rw [u8_len HR'.out]; exact Nat.le_refl _)] at h
        exact h
      have HE := Lib.hid he
      clear he
      go_wp2_with fail
      go_ret
      exact ⟨ret_bool (decide_eq_true HE.out).symm, BB.out⟩

end Go.Proofs.YtdaedkolpfkdjaaGreat.Gr
end

section
namespace Go.Proofs.YtdaedkolpfkdjaaGreat
open Go.RowKit Go.Maps

/-- an element reads as itself. -/
def rawR (v : Value) : Option (DataW Value × List MemPlace) := some (.held v, [])
theorem rawR_inv {v : Value} {d : DataW Value} {ps : List MemPlace} (h : rawR v = some (d, ps)) : d = .held v := by
  unfold rawR at h
  injection h with h
  injection h with h _
  exact h.symm

section
variable {P : Program} {k e t : TypeId} {q : IntKind} {w w' : World} {b n : Nat} {f : Int → Option Value}
/-- block b is a map of n entries: f tells them. -/
def MapIs (P : Program) (k : TypeId) (q : IntKind) (w : World) (b n : Nat) (f : Int → Option Value) : Prop :=
  ∃ D : DataW Value, w.ownsMap P k rawR b n D ∧ Maps.size D = n ∧ (∀ i, Maps.has D (.int q i) = (f i).isSome) ∧ ∀ i v, f i = some v → ∀ z, D.atKey (.int q i) z = .held v
theorem MapIs.lt (h : MapIs P k q w b n f) : b < w.heap.size := by
  obtain ⟨D, h, _⟩ := h
  exact h.lt
theorem MapIs.made (w : World) : MapIs P k q (w.alloc (.map #[] 0)) w.heap.size 0 (fun _ => none) :=
  ⟨.map [], World.ownsMap_made w P k rawR, rfl, fun _ => rfl, fun _ _ h => by cases h⟩
theorem MapIs.kept {row : Option Nat} (h : MapIs P k q w b n f) (hg : w.grownBy w' row) (hne : some b ≠ row) : MapIs P k q w' b n f := by
  obtain ⟨D, h1, h2⟩ := h
  exact ⟨D, h1.kept hg hne, h2⟩
theorem MapIs.setCell (h : MapIs P k q w b n f) {a : Addr} (ha : b ≠ a.block) (u : Value) : MapIs P k q (w.setCell a u) b n f := by
  obtain ⟨D, h1, h2⟩ := h
  exact ⟨D, h1.setCell ha u, h2⟩
theorem MapIs.alloc (h : MapIs P k q w b n f) (o : Obj) : MapIs P k q (w.alloc o) b n f := h.kept (World.grownBy_alloc w o none) (by simp)
theorem MapIs.below (h : MapIs P k q w b n f) (hb : Below w.heap.size w w') : MapIs P k q w' b n f :=
  h.kept (row := none) ⟨hb.os, hb.tape, hb.output, hb.size, fun i hi _ => hb.block i hi⟩ (by simp)
theorem MapIs.drew (h : MapIs P k q w b n f) : MapIs P k q w.drew b n f := h
/-- an entry is laid. -/
theorem MapIs.put_of {D : DataW Value} {m : Nat} {i : Int} {v : Value} (K : Keyed P k) (hD : w.ownsMap P k rawR b m D) (hs : Maps.size D = n) (hh : ∀ i, Maps.has D (.int q i) = (f i).isSome) (ha : ∀ i v, f i = some v → ∀ z, D.atKey (.int q i) z = .held v)
    (hD' : w'.ownsMap P k rawR b (m + 1) (D.put (.int q i) (.held v))) : MapIs P k q w' b (if (f i).isSome then n else n + 1) (fun j => if j = i then some v else f j) := by
  have hkey : WideAt.IsKeyLit (.int q i) := by simp [WideAt.IsKeyLit]
  have hT := hD.tidy K
  have hsz := size_put (k := .int q i) hT (.held v)
  rw [hh, hs] at hsz
  refine ⟨D.put (.int q i) (.held v), ?_, ?_, fun j => ?_, fun j u hj z => ?_⟩
  · obtain ⟨es, clock, h1, h2, h3, h4⟩ := hD'
    refine ⟨es, clock, h1, h2, ?_, h4⟩
    have := length_read (P := P) (k := k) (R0 := rawR) es
    rw [h4, size_eq, this] at hsz
    rw [hsz]
    exact Nat.le_refl _
  · exact hsz
  · by_cases hj : j = i
    · subst hj
      rw [has_put_same hT.isMap hkey]
      simp
    · rw [has_put_other (by intro e; injection e with _ e; exact hj e), hh]
      simp [hj]
  · by_cases hj' : j = i
    · subst hj'
      simp at hj
      subst hj
      exact atKey_put_same hT.isMap hkey _ _
    · simp [hj'] at hj
      rw [atKey_put_other (by intro e; injection e with _ e; exact hj' e)]
      exact ha j u hj z
end

section
variable {P : Program} {k e t : TypeId} {q : IntKind} {w : World} {b n : Nat} {f : Int → Option Value} {ops : Array Oper} {rest : List Oper} {o : Oper} {a : Act} {Q : Exit → Act → World → Prop}
theorem MapIs.owns (h : MapIs P k q w b n f) : ∃ D : DataW Value, w.ownsMap P k rawR b n D ∧ Maps.size D = n ∧ (∀ i, Maps.has D (.int q i) = (f i).isSome) ∧ ∀ i v, f i = some v → ∀ z, D.atKey (.int q i) z = .held v := h
theorem at_of {D : DataW Value} (hh : ∀ i, Maps.has D (.int q i) = (f i).isSome) (ha : ∀ i v, f i = some v → ∀ z, D.atKey (.int q i) z = .held v) (i : Int) (z : Value) : D.atKey (.int q i) (.held z) = .held ((f i).getD z) := by
  cases hf : f i with
  | none => rw [atKey_of_not_has (by rw [hh, hf]; rfl)]; rfl
  | some v => rw [ha i v hf]; rfl
/-- 'v, ok := m[i]'. -/
theorem map_look_ok (hg : o.guard = none) (m x : Operand) (t : TypeId) (hop : o.op = Op.lookup t m x true) (k e : TypeId) (q : IntKind) (hk : P.underlying k = some (.int q)) (ht : P.underlying t = some (.map k e)) (z : Value) (hz : (zeroValue e).run P w = .ok z w)
    (b n : Nat) (f : Int → Option Value) (hm : a.eval m = .map (some b)) (h : MapIs P k q w b n f) (i : Int) (hx : a.eval x = .int q i) (hwf : (Lit.int q i).wf = true)
    (hK : wpList P ops Q rest (a.put o.dst (.tuple #[(f i).getD z, .bool (f i).isSome])) w) : wpList P ops Q (o :: rest) a w := by
  obtain ⟨D, hD, _, hh, ha⟩ := h
  refine wpList_lookup_own_ok w hg m x t hop k e (int_keyed hk) ht rawR hz (.held z) [] rfl b n D hm hD _ (.int q i) hx (keyOf_int_mk hk hwf) (fun v ps hv => ?_)
  have e1 := rawR_inv hv
  rw [at_of hh ha] at e1
  injection e1 with e1
  subst e1
  rw [hh]
  exact hK
/-- 'm[i]'. -/
theorem map_look (hg : o.guard = none) (m x : Operand) (t : TypeId) (hop : o.op = Op.lookup t m x false) (k e : TypeId) (q : IntKind) (hk : P.underlying k = some (.int q)) (ht : P.underlying t = some (.map k e)) (z : Value) (hz : (zeroValue e).run P w = .ok z w)
    (b n : Nat) (f : Int → Option Value) (hm : a.eval m = .map (some b)) (h : MapIs P k q w b n f) (i : Int) (hx : a.eval x = .int q i) (hwf : (Lit.int q i).wf = true)
    (hK : wpList P ops Q rest (a.put o.dst ((f i).getD z)) w) : wpList P ops Q (o :: rest) a w := by
  obtain ⟨D, hD, _, hh, ha⟩ := h
  refine wpList_plain hg fun K' hK' => ?_
  obtain ⟨v, ps, hrun, hv⟩ := hD.lookup (int_keyed hk) ht hz (zd := .held z) (zp := []) rfl (keyOf_int_mk hk hwf)
  have e1 := rawR_inv hv
  rw [at_of hh ha] at e1
  injection e1 with e1
  subst e1
  unfold Oper.wp
  simp [execOp, hop, hm, hx, hrun, Result.andThen]
  exact hK' _ _ hK
/-- 'm[i] = v'. -/
theorem map_put (hg : o.guard = none) (m x v : Operand) (t : TypeId) (hop : o.op = Op.mapUpdate t m x v) (k e : TypeId) (q : IntKind) (hk : P.underlying k = some (.int q)) (ht : P.underlying t = some (.map k e))
    (b n : Nat) (f : Int → Option Value) (hm : a.eval m = .map (some b)) (h : MapIs P k q w b n f) (hn : n < maxLen) (i : Int) (val : Value) (hx : a.eval x = .int q i) (hv : a.eval v = val) (hwf : (Lit.int q i).wf = true)
    (hK : ∀ w', MapIs P k q w' b (if (f i).isSome then n else n + 1) (fun j => if j = i then some val else f j) → w.grownBy w' (some b) → wpList P ops Q rest (a.put o.dst undef) w') : wpList P ops Q (o :: rest) a w := by
  obtain ⟨D, hD, hs, hh, ha⟩ := h
  exact wpList_mapUpdate_own w hg m x v t hop k e (int_keyed hk) ht rawR b n D hm hD hn _ val (.int q i) hx hv (keyOf_int_mk hk hwf) (.held val) [] rfl (fun w' h1 h2 => hK w' (MapIs.put_of (int_keyed hk) hD hs hh ha h1) h2)
/-- a store's run, told ahead. -/
theorem MapIs.run_put (hk : P.underlying k = some (.int q)) (ht : P.underlying t = some (.map k e)) (h : MapIs P k q w b n f) (hn : n < maxLen) (i : Int) (val : Value) (hwf : (Lit.int q i).wf = true) :
    ∃ w', (Instr.mapUpdate t (.map (some b)) (.int q i) val).run P w = .ok () w' ∧ MapIs P k q w' b (if (f i).isSome then n else n + 1) (fun j => if j = i then some val else f j) ∧ w.grownBy w' (some b) := by
  obtain ⟨D, hD, hs, hh, ha⟩ := h
  obtain ⟨w', hrun, r1, r2⟩ := hD.update (int_keyed hk) ht hn (keyOf_int_mk hk hwf) (val := val) (d := .held val) (ps := []) rfl
  exact ⟨w', hrun, MapIs.put_of (int_keyed hk) hD hs hh ha r1, r2⟩
/-- 'm[i] = v' within a region that draws. -/
theorem map_put_op {K : Act → World → Prop} (m x v : Operand) (t : TypeId) (hop : o.op = Op.mapUpdate t m x v) (k e : TypeId) (q : IntKind) (hk : P.underlying k = some (.int q)) (ht : P.underlying t = some (.map k e))
    (b n : Nat) (f : Int → Option Value) (hm : a.eval m = .map (some b)) (h : MapIs P k q w b n f) (hn : n < maxLen) (i : Int) (val : Value) (hx : a.eval x = .int q i) (hv : a.eval v = val) (hwf : (Lit.int q i).wf = true)
    (hK : ∀ w', MapIs P k q w' b (if (f i).isSome then n else n + 1) (fun j => if j = i then some val else f j) → w.grownBy w' (some b) → K (a.put o.dst undef) w') : Oper.wp P o a w K Q := by
  obtain ⟨w', hrun, r1, r2⟩ := h.run_put hk ht hn i val hwf
  unfold Oper.wp
  simp [execOp, hop, hm, hx, hv, hrun, Result.andThen]
  exact hK w' r1 r2
/-- 'm[i]' within a region that draws. -/
theorem map_look_op {K : Act → World → Prop} (m x : Operand) (t : TypeId) (hop : o.op = Op.lookup t m x false) (k e : TypeId) (q : IntKind) (hk : P.underlying k = some (.int q)) (ht : P.underlying t = some (.map k e)) (z : Value) (hz : (zeroValue e).run P w = .ok z w)
    (b n : Nat) (f : Int → Option Value) (hm : a.eval m = .map (some b)) (h : MapIs P k q w b n f) (i : Int) (hx : a.eval x = .int q i) (hwf : (Lit.int q i).wf = true)
    (hK : K (a.put o.dst ((f i).getD z)) w) : Oper.wp P o a w K Q := by
  obtain ⟨D, hD, _, hh, ha⟩ := h
  obtain ⟨v, ps, hrun, hv⟩ := hD.lookup (int_keyed hk) ht hz (zd := .held z) (zp := []) rfl (keyOf_int_mk hk hwf)
  have e1 := rawR_inv hv
  rw [at_of hh ha] at e1
  injection e1 with e1
  subst e1
  unfold Oper.wp
  simp [execOp, hop, hm, hx, hrun, Result.andThen]
  exact hK
/-- 'len(m)'. -/
theorem map_len (hg : o.guard = none) (m : Operand) (t : TypeId) (hop : o.op = Op.call { callee := Callee.builtin Builtin.len, args := #[m], argTypes := #[t] }) (k e : TypeId) (q : IntKind) (ht : P.underlying t = some (.map k e))
    (b n : Nat) (f : Int → Option Value) (hm : a.eval m = .map (some b)) (h : MapIs P k q w b n f) (hK : wpList P ops Q rest (a.put o.dst (.int .i64 n)) w) : wpList P ops Q (o :: rest) a w := by
  obtain ⟨D, hD, hs, _⟩ := h
  exact wpList_len_own w hg m t hop k e ht rawR b n D hm hD (by rw [hs]; exact hK)
end

section
variable {P : Program} {k e t : TypeId} {q : IntKind} {w w' : World} {b r n cnt : Nat} {f : Int → Option Value} {left : Int → Bool}
/-- a range over the map under way: the keys that are left. -/
def MapRange (P : Program) (k : TypeId) (q : IntKind) (w : World) (b r n : Nat) (f : Int → Option Value) (left : Int → Bool) (cnt : Nat) : Prop :=
  ∃ (D : DataW Value) (L : Lit → Bool), w.ranges P k rawR b r n D L cnt ∧ Maps.size D = n ∧ (∀ i, Maps.has D (.int q i) = (f i).isSome) ∧ (∀ i v, f i = some v → ∀ z, D.atKey (.int q i) z = .held v) ∧ ∀ i, L (.int q i) = left i
theorem MapRange.is (h : MapRange P k q w b r n f left cnt) : MapIs P k q w b n f := by
  obtain ⟨D, L, h1, h2, h3, h4, _⟩ := h
  exact ⟨D, h1.owns, h2, h3, h4⟩
theorem MapRange.ne (h : MapRange P k q w b r n f left cnt) : r ≠ b := by
  obtain ⟨D, L, h1, _⟩ := h
  exact h1.ne
theorem MapRange.lt (h : MapRange P k q w b r n f left cnt) : r < w.heap.size := by
  obtain ⟨D, L, h1, _⟩ := h
  exact h1.lt
theorem MapRange.left_eq (h : MapRange P k q w b r n f left cnt) : w.rangeLeft b r = cnt := by
  obtain ⟨D, L, h1, _⟩ := h
  exact h1.left_eq
theorem MapRange.kept {row : Option Nat} (h : MapRange P k q w b r n f left cnt) (hg : w.grownBy w' row) (hb : some b ≠ row) (hr : some r ≠ row) : MapRange P k q w' b r n f left cnt := by
  obtain ⟨D, L, h1, h2⟩ := h
  exact ⟨D, L, h1.kept hg hb hr, h2⟩
variable {ops : Array Oper} {rest : List Oper} {o : Oper} {a : Act} {Q : Exit → Act → World → Prop}
/-- 'range m'. -/
theorem map_range (hg : o.guard = none) (m : Operand) (t : TypeId) (hop : o.op = Op.range t m) (k e : TypeId) (q : IntKind) (hk : P.underlying k = some (.int q)) (ht : P.underlying t = some (.map k e)) (b n : Nat) (f : Int → Option Value)
    (hm : a.eval m = .map (some b)) (h : MapIs P k q w b n f)
    (hK : ∀ w', MapRange P k q w' b w.heap.size n f (fun i => (f i).isSome) n → w.grownBy w' none → w'.heap.size = w.heap.size + 1 → wpList P ops Q rest (a.put o.dst (.pointer (some ⟨w.heap.size, 0, none⟩))) w') : wpList P ops Q (o :: rest) a w := by
  obtain ⟨D, hD, hs, hh, ha⟩ := h
  refine wpList_range_own w hg m t hop k e (int_keyed hk) ht rawR b n D hm hD (fun w' h1 h2 h3 => hK w' ⟨D, _, ?_, hs, hh, ha, fun i => hh i⟩ h2 h3)
  rw [← hs]
  rw [hs]
  exact hs ▸ h1
/-- the step of a range. -/
theorem map_next (hg : o.guard = none) (it : Operand) (hop : o.op = Op.next it false) (k : TypeId) (q : IntKind) (hk : P.underlying k = some (.int q)) (b r n : Nat) (f : Int → Option Value) (left : Int → Bool) (cnt : Nat)
    (hit : a.eval it = .pointer (some ⟨r, 0, none⟩)) (h : MapRange P k q w b r n f left cnt)
    (hDone : cnt = 0 → (∀ i, left i = false) → wpList P ops Q rest (a.put o.dst (.tuple #[.bool false])) w)
    (hMore : ∀ (i : Int) (v : Value) (w' : World) (cnt' : Nat), (Lit.int q i).wf = true → left i = true → f i = some v → MapRange P k q w' b r n f (fun j => left j && !decide (j = i)) cnt' → cnt' < cnt →
      w.grownBy w' (some r) → w'.heap.size = w.heap.size → (Instr.entry (.pointer (some ⟨r, 0, none⟩))).run P w' = .ok (.tuple #[.int q i, v]) w' → wpList P ops Q rest (a.put o.dst (.tuple #[.bool true, .int q i, v])) w') :
    wpList P ops Q (o :: rest) a w := by
  obtain ⟨D, L, h1, hs, hh, ha, hL⟩ := h
  refine wpList_plain hg fun K' hK' => ?_
  unfold Oper.wp
  rcases h1.next (int_keyed hk) o.type with ⟨h0, hl, hrun⟩ | ⟨key, v, kl, y, w', cnt', hkey, hlk, hv, hat, hrun, hrg, hlt, hgr, hsz, hen⟩
  · simp [execOp, hop, hit, hrun, Result.andThen]
    exact hK' _ _ (hDone h0 (fun i => by rw [← hL]; exact hl _))
  · obtain ⟨i, rfl, rfl, hwf⟩ := Maps.keyOf_int_inv hk hkey
    simp [execOp, hop, hit, hrun, Result.andThen]
    have hf : f i = some v := by
      cases hfi : f i with
      | none =>
        have hn : Maps.has D (.int q i) = false := by rw [hh, hfi]; rfl
        have e1 := hat (.held undef)
        rw [atKey_of_not_has hn] at e1
        have e2 := hat (.lit (.bool true))
        rw [atKey_of_not_has hn] at e2
        rw [← e1] at e2
        cases e2
      | some u =>
        have e1 := hat (.held undef)
        rw [ha i u hfi] at e1
        unfold rawR at hv
        cases hv
        injection e1 with e1
        rw [e1]
    refine hK' _ _ (hMore i v w' cnt' hwf (by rw [← hL]; exact hlk) hf ⟨D, _, hrg, hs, hh, ha, fun j => ?_⟩ hlt hgr hsz hen)
    rw [hL]
    by_cases hj : j = i
    · subst hj
      simp [Lit.sameKey]
    · simp [Lit.sameKey, hj]
end

section
variable {P : Program} {k e t : TypeId} {q : IntKind} {w w' : World} {n : Nat} {mb : Option Nat} {f : Int → Option Value}
/-- a map, nil or not. -/
def MapOpt (P : Program) (k : TypeId) (q : IntKind) (w : World) (mb : Option Nat) (n : Nat) (f : Int → Option Value) : Prop :=
  (mb = none ∧ n = 0 ∧ ∀ i, f i = none) ∨ ∃ b, mb = some b ∧ MapIs P k q w b n f
theorem MapOpt.below (h : MapOpt P k q w mb n f) (hb : Below w.heap.size w w') : MapOpt P k q w' mb n f := by
  rcases h with h | ⟨b, e, h⟩
  · exact .inl h
  · exact .inr ⟨b, e, h.kept (row := none) ⟨hb.os, hb.tape, hb.output, hb.size, fun i hi _ => hb.block i hi⟩ (by simp)⟩
theorem MapOpt.kept {row : Option Nat} (h : MapOpt P k q w mb n f) (hg : w.grownBy w' row) (hne : ∀ b, mb = some b → some b ≠ row) : MapOpt P k q w' mb n f := by
  rcases h with h | ⟨b, e, h⟩
  · exact .inl h
  · exact .inr ⟨b, e, h.kept hg (hne b e)⟩
variable {ops : Array Oper} {rest : List Oper} {o : Oper} {a : Act} {Q : Exit → Act → World → Prop}
theorem opt_look_ok (hg : o.guard = none) (m x : Operand) (t : TypeId) (hop : o.op = Op.lookup t m x true) (k e : TypeId) (q : IntKind) (hk : P.underlying k = some (.int q)) (ht : P.underlying t = some (.map k e)) (z : Value) (hz : (zeroValue e).run P w = .ok z w)
    (mb : Option Nat) (n : Nat) (f : Int → Option Value) (hm : a.eval m = .map mb) (h : MapOpt P k q w mb n f) (i : Int) (hx : a.eval x = .int q i) (hwf : (Lit.int q i).wf = true)
    (hK : wpList P ops Q rest (a.put o.dst (.tuple #[(f i).getD z, .bool (f i).isSome])) w) : wpList P ops Q (o :: rest) a w := by
  rcases h with ⟨rfl, _, hf⟩ | ⟨b, rfl, h⟩
  · refine wpList_plain hg fun K' hK' => ?_
    have hrun := Maps.look_nil (w := w) true (int_keyed hk) ht hz (keyOf_int_mk hk hwf)
    rw [hf i] at hK
    unfold Oper.wp
    simp [execOp, hop, hm, hx, hrun, Result.andThen]
    exact hK' _ _ hK
  · exact map_look_ok hg m x t hop k e q hk ht z hz b n f hm h i hx hwf hK
theorem opt_look (hg : o.guard = none) (m x : Operand) (t : TypeId) (hop : o.op = Op.lookup t m x false) (k e : TypeId) (q : IntKind) (hk : P.underlying k = some (.int q)) (ht : P.underlying t = some (.map k e)) (z : Value) (hz : (zeroValue e).run P w = .ok z w)
    (mb : Option Nat) (n : Nat) (f : Int → Option Value) (hm : a.eval m = .map mb) (h : MapOpt P k q w mb n f) (i : Int) (hx : a.eval x = .int q i) (hwf : (Lit.int q i).wf = true)
    (hK : wpList P ops Q rest (a.put o.dst ((f i).getD z)) w) : wpList P ops Q (o :: rest) a w := by
  rcases h with ⟨rfl, _, hf⟩ | ⟨b, rfl, h⟩
  · refine wpList_plain hg fun K' hK' => ?_
    have hrun := Maps.look_nil (w := w) false (int_keyed hk) ht hz (keyOf_int_mk hk hwf)
    rw [hf i] at hK
    unfold Oper.wp
    simp [execOp, hop, hm, hx, hrun, Result.andThen]
    exact hK' _ _ hK
  · exact map_look hg m x t hop k e q hk ht z hz b n f hm h i hx hwf hK
theorem opt_len (hg : o.guard = none) (m : Operand) (t : TypeId) (hop : o.op = Op.call { callee := Callee.builtin Builtin.len, args := #[m], argTypes := #[t] }) (k e : TypeId) (q : IntKind) (ht : P.underlying t = some (.map k e))
    (mb : Option Nat) (n : Nat) (f : Int → Option Value) (hm : a.eval m = .map mb) (h : MapOpt P k q w mb n f) (hK : wpList P ops Q rest (a.put o.dst (.int .i64 n)) w) : wpList P ops Q (o :: rest) a w := by
  rcases h with ⟨rfl, rfl, hf⟩ | ⟨b, rfl, h⟩
  · refine wpList_plain hg fun K' hK' => ?_
    unfold Oper.wp
    simp [execOp, hop, resolve, invoke, builtin, hm, Maps.len_nil (w := w) ht o.type, Result.andThen]
    exact hK' _ _ hK
  · exact map_len hg m t hop k e q ht b n f hm h hK
/-- 'len(m)' where its operation is guarded, and wanted. -/
theorem opt_len_if (m : Operand) (t : TypeId) (hop : o.op = Op.call { callee := Callee.builtin Builtin.len, args := #[m], argTypes := #[t] }) (k e : TypeId) (q : IntKind) (ht : P.underlying t = some (.map k e))
    (mb : Option Nat) (n : Nat) (f : Int → Option Value) (hm : a.eval m = .map mb) (h : MapOpt P k q w mb n f) (hw : Region.wanted o (yielded ops a.tmps) = true) (hK : wpList P ops Q rest (a.put o.dst (.int .i64 n)) w) : wpList P ops Q (o :: rest) a w := by
  refine wpList_step fun K hK' => ?_
  rw [if_pos hw]
  unfold Oper.wp
  rcases h with ⟨rfl, rfl, hf⟩ | ⟨b, rfl, D, hD, hs, _⟩
  · simp [execOp, hop, resolve, invoke, builtin, hm, Maps.len_nil (w := w) ht o.type, Result.andThen]
    exact hK' _ _ hK
  · simp [execOp, hop, resolve, invoke, builtin, hm, hD.len ht o.type, Result.andThen, hs]
    exact hK' _ _ hK
end

section
variable {P : Program} {k : TypeId} {q : IntKind} {w w' : World} {b b' n n' : Nat} {f : Int → Option Value}
/-- every key is a number of the kind. -/
theorem keys_int {R : Value → Option (DataW Value × List MemPlace)} {m : Nat} {D : DataW Value} (hk : P.underlying k = some (.int q)) (h : w.ownsMap P k R b m D) {l : Lit} (hl : Maps.has D l = true) : ∃ i, l = .int q i := by
  obtain ⟨es, clock, _, F, _, rfl⟩ := h
  obtain ⟨p, hp, hpl⟩ := List.any_eq_true.1 hl
  obtain ⟨v, hv⟩ := Maps.fit_keys F p (mem_sorted.1 hp)
  obtain ⟨i, _, e, _⟩ := Maps.keyOf_int_inv hk hv
  have e2 := WideAt.sameKey_eq hpl
  exact ⟨i, by rw [← e2, e]⟩
/-- how many entries hangs on what they are. -/
theorem MapIs.size_uniq (hk : P.underlying k = some (.int q)) (h : MapIs P k q w b n f) (h' : MapIs P k q w' b' n' f) : n = n' := by
  obtain ⟨D, hD, hs, hh, ha⟩ := h
  obtain ⟨D', hD', hs', hh', ha'⟩ := h'
  have e : D = D' := Maps.ext (hD.canon (int_keyed hk)) (hD'.canon (int_keyed hk)) (fun l => by
    cases h1 : Maps.has D l with
    | true =>
      obtain ⟨i, rfl⟩ := keys_int hk hD h1
      rw [hh', ← hh, h1]
    | false =>
      cases h2 : Maps.has D' l with
      | false => rfl
      | true =>
        obtain ⟨i, rfl⟩ := keys_int hk hD' h2
        rw [hh, ← hh', h2] at h1
        cases h1) (fun l z hl => by
      obtain ⟨i, rfl⟩ := keys_int hk hD hl
      rw [hh] at hl
      obtain ⟨v, hv⟩ := Option.isSome_iff_exists.1 hl
      rw [ha i v hv, ha' i v hv])
  rw [← hs, ← hs', e]
end

end Go.Proofs.YtdaedkolpfkdjaaGreat
end
