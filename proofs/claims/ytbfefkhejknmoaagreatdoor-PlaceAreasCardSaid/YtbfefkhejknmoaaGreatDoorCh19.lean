/-
  The walk of band.edges: the rows at which rectangles begin or end, rising, each once.
-/
import Derived.Test.YtbfefkhejknmoaaGreatDoorCh14
import Derived.Test.YtbfefkhejknmoaaGreatDoorCh18
namespace Go.Proofs.YtbfefkhejknmoaaGreatDoor
open Go.RowKit Go.Shelf Go.Lib Go.Sort

/-- where rectangles begin and end. -/
def ysL (rs : List RC) : List Int := rs.flatMap fun r => [r.Y, r.Y + r.H]
theorem ysL_len (rs : List RC) : (ysL rs).length = 2 * rs.length := by
  induction rs with
  | nil => rfl
  | cons r rs ih => simp [ysL] at ih ⊢; omega
theorem ysL_snoc (rs : List RC) (r : RC) : ysL (rs ++ [r]) = ysL rs ++ [r.Y, r.Y + r.H] := by simp [ysL]
theorem mem_ysL (rs : List RC) (y : Int) : y ∈ ysL rs ↔ ∃ r ∈ rs, y = r.Y ∨ y = r.Y + r.H := by simp [ysL]
/-- what the sort of numbers leaves. -/
theorem sort_worldI {w : World} {g n : Nat} {t : TypeId} {zs : List Int} {rest : List Value} (h : Blk w g t (I64 zs ++ rest).toArray) (d : Array Int) (hs : d.size = zs.length) (os : Array Obj) :
    Blk (grow (putRow (Value.int .i64) (Sort.ahead w n) g 0 d) os) g t (I64 d.toList ++ rest).toArray ∧ w.grownBy (grow (putRow (Value.int .i64) (Sort.ahead w n) g 0 d) os) (some g) := by
  have hl := h.lt
  constructor
  · unfold Blk
    rw [heap_grow_old _ _ (by rw [size_putRow]; exact hl)]
    unfold putRow mapBlock
    simp only [Sort.ahead, Array.getElem?_modify, if_true]
    rw [show w.heap[g]? = _ from h]
    simp only [Option.map_some, onCells]
    congr 2
    unfold putCells
    apply Array.ext
    · simp [I64, hs]
    · intro i h1 h2
      simp only [Array.getElem_mapIdx, List.getElem_toArray, Nat.zero_le, true_and, Nat.zero_add, Nat.sub_zero]
      split
      · rename_i hi
        rw [getElem!_pos _ i hi, List.getElem_append_left (by simpa [I64] using hi)]
        simp [I64]
      · rename_i hi
        rw [List.getElem_append_right (by simp [I64]; omega), List.getElem_append_right (by simp [I64]; omega)]
        simp [I64, hs]
  · refine ⟨rfl, rfl, rfl, by simp, fun i hi hn => ?_⟩
    rw [heap_grow_old _ _ (by rw [size_putRow]; exact hi)]
    unfold putRow mapBlock
    simp only [Sort.ahead, Array.getElem?_modify]
    rw [if_neg (fun e => hn (by rw [e]))]

theorem holds_I64 {w : World} {g : Nat} {t : TypeId} {zs : List Int} {rest : List Value} (h : Blk w g t (I64 zs ++ rest).toArray) : Holds (Value.int .i64) w g 0 zs.toArray := by
  intro j hj
  have hj' : j < zs.length := by simpa using hj
  rw [Nat.zero_add]
  refine ⟨h.cellV ?_, h.frozen j⟩
  rw [getElem!_pos _ j hj]
  simp only [List.getElem?_toArray, List.getElem_toArray, I64]
  rw [List.getElem?_append_left (by simpa using hj'), List.getElem?_map, List.getElem?_eq_getElem hj']
  rfl
set_option maxRecDepth 100000 in
set_option maxHeartbeats 2000000 in
theorem edges_any (A : Option Addr) (n c : Nat) (rs : List RC) (w : World) (hn : 0 < n) (hnb : n ≤ 1000000000) (hr : RdR w A n rs) (hok : ∀ r ∈ rs, r.ok) :
    Calls Tryz.prog 69 #[.slice A n c] w fun e w' => ∃ (g c' : Nat) (ys : List Int), e = .returned (.slice (some ⟨g, 0, none⟩) ys.length c') ∧ Rd w' (some ⟨g, 0, none⟩) ys.length (I64 ys) ∧ w.heap.size ≤ g ∧ ys.Pairwise (· < ·) ∧ (∀ y, y ∈ ys ↔ y ∈ ysL rs) ∧ Below w.heap.size w w' := by
  obtain ⟨i0, hi0, hz0, hz1, hz2⟩ := info_parts Tryz.infoI
  have HR := Lib.hid hr
  have HOK := Lib.hid hok
  clear hr hok
  go_enter Tryz.func69, Tryz.ntmps69
  go_wp2_with (at_make; refine wpList_make_own _ rfl _ _ 118 rfl w.heap.size 3 i0 _ 1 Tryz.underlying118 hi0 hz0 hz1 _ _ _ (2 * n) rfl rfl (by simp) (by rw [hz2]; omega) (by simp only [maxLen]; omega) (Nat.le_refl _) ?_; intro w1 hown hg1; have HO := Lib.hid hown; have hB1 : Below w.heap.size w w1 := (Below.refl _ w).grown hg1 (Nat.le_refl _) (by simp))
  have hst : w1.ownsRow w.heap.size 3 1 (.slice (some ⟨w.heap.size, 0, none⟩) 0 (2 * n)) (2 * 0) (I64 (ysL (rs.take 0))) := by simpa [I64, ysL] using HO.out
  have HST := Lib.hid hst
  clear hst HO
  go_loopw [3, 12] (fun v i wr => ∃ k : Nat, i = .int .i64 k ∧ k ≤ n ∧ wr.ownsRow w.heap.size 3 1 v (2 * k) (I64 (ysL (rs.take k))) ∧ Below w.heap.size w wr) (fun _ i _ => n - (intOf i).toNat)
  case atStart => exact ⟨0, rfl, by omega, HST.out, hB1⟩
  case round =>
    obtain ⟨k, rfl, hk, ho, hB⟩ := hrel
    have HO := Lib.hid ho
    have HB := Lib.hid hB
    have hBs := hB.size
    clear ho hB HST
    by_cases hlt : k < n
    · obtain ⟨x, hx⟩ : ∃ x, rs[k]? = some x := ⟨_, List.getElem?_eq_getElem (by have := HR.out.1; omega)⟩
      obtain ⟨b, off, rfl, hbl, hc⟩ := (HR.out.below HB.out).2 (by omega)
      obtain ⟨x0, x1, x2, x3⟩ := hc k x hx
      obtain ⟨_, _, h3, h4, _, _, h7, h8⟩ := HOK.out x (List.mem_of_getElem? hx)
      have htk : rs.take (k + 1) = rs.take k ++ [x] := by rw [List.take_add_one, hx]; rfl
      have HTK := Lib.hid htk
      have k0 : (0 : Int) ≤ (k : Int) := by omega
      have k1 : (k : Int) < (n : Int) := by omega
      clear hc hx htk
      go_upto_region 5 with fail
      have BV := Lib.hid (bstep HB.out (bal (bre wr) (.cells #[.int .i64 x.X, .int .i64 x.Y, .int .i64 x.W, .int .i64 x.H] 29)))
      have OV := Lib.hid (HO.out.alloc (.cells #[.int .i64 x.X, .int .i64 x.Y, .int .i64 x.W, .int .i64 x.H] 29))
      have bx := Blk.new wr 29 #[.int .i64 x.X, .int .i64 x.Y, .int .i64 x.W, .int .i64 x.H]
      obtain ⟨V, hV⟩ : ∃ V, wr.alloc (.cells #[.int .i64 x.X, .int .i64 x.Y, .int .i64 x.W, .int .i64 x.H] 29) = V := ⟨_, rfl⟩
      obtain ⟨gb, hgb⟩ : ∃ gb, wr.heap.size = gb := ⟨_, rfl⟩
      rw [hV] at BV OV bx ⊢
      rw [hgb] at bx ⊢
      have v1 := bx.cellV (i := 1) (v := .int .i64 x.Y) rfl
      have v3 := bx.cellV (i := 3) (v := .int .i64 x.H) rfl
      have vs := BV.out.size
      clear hV hgb x0 x1 x2 x3 bx
      go_wp2_with (at_builtin; refine wpList_append_own _ rfl _ _ 118 rfl w.heap.size 3 i0 _ 1 8 Tryz.underlying118 hi0 hz0 hz1 hz2 rfl (by decide) _ _ _ rfl (OV.out.alloc _) ⟨V.heap.size, 0, none⟩ 2 2 [.int .i64 x.Y, .int .i64 (x.Y + x.H)] rfl rfl (two_newI _ _ _ _) (by simp [Value.oneCell']) (by simp only [maxLen]; omega) (by omega) (by simp; omega) ?_; intro v' w4 hown' hgrow _)
      have hB4 : Below w.heap.size w w4 := (BV.out.alloc BV.out.size _).grown hgrow (by simp; omega) (own_ge OV.out)
      go_roundw
      case rel => exact ⟨k + 1, by go_num, by omega, by rw [HTK.out, ysL_snoc, I64, List.map_append, show 2 * (k + 1) = 2 * k + 2 from by omega]; exact hown', hB4⟩
      case measure => simp [intOf]; omega
    · obtain rfl : k = n := by omega
      have ho := HO.out
      rw [List.take_of_length_le (by rw [HR.out.1]; exact Nat.le_refl _)] at ho
      obtain ⟨g, cap, hv, hgg, hcap, hcm, rest, hb⟩ := own_I64 ho (by omega)
      subst hv
      have hlen : (ysL rs).length = 2 * k := by rw [ysL_len, HR.out.1]
      have HBK := Lib.hid hb
      have HLEN := Lib.hid hlen
      clear ho hb hlen HO
      go_wp2_with fail
      have hS := Tryz.slices_Sort_int g 0 cap (ysL rs) wr (holds_I64 HBK.out) HBK.out.lt (by rw [HLEN.out]; omega)
      rw [HLEN.out] at hS
      refine hS.mono ?_
      rintro e w5 ⟨rfl, m, os, hw5⟩
      obtain ⟨S, hSs⟩ : ∃ S, (ysL rs).mergeSort (fun x y => decide (x ≤ y)) = S := ⟨_, rfl⟩
      rw [hSs] at hw5
      have hperm : S.Perm (ysL rs) := by rw [← hSs]; exact List.mergeSort_perm _ _
      have hsort : S.Pairwise (· ≤ ·) := by
        rw [← hSs]
        have := List.pairwise_mergeSort (le := fun x y : Int => decide (x ≤ y)) (by intro a b c h1 h2; simp at *; omega) (by intro a b; simp; omega) (ysL rs)
        exact this.imp (by intro a b h; simpa using h)
      have hSl : S.length = 2 * k := by rw [hperm.length_eq, HLEN.out]
      obtain ⟨k5, k6⟩ := sort_worldI (n := m) HBK.out S.toArray (by rw [List.size_toArray, hSl, HLEN.out]) os
      rw [← hw5] at k5 k6
      have HB5 := Lib.hid k5
      have B5 : Hid (Below w.heap.size w w5) := Lib.hid (HB.out.grown k6 HB.out.size (fun q e => by cases e; exact hgg))
      have HSL := Lib.hid hSl
      have HSO := Lib.hid hsort
      have HPE := Lib.hid hperm
      clear hS hw5 hSs hperm hsort hSl k5 k6
      go_wp2_with fail
      have hcell : ∀ j, j < S.length → w5.cell? ⟨g, 0 + j, none⟩ = some (.int .i64 (S.getD j 0)) := fun j hj => by
        rw [Nat.zero_add]
        refine HB5.out.cellV ?_
        simp only [List.getElem?_toArray, I64]
        rw [List.getElem?_append_left (by simpa using hj), List.getElem?_map, List.getElem?_eq_getElem hj, List.getD_eq_getElem?_getD, List.getElem?_eq_getElem hj]
        rfl
      have hC := Tryz.slices_Compact_int_cells g 0 (2 * k) cap S w5 (by rw [HSL.out]; exact Nat.le_refl _) (by omega) hcap hcell (fun j _ => HB5.out.frozen _)
      rw [List.take_of_length_le (by rw [HSL.out]; exact Nat.le_refl _)] at hC
      obtain ⟨c1, c2⟩ := compact_rises HSO.out
      obtain ⟨ys, hys⟩ : ∃ ys, Lib.compact S = ys := ⟨_, rfl⟩
      have hyl : ys.length ≤ 2 * k := by rw [← hys, ← HSL.out]; exact Lib.compact_length_le S
      rw [hys] at hC c1 c2
      refine hC.mono ?_
      rintro e w6 ⟨rfl, q, hw6⟩
      have HY1 := Lib.hid c1
      have HY2 := Lib.hid c2
      have HW6 := Lib.hid hw6
      have HC5 := Lib.hid hcell
      clear hC c1 c2 hys hcell hw6
      go_wp2_with fail
      go_ret
      have hvl : (I64 (ys ++ List.replicate (2 * k - ys.length) 0)).length = 2 * k := by simp [I64]; omega
      refine ⟨g, cap, ys, rfl, ⟨by simp [I64], fun _ => ⟨g, 0, rfl, ?_, fun j u hj => ?_⟩⟩, hgg, HY1.out, fun y => (HY2.out y).trans HPE.out.mem_iff, ?_⟩
      · have h1 := HB5.out.lt
        have h2 := (grown_setCells (g := g) (I64 (ys ++ List.replicate (2 * k - ys.length) 0)) 0 (w5.drewN q)).size
        rw [HW6.out]
        exact Nat.lt_of_lt_of_le h1 h2
      · rw [HW6.out]
        have hjl : j < ys.length := by have := (List.getElem?_eq_some_iff.1 hj).1; simpa [I64] using this
        have h := World.cell?_setCells_in g (I64 (ys ++ List.replicate (2 * k - ys.length) 0)) 0 (w5.drewN q) (fun i hi => by
          have := HC5.out i (by rw [HSL.out]; omega)
          rw [show (w5.drewN q).cell? ⟨g, 0 + i, none⟩ = w5.cell? ⟨g, 0 + i, none⟩ from rfl, this]
          rfl) j (by omega)
        refine h.trans ?_
        rw [← hj]
        simp only [I64, List.getElem_map, List.getElem?_map]
        rw [List.getElem?_eq_getElem hjl, List.getElem_append_left hjl]
        rfl
      · rw [HW6.out]
        refine B5.out.grown (grown_row (g := g) (grown_of_below (undrewN w5 q) _) (grown_setCells _ _ _)) B5.out.size (fun q' e => by cases e; exact hgg)

end Go.Proofs.YtbfefkhejknmoaaGreatDoor
