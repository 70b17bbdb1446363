/-
  The walks of glazierlaw34's id, small, ink and plane.
  Laws for regions that draw: a struct that is built; what stays where another block is written whole.
  A canvas: its items; the walk of maps.Copy at items, and of a canvas's with.
-/
import Derived.Test.YtdaedkolpfkdjaaGreatZV01
import Derived.Test.YtdaedkolpfkdjaaGreatZV24
import Derived.Test.YtdaedkolpfkdjaaGreatZV04
import Derived.Great.BuildSlice
import Derived.Test.YtdaedkolpfkdjaaGreatZV03
section
namespace Go.Proofs.YtdaedkolpfkdjaaGreat
open Go.RowKit Go.Maps Go.Shelf

set_option maxRecDepth 100000 in
/-- the id of the n-th window (0: the root). -/
theorem id34_any (n : Nat) (w : World) (h : n ≤ 1000000) : Calls Tryz.prog 49 #[.int .i64 n] w fun e w' => e = .returned (.int .u32 (idW ((n : Int) - 1))) ∧ Below w.heap.size w w' := by
  by_cases h0 : n = 0
  · subst h0
    go_enter Tryz.func49, Tryz.ntmps49
    go_wp2_with fail
    go_ret
    exact ⟨rfl, bre w⟩
  · have z : ((n : Int) == 0) = false := by rw [beq_eq_false_iff_ne]; omega
    have e : idW ((n : Int) - 1) = 1048576 + (n : Int) := by unfold idW; rw [if_neg (by omega)]; omega
    have e1 : IntKind.i64.wrap (1048576 + (n : Int)) = 1048576 + (n : Int) := IntWalk.i64_in _ (by omega)
    have e2 : IntKind.u32.wrap (1048576 + (n : Int)) = 1048576 + (n : Int) := IntWalk.u32_in _ (by omega)
    rw [e]
    go_enter Tryz.func49, Tryz.ntmps49
    go_wp2_with fail
    go_ret
    exact ⟨rfl, bre w⟩
/-- rectangles that may be a shape here. -/
def SmallR (r : RC) : Prop := ((-100 ≤ r.X ∧ r.X ≤ 100) ∧ -100 ≤ r.Y ∧ r.Y ≤ 100) ∧ (0 ≤ r.W ∧ r.W ≤ 100) ∧ 0 ≤ r.H ∧ r.H ≤ 100
/-- what small answers. -/
def SmallP (rs : List RC) (e : Ending) (w w' : World) : Prop := ∃ b : Bool, e = .returned (.bool b) ∧ (b = true → rs.length ≤ 6 ∧ ∀ r ∈ rs, SmallR r) ∧ Below w.heap.size w w'
set_option maxRecDepth 100000 in
set_option maxHeartbeats 4000000 in
theorem small_any (A : Option Addr) (n c : Nat) (rs : List RC) (w : World) (hn : n ≤ maxLen) (hr : RdR w A n rs) :
    Calls Tryz.prog 96 #[.slice A n c] w fun e w' => SmallP rs e w w' := by
  have HR := Lib.hid hr
  have hlen := hr.1
  have HLN := Lib.hid hlen
  have hnm : (n : Int) ≤ 9223372036854775807 := by simp only [maxLen] at hn; omega
  clear hr hn hlen
  go_enter Tryz.func96, Tryz.ntmps96
  go_wp2_with fail
  go_loopw [7] (fun i wr => ∃ k : Nat, i = .int .i64 k ∧ k ≤ n ∧ (∀ j r, j < k → rs[j]? = some r → SmallR r) ∧ Below w.heap.size w wr) (fun i _ => n - (intOf i).toNat)
  case atStart => exact ⟨0, rfl, by omega, fun j r h => absurd h (by omega), bre w⟩
  case round =>
    obtain ⟨k, rfl, hk, hall, hb⟩ := hrel
    have HB := Lib.hid hb
    have HA := Lib.hid hall
    clear hb hall
    by_cases hlt : k < n
    · obtain ⟨r, hrk⟩ : ∃ r, rs[k]? = some r := ⟨_, List.getElem?_eq_getElem (by rw [HLN.out]; exact hlt)⟩
      obtain ⟨b, off, rfl, hbl, hcl⟩ := (HR.out.below HB.out).2 (by omega)
      obtain ⟨a0, a1, a2, a3⟩ := hcl k r hrk
      obtain ⟨rX, rY, rW, rH⟩ := r
      dsimp only at a0 a1 a2 a3
      have HRK := Lib.hid hrk
      have k1 : (k : Int) < (n : Int) := by omega
      have k0 : (0 : Int) ≤ (k : Int) := by omega
      clear hcl hrk hbl
      go_upto_region 4 with fail
      have xb := bal HB.out (.cells #[.int .i64 rX, .int .i64 rY, .int .i64 rW, .int .i64 rH] 103)
      have xk := Blk.new wr 103 #[.int .i64 rX, .int .i64 rY, .int .i64 rW, .int .i64 rH]
      obtain ⟨g, hg⟩ : ∃ g, wr.heap.size = g := ⟨_, rfl⟩
      obtain ⟨X, hX⟩ : ∃ X, wr.alloc (.cells #[.int .i64 rX, .int .i64 rY, .int .i64 rW, .int .i64 rH] 103) = X := ⟨_, rfl⟩
      rw [hX] at xb xk ⊢
      rw [hg] at xk ⊢
      have HBX := Lib.hid xb
      have c0 := xk.cellV (i := 0) (v := .int .i64 rX) rfl
      have c1 := xk.cellV (i := 1) (v := .int .i64 rY) rfl
      have c2 := xk.cellV (i := 2) (v := .int .i64 rW) rfl
      have c3 := xk.cellV (i := 3) (v := .int .i64 rH) rfl
      clear xb xk hX hg a0 a1 a2 a3
      by_cases h0 : rX < -100
      · have d0 : decide (rX < -100) = true := decide_eq_true h0
        go_wp2_with fail
        go_ret
        exact ⟨false, rfl, (fun h => by cases h), HBX.out⟩
      have d0 : decide (rX < -100) = false := decide_eq_false h0
      by_cases h1 : 100 < rX
      · have d1 : decide (100 < rX) = true := decide_eq_true h1
        go_wp2_with fail
        go_ret
        exact ⟨false, rfl, (fun h => by cases h), HBX.out⟩
      have d1 : decide (100 < rX) = false := decide_eq_false h1
      by_cases h2 : rY < -100
      · have d2 : decide (rY < -100) = true := decide_eq_true h2
        go_wp2_with fail
        go_ret
        exact ⟨false, rfl, (fun h => by cases h), HBX.out⟩
      have d2 : decide (rY < -100) = false := decide_eq_false h2
      by_cases h3 : 100 < rY
      · have d3 : decide (100 < rY) = true := decide_eq_true h3
        go_wp2_with fail
        go_ret
        exact ⟨false, rfl, (fun h => by cases h), HBX.out⟩
      have d3 : decide (100 < rY) = false := decide_eq_false h3
      by_cases h4 : rW < 0
      · have d4 : decide (rW < 0) = true := decide_eq_true h4
        go_wp2_with fail
        go_ret
        exact ⟨false, rfl, (fun h => by cases h), HBX.out⟩
      have d4 : decide (rW < 0) = false := decide_eq_false h4
      by_cases h5 : 100 < rW
      · have d5 : decide (100 < rW) = true := decide_eq_true h5
        go_wp2_with fail
        go_ret
        exact ⟨false, rfl, (fun h => by cases h), HBX.out⟩
      have d5 : decide (100 < rW) = false := decide_eq_false h5
      by_cases h6 : rH < 0
      · have d6 : decide (rH < 0) = true := decide_eq_true h6
        go_wp2_with fail
        go_ret
        exact ⟨false, rfl, (fun h => by cases h), HBX.out⟩
      have d6 : decide (rH < 0) = false := decide_eq_false h6
      by_cases h7 : 100 < rH
      · have d7 : decide (100 < rH) = true := decide_eq_true h7
        go_wp2_with fail
        go_ret
        exact ⟨false, rfl, (fun h => by cases h), HBX.out⟩
      have d7 : decide (100 < rH) = false := decide_eq_false h7
      have HSM := Lib.hid (show SmallR ⟨rX, rY, rW, rH⟩ by unfold SmallR; dsimp only; omega)
      go_wp2_with fail
      go_roundw
      case rel =>
        refine ⟨k + 1, by go_num, by omega, fun j r hj hrj => ?_, HBX.out⟩
        by_cases e : j = k
        · subst e
          rw [HRK.out] at hrj
          injection hrj with hrj
          subst hrj
          exact HSM.out
        · exact HA.out j r (by omega) hrj
      case measure => simp [intOf]; omega
    · obtain rfl : k = n := by omega
      have k1 : ¬ (k : Int) < (k : Int) := by omega
      go_wp2_with fail
      go_ret
      refine ⟨_, rfl, fun h => ⟨?_, fun r hr => ?_⟩, HB.out⟩
      · rw [HLN.out]
        have h9 := of_decide_eq_true h
        omega
      · obtain ⟨j, hj⟩ := List.getElem?_of_mem hr
        exact HA.out j r (by have := (List.getElem?_eq_some_iff.1 hj).1; rw [HLN.out] at this; exact this) hj
/-- a window's pixels. -/
def inkV (q : Int) (W i : Nat) : Int := bits .xor .u8 q (IntKind.u8.wrap (((i % W : Nat) : Int) * 3 + ((i / W : Nat) : Int) * 7))
def inkL (W n : Nat) (q : Int) : List Int := (List.range n).map (inkV q W)
theorem inkL_len (W n : Nat) (q : Int) : (inkL W n q).length = n := by simp [inkL]
theorem inkV_bd (q : Int) (W i : Nat) : 0 ≤ inkV q W i ∧ inkV q W i < 256 := by
  unfold inkV bits
  simp only
  rw [IntKind.wrap_u8]
  omega
theorem inkL_pix (W n : Nat) (q : Int) : Gr.Pix (inkL W n q) := fun p hp => by
  unfold inkL at hp
  obtain ⟨i, _, rfl⟩ := List.mem_map.1 hp
  exact inkV_bd q W i
/-- the first k of the numbers, zeros else. -/
def pl (N : Nat) (ps : List Int) (k : Nat) : List Int := (List.range N).map fun i => if i < k then ps.getD i 0 else 0
theorem pl_length (N : Nat) (ps : List Int) (k : Nat) : (pl N ps k).length = N := by simp [pl]
theorem pl_zero (N : Nat) (ps : List Int) : pl N ps 0 = List.replicate N 0 := by
  apply List.ext_getElem <;> simp [pl]
theorem pl_all {N : Nat} {ps : List Int} (h : ps.length = N) : pl N ps N = ps := by
  apply List.ext_getElem
  · simp [pl, h]
  · intro i h1 h2
    simp only [pl, List.getElem_map, List.getElem_range]
    rw [if_pos (by omega), List.getD_eq_getElem?_getD, List.getElem?_eq_getElem h2]
    rfl
theorem pl_set {N : Nat} {ps : List Int} {k : Nat} {p : Int} (hp : ps[k]? = some p) : pl N ps (k + 1) = (pl N ps k).set k p := by
  apply List.ext_getElem
  · simp [pl]
  · intro i h1 h2
    simp only [pl, List.getElem_map, List.getElem_range, List.getElem_set]
    by_cases hik : k = i
    · subst hik
      rw [if_pos (by omega), if_pos rfl, List.getD_eq_getElem?_getD, hp]
      rfl
    · rw [if_neg hik]
      by_cases h : i < k
      · rw [if_pos (by omega), if_pos h]
      · rw [if_neg (by omega), if_neg h]
theorem made_u8 (n : Nat) : (madeCells (Value.int .u8 0).cells (n * 1)).toList = Gr.U8 (List.replicate n 0) := by
  have e1 : (madeCells (Value.int .u8 0).cells (n * 1)).toList = List.replicate n (.int .u8 0) := by
    rw [List.eq_replicate_iff]
    refine ⟨by simp [madeCells], fun b hb => ?_⟩
    simp only [madeCells, Array.toList_map, List.mem_map, Array.toList_range, List.mem_range] at hb
    obtain ⟨i, _, rfl⟩ := hb
    simp [Nat.mod_one, Value.cells]
  rw [e1]
  simp [Gr.U8]
set_option maxRecDepth 100000 in
theorem Tryz.infoBy : (Tryz.prog.info? 5).map (fun i => (i.zero, i.size, i.bytes)) = some (some (.int .u8 0), 1, 1) := by kernel_rfl
set_option maxRecDepth 100000 in
set_option maxHeartbeats 4000000 in
theorem ink_any (W H : Nat) (q : Int) (w : World) (hW : 1 ≤ W ∧ W ≤ 128) (hH : 1 ≤ H ∧ H ≤ 128) :
    Calls Tryz.prog 41 #[.int .i64 W, .int .i64 H, .int .u8 q] w fun e w' => ∃ A c, e = .returned (.slice A (W * H) c) ∧ Rd w' A (W * H) (Gr.U8 (inkL W (W * H) q)) ∧ W * H ≤ c ∧ Fr w.heap.size A ∧ Below w.heap.size w w' := by
  have hWH := Gr.mul_le_128 hW.2 hH.2
  have m0 : (W : Int) * (H : Int) = ((W * H : Nat) : Int) := (Int.natCast_mul W H).symm
  have m1 : 0 ≤ (W : Int) * (H : Int) := by rw [m0]; omega
  have m2 : (W : Int) * (H : Int) ≤ 16384 := by rw [m0]; omega
  have mw : IntKind.i64.wrap ((W : Int) * (H : Int)) = (W : Int) * (H : Int) := IntWalk.i64_in _ (by omega)
  have M0 := Lib.hid m0
  clear m0
  obtain ⟨i0, hi, hz0, hz1, hz2⟩ := info_parts Tryz.infoBy
  obtain ⟨n, hn⟩ : ∃ n, W * H = n := ⟨_, rfl⟩
  have HN := Lib.hid hn
  have hn1 : n ≤ 16384 := by omega
  rw [hn]
  clear hn hWH
  go_enter Tryz.func41, Tryz.ntmps41
  go_upto_region 2 with (at_make; refine wpList_make_full _ rfl _ _ 86 rfl w.heap.size 5 i0 _ 1 Tryz.underlying86 hi hz0 hz1 _ _ _ _ n rfl rfl (by rw [M0.out, HN.out]) (by rw [M0.out, HN.out]) (by rw [hz2]; omega) (by simp only [maxLen]; omega) (Nat.le_refl _) ?_; intro w1 hown hg1; have HO := Lib.hid hown; have HB1 := Lib.hid (below_of_grown hg1); clear hown hg1)
  have hst : w1.ownsRow w.heap.size 5 1 (.slice (some ⟨w.heap.size, 0, none⟩) n n) n (madeCells (Value.int .u8 0).cells (n * 1)).toList := by simpa using HO.out
  rw [made_u8, ← pl_zero n (inkL W n q)] at hst
  have HST := Lib.hid (own_blk hst).2
  clear hst
  go_wp2_with fail
  go_loopw [15, 8] (fun i _ wr => ∃ k : Nat, i = .int .i64 k ∧ k ≤ n ∧ Blk wr w.heap.size 5 (Gr.U8 (pl n (inkL W n q) k)).toArray ∧ Below w.heap.size w wr) (fun i _ _ => n - (intOf i).toNat)
  case atStart => exact ⟨0, rfl, by omega, HST.out, HB1.out⟩
  case round =>
    obtain ⟨k, rfl, hk, hb, hbr⟩ := hrel
    have HBK := Lib.hid hb
    have HBR := Lib.hid hbr
    by_cases hlt : k < n
    · obtain ⟨r, hr⟩ : ∃ r : Nat, k % W = r := ⟨_, rfl⟩
      obtain ⟨d, hd⟩ : ∃ d : Nat, k / W = d := ⟨_, rfl⟩
      have hrl : r < W := by rw [← hr]; exact Nat.mod_lt _ (by omega)
      have hdl : d ≤ k := by rw [← hd]; exact Nat.div_le_self _ _
      have t0 : (k : Int).tmod (W : Int) = (r : Int) := by rw [Int.tmod_eq_emod_of_nonneg (by omega), ← hr]; exact (Int.natCast_emod k W).symm
      have t1 : (k : Int).tdiv (W : Int) = (d : Int) := by rw [Int.tdiv_eq_ediv_of_nonneg (by omega), ← hd]; exact (Int.natCast_ediv k W).symm
      have t2 : IntKind.i64.wrap (r : Int) = (r : Int) := IntWalk.i64_in _ (by omega)
      have t3 : IntKind.i64.wrap ((r : Int) * 3) = (r : Int) * 3 := IntWalk.i64_in _ (by omega)
      have t4 : IntKind.i64.wrap (d : Int) = (d : Int) := IntWalk.i64_in _ (by omega)
      have t5 : IntKind.i64.wrap ((d : Int) * 7) = (d : Int) * 7 := IntWalk.i64_in _ (by omega)
      have t6 : IntKind.i64.wrap ((r : Int) * 3 + (d : Int) * 7) = (r : Int) * 3 + (d : Int) * 7 := IntWalk.i64_in _ (by omega)
      have z1 : ((W : Int) == 0) = false := by rw [beq_eq_false_iff_ne]; omega
      have z2 : ¬ (W : Int) = 0 := by omega
      obtain ⟨u, hu⟩ : ∃ u, (pl n (inkL W n q) k)[k]? = some u := ⟨_, List.getElem?_eq_getElem (by rw [pl_length]; exact hlt)⟩
      have c0 := hb.cellV (i := k) (v := .int .u8 u) (by simp [Gr.U8, hu])
      have f0 := hb.frozen k
      have hl := hb.lt
      have k0 : (0 : Int) ≤ (k : Int) := by omega
      have k1 : (k : Int) < (n : Int) := by omega
      have HV := Lib.hid (show (inkL W n q)[k]? = some (bits .xor .u8 q (IntKind.u8.wrap ((r : Int) * 3 + (d : Int) * 7))) by
        unfold inkL inkV
        rw [List.getElem?_map, List.getElem?_range hlt, Option.map_some, hr, hd])
      clear hb hbr hu hr hd hrl hdl
      go_upto_region 5 with fail
      go_region
      all_goals
        go_wp2_with fail
        go_roundw
      case rel =>
        refine ⟨k + 1, by go_num, by omega, ?_, (bset HBR.out (p := ⟨w.heap.size, k, none⟩) (Nat.le_refl _) _).drew⟩
        rw [pl_set HV.out]
        have h9 := HBK.out.set_ k (.int .u8 (bits .xor .u8 q (IntKind.u8.wrap ((r : Int) * 3 + (d : Int) * 7))))
        rw [List.setIfInBounds_toArray] at h9
        unfold Gr.U8 at h9 ⊢
        rw [List.map_set]
        exact h9
      case measure => simp [intOf]; omega
    · obtain rfl : k = n := by omega
      have k1 : ¬ (k : Int) < (k : Int) := by omega
      have hall : pl k (inkL W k q) k = inkL W k q := pl_all (inkL_len W k q)
      rw [hall] at hb
      have HBA := Lib.hid hb
      clear hb hbr hall
      go_wp2_with fail
      go_ret
      exact ⟨_, _, rfl, Rd.of_own (blk_own HBA.out (Nat.le_refl _) (by simp [Gr.U8, inkL_len]) (by simp only [maxLen]; omega)), Nat.le_refl _, (fun a ea => by cases ea; exact Nat.le_refl _), HBR.out⟩
theorem rd_nou8 {w : World} {A : Option Addr} {n : Nat} {px : List Int} (h : Rd w A n (Gr.U8 px)) {B : Nat} {t : TypeId} {cs : Array Value} (hB : Blk w B t cs) (hno : ∀ (j : Nat) (x : Int), cs[j]? ≠ some (.int .u8 x)) (i : Nat) (u : Value) : Rd (w.setCell ⟨B, i, none⟩ u) A n (Gr.U8 px) := by
  refine h.far' (p := ⟨B, i, none⟩) (fun hn a ha e => ?_) u
  obtain ⟨b, off, e1, _, hc⟩ := h.2 hn
  rw [e1] at ha
  cases ha
  dsimp only at e
  subst e
  have hl := h.1
  match px, hl with
  | [], hl => simp [Gr.U8] at hl; omega
  | x :: l, _ =>
    have := hc 0 (.int .u8 x) rfl
    rw [hB.cell] at this
    exact hno _ _ this
theorem grid_no8 (W H : Int) (A : Option Addr) (n c : Nat) : ∀ (j : Nat) (x : Int), (#[.int .i64 W, .int .i64 H, .slice A n c] : Array Value)[j]? ≠ some (.int .u8 x) := fun j x => by
  match j with
  | 0 => simp
  | 1 => simp
  | 2 => simp
  | j + 3 => simp
set_option maxRecDepth 100000 in
set_option maxHeartbeats 4000000 in
theorem plane_any (W H : Nat) (px : List Int) (A : Option Addr) (n c : Nat) (w : World) (hW : 1 ≤ W ∧ W ≤ 128) (hH : 1 ≤ H ∧ H ≤ 128) (hn : n = W * H) (hr : Rd w A n (Gr.U8 px)) :
    Calls Tryz.prog 40 #[.int .i64 W, .int .i64 H, .slice A n c] w fun e w' => ∃ A' c', e = .returned (.tuple #[.agg #[.int .i64 W, .int .i64 H, .slice A' n c'], .bool true]) ∧ Rd w' A' n (Gr.U8 px) ∧ n ≤ c' ∧ Fr w.heap.size A' ∧ Below w.heap.size w w' := by
  have hWH := Gr.mul_le_128 hW.2 hH.2
  have hn1 : n ≤ 16384 := by omega
  have hpl : px.length = n := by simpa [Gr.U8] using hr.1
  have HN := Lib.hid hn
  have HR := Lib.hid hr
  have HPL := Lib.hid hpl
  clear hr hpl hn hWH
  have xb := bal (bre w) (.cells #[.int .i64 0, .int .i64 0, .slice none 0 0] 75)
  have xk := Blk.new w 75 #[.int .i64 0, .int .i64 0, .slice none 0 0]
  go_enter Tryz.func40, Tryz.ntmps40
  go_upto_region 1 with fail
  obtain ⟨X, hX⟩ : ∃ X, w.alloc (.cells #[.int .i64 0, .int .i64 0, .slice none 0 0] 75) = X := ⟨_, rfl⟩
  rw [hX] at xb xk ⊢
  have HB := Lib.hid xb
  have K6 := Lib.hid xk
  clear xb xk hX
  go_wp2_with fail
  refine (Gr.new_any W H 0 _ hW hH).mono ?_
  rintro e w1 ⟨A1, c1, rfl, hr1, hc1, hfr1, hb1⟩
  have HFR1 := Lib.hid (show Fr w.heap.size A1 from fun a ea => Nat.le_trans HB.out.size (hfr1 a ea))
  rw [← HN.out] at hr1 hc1 ⊢
  rw [← pl_zero n px] at hr1
  have hl6 := K6.out.lt
  have xb := bal (bstep HB.out hb1) (.cells #[.int .i64 W, .int .i64 H, .slice A1 n c1] 75)
  have xr := hr1.below (bal (bre w1) (.cells #[.int .i64 W, .int .i64 H, .slice A1 n c1] 75))
  have x6 := (K6.out.belowS hb1).alloc (.cells #[.int .i64 W, .int .i64 H, .slice A1 n c1] 75)
  have x8 := Blk.new w1 75 #[.int .i64 W, .int .i64 H, .slice A1 n c1]
  have hs1 := hb1.size
  go_upto_region 2 with fail
  obtain ⟨g, hg⟩ : ∃ g, w1.heap.size = g := ⟨_, rfl⟩
  obtain ⟨Y, hY⟩ : ∃ Y, w1.alloc (.cells #[.int .i64 W, .int .i64 H, .slice A1 n c1] 75) = Y := ⟨_, rfl⟩
  rw [hY] at xb xr x6 x8 ⊢
  rw [hg] at x8 hs1 ⊢
  replace HB := Lib.hid xb
  have HR1 := Lib.hid xr
  replace K6 := Lib.hid x6
  have K8 := Lib.hid x8
  have hgw : w.heap.size ≤ g := by have := xb.size; omega
  have hg6 : w.heap.size ≠ g := by omega
  clear hr1 hb1 xb xr x6 x8 hY hg
  go_wp2_with fail
  go_loopw [20, 10, 11] (fun i _ _ wr => ∃ (k : Nat) (A2 : Option Addr) (c2 : Nat), i = .int .i64 k ∧ k ≤ n ∧ (n ≤ c2 ∧ Fr w.heap.size A2) ∧ Blk wr g 75 #[.int .i64 W, .int .i64 H, .slice A2 n c2] ∧ Rd wr A2 n (Gr.U8 (pl n px k)) ∧ Blk wr w.heap.size 75 #[.int .i64 0, .int .i64 0, .slice none 0 0] ∧ Below w.heap.size w wr) (fun i _ _ _ => n - (intOf i).toNat)
  case atStart => exact ⟨0, A1, c1, rfl, by omega, ⟨hc1, HFR1.out⟩, K8.out, HR1.out, K6.out, HB.out⟩
  case round =>
    obtain ⟨k, A2, c2, rfl, hk, ⟨hc2, hfr2⟩, hb8, hr2, hb6, hbr⟩ := hrel
    have HFR2 := Lib.hid hfr2
    have KB8 := Lib.hid hb8
    have HR2 := Lib.hid hr2
    have KB6 := Lib.hid hb6
    have HBR := Lib.hid hbr
    by_cases hlt : k < n
    · obtain ⟨p, hp⟩ : ∃ p, px[k]? = some p := ⟨_, List.getElem?_eq_getElem (by rw [HPL.out]; exact hlt)⟩
      obtain ⟨b, off, rfl, hbl, hcl⟩ := (HR.out.below hbr).2 (by omega)
      have q0 := hcl k (.int .u8 p) (by simp [Gr.U8, hp])
      obtain ⟨r, hr⟩ : ∃ r : Nat, k % W = r := ⟨_, rfl⟩
      obtain ⟨d, hd⟩ : ∃ d : Nat, k / W = d := ⟨_, rfl⟩
      have hrl : r < W := by rw [← hr]; exact Nat.mod_lt _ (by omega)
      have hdl : d ≤ k := by rw [← hd]; exact Nat.div_le_self _ _
      have hkd : d * W + r = k := by rw [← hr, ← hd]; exact Nat.div_add_mod' k W
      have hdH : d < H := by rw [← hd]; have h9 := hlt; rw [HN.out] at h9; exact Nat.div_lt_of_lt_mul h9
      have t0 : (k : Int).tmod (W : Int) = (r : Int) := by rw [Int.tmod_eq_emod_of_nonneg (by omega), ← hr]; exact (Int.natCast_emod k W).symm
      have t1 : (k : Int).tdiv (W : Int) = (d : Int) := by rw [Int.tdiv_eq_ediv_of_nonneg (by omega), ← hd]; exact (Int.natCast_ediv k W).symm
      have t2 : IntKind.i64.wrap (r : Int) = (r : Int) := IntWalk.i64_in _ (by omega)
      have t4 : IntKind.i64.wrap (d : Int) = (d : Int) := IntWalk.i64_in _ (by omega)
      have z1 : ((W : Int) == 0) = false := by rw [beq_eq_false_iff_ne]; omega
      have z2 : ¬ (W : Int) = 0 := by omega
      have k0 : (0 : Int) ≤ (k : Int) := by omega
      have k1 : (k : Int) < (n : Int) := by omega
      have c0 := hb8.cellV (i := 0) (v := .int .i64 W) rfl
      have c1' := hb8.cellV (i := 1) (v := .int .i64 H) rfl
      have c2' := hb8.cellV (i := 2) (v := .slice A2 n c2) rfl
      have HP := Lib.hid hp
      have HGS := Lib.hid (show Gr.gset W H (pl n px k) (r : Int) (d : Int) p = pl n px (k + 1) by
        unfold Gr.gset
        rw [if_pos ((Gr.has_iff _ _ _ _).2 (by omega)), pl_set hp, Int.toNat_natCast, Int.toNat_natCast, hkd])
      have HKD := Lib.hid hkd
      clear hb8 hr2 hb6 hbr hcl hp hr hd hkd
      go_upto_region 5 with fail
      go_region_with (go_at_call 42; refine (Gr.set_any W H (pl n px k) (r : Int) (d : Int) p A2 n c2 _ HN.out hW.2 hH.2 hc2 (by exact HR2.out.below (bre wr).drew)).mono ?_; rintro e w5 ⟨A5, c5, rfl, hr5, hc5, hfr5, hb59⟩; have HFR5 := Lib.hid (show Fr w.heap.size A5 from hfr5.elim (fun e5 => e5 ▸ HFR2.out) (fun h5 => fun a ea => Nat.le_trans HBR.out.size (h5 a ea))); clear hfr5; have hb5 := undrewX (w := wr) hb59 rfl rfl rfl rfl; rw [HGS.out] at hr5; have HR5 := Lib.hid hr5; have HC5 := Lib.hid hc5; have b8 := KB8.out.belowS hb5; have HB5 := Lib.hid (bstep HBR.out hb5); have KB65 := Lib.hid (KB6.out.belowS hb5); have KB85 := Lib.hid b8; have e0 := b8.cellV (i := 0) (v := .int .i64 W) rfl; have e1 := b8.cellV (i := 1) (v := .int .i64 H) rfl; have e2 := b8.cellV (i := 2) (v := .slice A2 n c2) rfl; have f0 := b8.frozen 0; have f1 := b8.frozen 1; have f2 := b8.frozen 2; have fl := b8.lt; clear hr5 hc5 hb5 hb59 b8)
      all_goals
        go_wp2_with fail
        go_roundw
        · have x8 := ((KB85.out.set_ 0 (.int .i64 W)).set_ 1 (.int .i64 H)).set_ 2 (.slice A5 n c5)
          have x6 := ((KB65.out.far (p := ⟨g, 0, none⟩) hg6 (.int .i64 W)).far (p := ⟨g, 1, none⟩) hg6 (.int .i64 H)).far (p := ⟨g, 2, none⟩) hg6 (.slice A5 n c5)
          have xb := bset (bset (bset HB5.out (p := ⟨g, 0, none⟩) hgw (.int .i64 W)) (p := ⟨g, 1, none⟩) hgw (.int .i64 H)) (p := ⟨g, 2, none⟩) hgw (.slice A5 n c5)
          have xr := rd_nou8 (rd_nou8 (rd_nou8 HR5.out KB85.out (grid_no8 _ _ _ _ _) 0 (.int .i64 W)) (KB85.out.set_ 0 (.int .i64 W)) (grid_no8 _ _ _ _ _) 1 (.int .i64 H)) ((KB85.out.set_ 0 (.int .i64 W)).set_ 1 (.int .i64 H)) (grid_no8 _ _ _ _ _) 2 (.slice A5 n c5)
          exact ⟨k + 1, A5, c5, by go_num, by omega, ⟨HC5.out, HFR5.out⟩, x8, xr, x6, xb⟩
        · simp [intOf]; omega
    · obtain rfl : k = n := by omega
      have k1 : ¬ (k : Int) < (k : Int) := by omega
      rw [pl_all HPL.out] at hr2
      have HRF := Lib.hid hr2
      have a0 := hb8.cellV (i := 0) (v := .int .i64 W) rfl
      have a1 := hb8.cellV (i := 1) (v := .int .i64 H) rfl
      have a2 := hb8.cellV (i := 2) (v := .slice A2 k c2) rfl
      have b0 := hb6.cellV (i := 0) (v := .int .i64 0) rfl
      have b1 := hb6.cellV (i := 1) (v := .int .i64 0) rfl
      have b2 := hb6.cellV (i := 2) (v := .slice none 0 0) rfl
      have f0 := hb6.frozen 0
      have f1 := hb6.frozen 1
      have f2 := hb6.frozen 2
      have fl := hb6.lt
      clear hb8 hr2 hb6 hbr HR2
      go_wp2_with fail
      have h9 := ((KB6.out.set_ 0 (.int .i64 W)).set_ 1 (.int .i64 H)).set_ 2 (.slice A2 k c2)
      have r0 := h9.cellV (i := 0) (v := .int .i64 W) rfl
      have r1 := h9.cellV (i := 1) (v := .int .i64 H) rfl
      have r2 := h9.cellV (i := 2) (v := .slice A2 k c2) rfl
      have xb := bset (bset (bset HBR.out (p := ⟨w.heap.size, 0, none⟩) (Nat.le_refl _) (.int .i64 W)) (p := ⟨w.heap.size, 1, none⟩) (Nat.le_refl _) (.int .i64 H)) (p := ⟨w.heap.size, 2, none⟩) (Nat.le_refl _) (.slice A2 k c2)
      have xr := rd_nou8 (rd_nou8 (rd_nou8 HRF.out KB6.out (grid_no8 _ _ _ _ _) 0 (.int .i64 W)) (KB6.out.set_ 0 (.int .i64 W)) (grid_no8 _ _ _ _ _) 1 (.int .i64 H)) ((KB6.out.set_ 0 (.int .i64 W)).set_ 1 (.int .i64 H)) (grid_no8 _ _ _ _ _) 2 (.slice A2 k c2)
      exact bodyPost_ret (v := .tuple #[.agg #[.int .i64 W, .int .i64 H, .slice A2 k c2], .bool true]) (by simp [results, Tryz.results40, go_sem, r0, r1, r2]) rfl ⟨A2, c2, rfl, xr, hc2, hfr2, xb⟩
end Go.Proofs.YtdaedkolpfkdjaaGreat
end

section
namespace Go.Proofs.YtdaedkolpfkdjaaGreat
open Go.RowKit Go.Maps Go.Shelf

/-- the cells that an operation builds. -/
def bldOf (P : Program) (ρ : Operand → Value) (o : Oper) : Option (Array Value) := match o.op with
  | .build t ps => P.built t (ps.toList.map fun q => (q.1, ρ q.2))
  | _ => none
theorem y_build {P : Program} {ρ : Operand → Value} {o : Oper} {cells : Array Value} {w : World} (h : bldOf P ρ o = some cells) : (execOp ρ o).run P w = .ok (.value (.agg cells)) w := by
  unfold bldOf at h
  split at h
  · rename_i t ps ho
    unfold execOp
    rw [ho]
    have h2 : P.built t (ps.map fun (i, x) => (i, ρ x)).toList = some cells := by rw [Array.toList_map]; exact h
    simp only [Sem.run_bind, run_build w t _ cells h2, Result.andThen_ok, Sem.run_pure]
  · cases h
/-- a slice of records is built. -/
theorem wpList_recs {P : Program} {ops : Array Oper} {rest : List Oper} {o : Oper} {a : Act} {w : World} {Q : Exit → Act → World → Prop} (hg : o.guard = none) (t e : TypeId) (len : Nat) (parts : Array (Nat × Operand)) (ho : o.op = .buildSlice t len parts)
    (s : Nat) (z : Value) (ie : TypeInfo) (hu : P.underlying t = some (.slice e)) (hie : P.info? e = some ie) (hz : ie.zero = some z) (hs : ie.size = s) (hzs : z.cells.size = s) (h0 : 0 < s) (hsm : ¬ len * s > 2 ^ 24) (hl : 0 < len)
    (vs : List Value) (hv : ∀ v ∈ vs, v.cells.size = s) (hvl : vs.length = len) (hp : parts.toList.map (fun q => (q.1, a.eval q.2)) = (vs.zipIdx 0).map fun x => (x.2, x.1))
    (cs : Array Value) (hcs : (vs.flatMap fun v => v.cells.toList).toArray = cs)
    (h : wpList P ops Q rest (a.put o.dst (.slice (some ⟨w.heap.size, 0, none⟩) len len)) (w.alloc (.cells cs e))) : wpList P ops Q (o :: rest) a w := by
  subst hs hcs
  have hpos : ¬ len * ie.size = 0 := Nat.mul_ne_zero (by omega) (by omega)
  refine wpList_buildSlice hg t e len parts ho _ ie z hu hie hz hsm hpos ?_ h
  rw [Array.toList_map]
  have e1 : (parts.toList.map fun (x : Nat × Operand) => match x with | (i, x) => (i, a.eval x)) = parts.toList.map (fun q => (q.1, a.eval q.2)) := rfl
  rw [e1, hp]
  exact Great.fill_whole h0 vs _ hv (by simp [hvl])
theorem Blk.farCells {w : World} {g g' : Nat} {t : TypeId} {cs : Array Value} (h : Blk w g t cs) (hne : g ≠ g') : ∀ (vs : List Value) (o : Nat), Blk (w.setCells g' o vs) g t cs
  | [], _ => h
  | v :: vs, o => Blk.farCells (w := w.setCell ⟨g', o, none⟩ v) (h.far (p := ⟨g', o, none⟩) hne v) hne vs (o + 1)
end Go.Proofs.YtdaedkolpfkdjaaGreat
end

section
namespace Go.Proofs.YtdaedkolpfkdjaaGreat
open Go.RowKit Go.Maps Go.Shelf

/-- an item: its grid, its ground, whether it is a window's, whether it has a backing; its pixels. -/
structure IT where
  W : Nat
  H : Nat
  A : Option Addr
  n : Nat
  c : Nat
  G : Int
  win : Bool
  back : Bool
  px : List Int
def IT.v (i : IT) : Value := .agg #[.int .i64 i.W, .int .i64 i.H, .slice i.A i.n i.c, .int .u8 i.G, .bool i.win, .bool i.back]
def zIT : IT := ⟨0, 0, none, 0, 0, 0, false, false, []⟩
structure IT.ok (w : World) (i : IT) : Prop where
  rd : Rd w i.A i.n (Gr.U8 i.px)
  area : i.n = i.W * i.H
  wide : i.W ≤ 128
  high : i.H ≤ 128
  cap : i.n ≤ i.c
  pix : Gr.Pix i.px
theorem IT.ok.below {w w' : World} {i : IT} (h : i.ok w) (hb : Below w.heap.size w w') : i.ok w' := ⟨h.rd.below hb, h.area, h.wide, h.high, h.cap, h.pix⟩
abbrev Its := Int → Option IT
def Its.f (cs : Its) : Int → Option Value := fun i => (cs i).map IT.v
/-- a canvas: n items. -/
def CanvasIs (w : World) (v : Value) (n : Nat) (cs : Its) : Prop := ∃ mb, v = .agg #[.map mb] ∧ MapOpt Tryz.prog 48 .u32 w mb n cs.f ∧ ∀ i it, cs i = some it → it.ok w
theorem CanvasIs.below {w w' : World} {v : Value} {n : Nat} {cs : Its} (h : CanvasIs w v n cs) (hb : Below w.heap.size w w') : CanvasIs w' v n cs := by
  obtain ⟨mb, e, h1, h2⟩ := h
  exact ⟨mb, e, h1.below hb, fun i it hi => (h2 i it hi).below hb⟩
theorem canvas_nil (w : World) : CanvasIs w (.agg #[.map none]) 0 (fun _ => none) := ⟨none, rfl, .inl ⟨rfl, rfl, fun _ => rfl⟩, fun i it h => by cases h⟩
theorem canvas_get (cs : Its) (i : Int) : (cs.f i).getD zIT.v = ((cs i).getD zIT).v := by
  unfold Its.f
  cases cs i <;> rfl
theorem canvas_has (cs : Its) (i : Int) : (cs.f i).isSome = (cs i).isSome := by unfold Its.f; simp
theorem Tryz.zeroItem (w : World) : (zeroValue 225).run Tryz.prog w = .ok zIT.v w := by kernel_rfl

set_option maxRecDepth 100000 in
set_option maxHeartbeats 1000000 in
theorem copyit_nil (bd : Nat) (w : World) :
    Calls Tryz.prog 121 #[.map (some bd), .map none] w fun e w' => e = .returned (.tuple #[]) ∧ w' = w.alloc (.mapIter none 0 #[] 0) := by
  have hrg := run_range_nilMap (P := Tryz.prog) w 65 _ _ Tryz.underlying65
  have hnx : ∀ ty, (Instr.next (.pointer (some ⟨w.heap.size, 0, none⟩)) false ty).run Tryz.prog (w.alloc (.mapIter none 0 #[] 0)) = _ := fun ty => run_next_nilMap _ ty 0 0 #[]
  go_enter Tryz.func121, Tryz.ntmps121
  go_wp2
  refine wp_loop_rounds 1 ?_
  rw [rounds_succ]
  go_wp2
  go_end0
  exact ⟨rfl, rfl⟩

set_option maxRecDepth 100000 in
set_option maxHeartbeats 1000000 in
theorem copyit_some (bd bs n : Nat) (cs : Its) (w : World) (hd : MapIs Tryz.prog 48 .u32 w bd 0 (fun _ => none)) (hs : MapIs Tryz.prog 48 .u32 w bs n cs.f) (hn : n ≤ 100000) (hne : bd ≠ bs) :
    Calls Tryz.prog 121 #[.map (some bd), .map (some bs)] w fun e w' => e = .returned (.tuple #[]) ∧ MapIs Tryz.prog 48 .u32 w' bd n cs.f ∧ w.grownBy w' (some bd) := by
  have hbd := hd.lt
  have hbs := hs.lt
  go_enter Tryz.func121, Tryz.ntmps121
  go_wp2_with (first
    | (at_range; refine map_range rfl _ 65 rfl 48 225 .u32 Tryz.underlying48 Tryz.underlying65 bs n cs.f rfl hs ?_; intro w0 hrg0 hg0 hs0))
  go_frame
  go_loopw [8] (fun _ wr => ∃ (left : Int → Bool) (cnt m : Nat) (fo : Int → Option Value), MapRange Tryz.prog 48 .u32 wr bs w.heap.size n cs.f left cnt ∧ m + cnt ≤ n ∧
      MapIs Tryz.prog 48 .u32 wr bd m fo ∧ (∀ i, left i = false → fo i = cs.f i) ∧ (∀ i, left i = true → fo i = none) ∧ w.grownBy wr (some bd))
    (fun _ wr => wr.rangeLeft bs w.heap.size)
  case atStart =>
    exact ⟨_, _, 0, _, hrg0, by omega, hd.kept hg0 (by simp), (fun i hi => by cases h : cs.f i <;> simp [h] at hi ⊢), (fun i _ => rfl), hg0.but _⟩
  case round =>
    obtain ⟨left, cnt, m, fo, hrg, hcs, hout, hL0, hL1, hgw⟩ := hrel
    go_wp2_with (first
      | (at_next; refine map_next rfl _ rfl 48 .u32 Tryz.underlying48 bs w.heap.size n cs.f left cnt rfl hrg ?_ ?_))
    · intro hc0 hl0
      go_wp2
      go_end0
      have e : fo = cs.f := funext fun i => hL0 i (hl0 i)
      subst e
      have e2 := hout.size_uniq Tryz.underlying48 hrg.is
      subst e2
      exact ⟨rfl, hout, hgw⟩
    · intro i v w1 cnt1 hwf hli hfi hrg1 hlt hg1 hs1 hen
      have hout1 := hout.kept hg1 (fun e => by have := Option.some.inj e; omega)
      have hno : (fo i).isSome = false := by rw [hL1 i hli]; rfl
      have hfi2 := hfi
      unfold Its.f at hfi2
      rw [Option.map_eq_some_iff] at hfi2
      obtain ⟨it, hit, rfl⟩ := hfi2
      obtain ⟨iW, iH, iA, inn, ic, iG, iw, ib, ip⟩ := it
      unfold IT.v at hen
      dsimp only at hen
      have hout2 := hout1.alloc (.cells #[.int .i64 iW, .int .i64 iH, .slice iA inn ic, .int .u8 iG, .bool iw, .bool ib] 225)
      have hrg2 := hrg1.kept (World.grownBy_alloc w1 (.cells #[.int .i64 iW, .int .i64 iH, .slice iA inn ic, .int .u8 iG, .bool iw, .bool ib] 225) none) (by simp) (by simp)
      have hg2 := World.grownBy_alloc w1 (.cells #[.int .i64 iW, .int .i64 iH, .slice iA inn ic, .int .u8 iG, .bool iw, .bool ib] 225) none
      have xk := Blk.new w1 225 #[.int .i64 iW, .int .i64 iH, .slice iA inn ic, .int .u8 iG, .bool iw, .bool ib]
      go_upto_region 3 with fail
      rw [hs1] at xk
      obtain ⟨w3, hw3⟩ : ∃ w3, w1.alloc (.cells #[.int .i64 iW, .int .i64 iH, .slice iA inn ic, .int .u8 iG, .bool iw, .bool ib] 225) = w3 := ⟨_, rfl⟩
      rw [hw3] at hout2 hrg2 hg2 xk ⊢
      have x0 := xk.cellV (i := 0) (v := .int .i64 iW) rfl
      have x1 := xk.cellV (i := 1) (v := .int .i64 iH) rfl
      have x2 := xk.cellV (i := 2) (v := .slice iA inn ic) rfl
      have x3 := xk.cellV (i := 3) (v := .int .u8 iG) rfl
      have x4 := xk.cellV (i := 4) (v := .bool iw) rfl
      have x5 := xk.cellV (i := 5) (v := .bool ib) rfl
      clear hw3
      go_wp2_with (first
        | (at_mapUpdate; refine map_put rfl _ _ _ 65 rfl 48 225 .u32 Tryz.underlying48 Tryz.underlying65 bd m fo rfl hout2 (by simp only [maxLen]; omega) i (.agg #[.int .i64 iW, .int .i64 iH, .slice iA inn ic, .int .u8 iG, .bool iw, .bool ib]) rfl rfl hwf ?_; intro w4 hout4 hg4; rw [hno] at hout4; go_frame))
      have hrg4 := hrg2.kept hg4 (fun e => hne (Option.some.inj e).symm) (fun e => by have := Option.some.inj e; omega)
      go_roundw
      case rel =>
        refine ⟨_, cnt1, m + 1, _, hrg4, by omega, hout4, ?_, ?_, ((hgw.andThen hg1 (fun j hj => .inl (by cases hj; exact Nat.le_refl _))).andThen hg2 (fun j hj => by cases hj)).andThen hg4 (fun j hj => .inr hj)⟩
        · intro j hj
          by_cases e : j = i
          · subst e
            simp [hfi, IT.v]
          · simp only [e, if_false]
            exact hL0 j (by simpa [e] using hj)
        · intro j hj
          simp only [Bool.and_eq_true, Bool.not_eq_true', decide_eq_false_iff_not] at hj
          simp only [hj.2, if_false]
          exact hL1 j hj.1
      case measure => rw [hrg4.left_eq, hrg.left_eq]; exact hlt

theorem copyit_any (bd n : Nat) (mu : Option Nat) (cs : Its) (w : World) (hd : MapIs Tryz.prog 48 .u32 w bd 0 (fun _ => none)) (hs : MapOpt Tryz.prog 48 .u32 w mu n cs.f) (hn : n ≤ 100000) (hne : mu ≠ some bd) :
    Calls Tryz.prog 121 #[.map (some bd), .map mu] w fun e w' => e = .returned (.tuple #[]) ∧ MapIs Tryz.prog 48 .u32 w' bd n cs.f ∧ w.grownBy w' (some bd) := by
  rcases hs with ⟨rfl, rfl, hf⟩ | ⟨bs, rfl, h⟩
  · refine (copyit_nil bd w).mono fun e w' ⟨he, hw⟩ => ?_
    subst hw
    have e : cs.f = fun _ => none := funext hf
    rw [e]
    exact ⟨he, hd.alloc _, World.grownBy_alloc w _ _⟩
  · exact copyit_some bd bs n cs w hd h hn (fun e => hne (by rw [e]))

theorem run_makeMapH {P : Program} {t k e : TypeId} (hu : P.underlying t = some (.map k e)) (w : World) (kd : IntKind) (m : Int) : (Instr.makeMap t (some (.int kd m))).run P w = .ok (.map (some w.heap.size)) (w.alloc (.map #[] 0)) := by
  simp [Instr.makeMap, run_underlying hu, asInt, asIntOf, Result.andThen]
theorem blk_newX3 (w : World) (o1 o2 : Obj) (t : TypeId) (cs : Array Value) : Blk (((w.alloc o1).alloc o2).alloc (.cells cs t)) (w.heap.size + 1 + 1) t cs := by
  have h := Blk.new ((w.alloc o1).alloc o2) t cs
  rwa [World.size_alloc, World.size_alloc] at h
/-- an item is laid. -/
def Its.put (cs : Its) (id : Int) (it : IT) : Its := fun j => if j = id then some it else cs j
theorem Its.put_f (cs : Its) (id : Int) (it : IT) : (cs.put id it).f = fun j => if j = id then some it.v else cs.f j := by
  funext j
  unfold Its.f Its.put
  by_cases e : j = id <;> simp [e]
set_option maxRecDepth 100000 in
set_option maxHeartbeats 2000000 in
theorem cwith_any (v : Value) (n : Nat) (cs : Its) (id : Int) (it : IT) (w : World) (hid : 0 ≤ id ∧ id ≤ 4294967295) (h : CanvasIs w v n cs) (hit : it.ok w) (hn : n ≤ 100000) :
    Calls Tryz.prog 122 #[v, .int .u32 id, it.v] w fun e w' => ∃ mb', e = .returned (.agg #[.map (some mb')]) ∧ CanvasIs w' (.agg #[.map (some mb')]) (if (cs id).isSome then n else n + 1) (cs.put id it) ∧ w.heap.size ≤ mb' ∧ Below w.heap.size w w' := by
  obtain ⟨mb, rfl, hm, hc⟩ := h
  obtain ⟨nn, hnn⟩ : ∃ nn, (if (cs id).isSome = true then n else n + 1) = nn := ⟨_, rfl⟩
  have hnn2 := hnn
  rw [← canvas_has] at hnn2
  rw [hnn]
  have HNN := Lib.hid hnn2
  clear hnn hnn2
  obtain ⟨iW, iH, iA, inn, ic, iG, iw, ib, ip⟩ := it
  unfold IT.v
  dsimp only
  have HC := Lib.hid hc
  have HI := Lib.hid hit
  have HM := Lib.hid hm
  have HWF := Lib.hid (u32_wf hid)
  have hnw : IntKind.i64.wrap ((n : Int) + 1) = (n : Int) + 1 := IntWalk.i64_in _ (by omega)
  clear hc hit hm
  go_enter Tryz.func122, Tryz.ntmps122
  have xb := bal (bal (bal (bre w) (.cells #[.map mb] 67)) (.cells #[.int .i64 iW, .int .i64 iH, .slice iA inn ic, .int .u8 iG, .bool iw, .bool ib] 225)) (.cells #[.map none] 67)
  have x0 := ((Blk.new w 67 #[.map mb]).alloc (.cells #[.int .i64 iW, .int .i64 iH, .slice iA inn ic, .int .u8 iG, .bool iw, .bool ib] 225)).alloc (.cells #[.map none] 67)
  have x1 := (blk_new2 w (.cells #[.map mb] 67) 225 #[.int .i64 iW, .int .i64 iH, .slice iA inn ic, .int .u8 iG, .bool iw, .bool ib]).alloc (.cells #[.map none] 67)
  have x2 := blk_newX3 w (.cells #[.map mb] 67) (.cells #[.int .i64 iW, .int .i64 iH, .slice iA inn ic, .int .u8 iG, .bool iw, .bool ib] 225) 67 #[.map none]
  go_upto_region 1 with fail
  obtain ⟨X, hX⟩ : ∃ X, ((w.alloc (.cells #[.map mb] 67)).alloc (.cells #[.int .i64 iW, .int .i64 iH, .slice iA inn ic, .int .u8 iG, .bool iw, .bool ib] 225)).alloc (.cells #[.map none] 67) = X := ⟨_, rfl⟩
  rw [hX] at xb x0 x1 x2 ⊢
  have HB := Lib.hid xb
  have K0 := Lib.hid x0
  have K1 := Lib.hid x1
  have K2 := Lib.hid x2
  have HM1 := Lib.hid (HM.out.below xb)
  have p0 := x0.cellV (i := 0) (v := .map mb) rfl
  clear xb x0 x1 x2 hX
  have hmk : ∀ m : Int, (Instr.makeMap 65 (some (.int .i64 m))).run Tryz.prog X = .ok (.map (some X.heap.size)) (X.alloc (.map #[] 0)) := fun m => run_makeMapH Tryz.underlying65 X .i64 m
  go_upto_region 2 with (first
    | (at_len; refine opt_len rfl _ 65 rfl 48 225 .u32 Tryz.underlying65 mb n cs.f rfl HM1.out ?_)
    | (simp only))
  have xb := bal HB.out (.map #[] 0)
  have xm := HM1.out.below (bal (bre X) (.map #[] 0))
  have x0 := K0.out.alloc (.map #[] 0)
  have x1 := K1.out.alloc (.map #[] 0)
  have x2 := K2.out.alloc (.map #[] 0)
  have xn := MapIs.made (P := Tryz.prog) (k := 48) (q := .u32) X
  have hlt2 := K2.out.lt
  have hml : ∀ b, mb = some b → b < X.heap.size := fun b e => by
    rcases HM1.out with ⟨e', _⟩ | ⟨b', e', h⟩
    · rw [e'] at e; cases e
    · rw [e'] at e; cases e; exact h.lt
  have hbs := HB.out.size
  obtain ⟨g, hg⟩ : ∃ g, X.heap.size = g := ⟨_, rfl⟩
  obtain ⟨X2, hX2⟩ : ∃ X2, X.alloc (.map #[] 0) = X2 := ⟨_, rfl⟩
  rw [hX2] at xb xm x0 x1 x2 xn ⊢
  rw [hg] at xn hlt2 hml hbs ⊢
  replace HB := Lib.hid xb
  replace K0 := Lib.hid x0
  replace K1 := Lib.hid x1
  replace K2 := Lib.hid x2
  have HM2 := Lib.hid xm
  have HN2 := Lib.hid xn
  have q0 := x0.cellV (i := 0) (v := .map mb) rfl
  clear xb xm x0 x1 x2 xn hX2 hmk p0 HM1 hg
  go_wp2_with fail
  refine (copyit_any g n mb cs X2 HN2.out HM2.out hn (fun e => by have := hml _ e; omega)).mono ?_
  rintro e w3 ⟨rfl, hm3, hg3⟩
  have HM3 := Lib.hid hm3
  have HG3 := Lib.hid hg3
  have x1 := K1.out.grown hg3 (fun e => by injection e with e; have := K1.out.lt; omega)
  have x2 := K2.out.grown hg3 (fun e => by injection e with e; omega)
  replace K2 := Lib.hid x2
  have q0' := x1.cellV (i := 0) (v := .int .i64 iW) rfl
  have q1 := x1.cellV (i := 1) (v := .int .i64 iH) rfl
  have q2 := x1.cellV (i := 2) (v := .slice iA inn ic) rfl
  have q3 := x1.cellV (i := 3) (v := .int .u8 iG) rfl
  have q4 := x1.cellV (i := 4) (v := .bool iw) rfl
  have q5 := x1.cellV (i := 5) (v := .bool ib) rfl
  clear hm3 hg3 x2 q0
  go_wp2_with (first
    | (at_mapUpdate; refine map_put rfl _ _ _ 65 rfl 48 225 .u32 Tryz.underlying48 Tryz.underlying65 g n cs.f rfl HM3.out (by simp only [maxLen]; omega) id (.agg #[.int .i64 iW, .int .i64 iH, .slice iA inn ic, .int .u8 iG, .bool iw, .bool ib]) rfl rfl HWF.out ?_; intro w4 hm4 hg4; have HM4 := Lib.hid hm4; have HG4 := Lib.hid hg4; have x2 := K2.out.grown hg4 (fun e => by injection e with e; omega); have r0 := x2.cellV (i := 0) (v := .map none) rfl; have rf := x2.frozen 0; have rl := x2.lt; have K24 := Lib.hid x2; clear hm4 hg4 x2; go_frame))
  have h4 := HM4.out
  rw [HNN.out] at h4
  have hb9 := K24.out.set_ 0 (.map (some g))
  have hr := hb9.cellV (i := 0) (v := .map (some g)) rfl
  have hB4 := (HB.out.grown HG3.out HB.out.size (fun q e => by cases e; omega)).grown HG4.out (by have := HG3.out.size; have := HB.out.size; omega) (fun q e => by cases e; omega)
  have hB5 := bset hB4 (p := ⟨w.heap.size + 1 + 1, 0, none⟩) (by show w.heap.size ≤ w.heap.size + 1 + 1; omega) (.map (some g))
  refine bodyPost_ret (v := .agg #[.map (some g)]) (by simp [results, Tryz.results122, go_sem, hr]) rfl ⟨g, rfl, ⟨some g, rfl, .inr ⟨g, rfl, ?_⟩, fun i it hi => ?_⟩, by omega, hB5⟩
  · rw [Its.put_f]
    exact h4.setCell (by show g ≠ w.heap.size + 1 + 1; omega) _
  · unfold Its.put at hi
    by_cases e : i = id
    · rw [if_pos e] at hi
      injection hi with hi
      subst hi
      exact HI.out.below hB5
    · rw [if_neg e] at hi
      exact (HC.out i it hi).below hB5
end Go.Proofs.YtdaedkolpfkdjaaGreat
end
