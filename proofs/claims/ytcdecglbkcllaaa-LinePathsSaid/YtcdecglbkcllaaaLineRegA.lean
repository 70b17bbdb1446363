/-
  The walk of line.Region where there is none: too many points, one that isn't right, too many places.
-/
import Derived.Test.YtcdecglbkcllaaaLinePath
namespace Go.Proofs.Ytcdecglbkcllaaa.Ln
open Go.RowKit Go.Shelf

set_option maxRecDepth 100000 in
set_option maxHeartbeats 1000000 in
theorem region_many (A : Option Addr) (n c : Nat) (w : World) (h : 4096 < n) :
    Calls Try.prog 24 #[.slice A n c] w fun e w' => e = .returned (.agg #[.slice none 0 0]) ∧ Below w.heap.size w w' := by
  have d : decide ((4096 : Int) < (n : Int)) = true := by simp; omega
  clear h
  go_enter Try.func24, Try.ntmps24
  go_wp2_with fail
  exact bodyPost_ret (v := .agg #[.slice none 0 0]) (by simp [results, Try.results24, go_sem]) rfl ⟨rfl, bal (bre w) _⟩

set_option maxRecDepth 100000 in
set_option maxHeartbeats 2000000 in
theorem region_range (g c n m : Nat) (ps : List (Int × Int)) (w : World) (hn : ps.length = n) (hl : n ≤ 4096) (hg : g < w.heap.size)
    (hc : ∀ k p, ps[k]? = some p → w.cell? ⟨g, k * 2, none⟩ = some (.int .i64 p.1) ∧ w.cell? ⟨g, k * 2 + 1, none⟩ = some (.int .i64 p.2))
    (hm : m < n) (hr : ∀ k p, k < m → ps[k]? = some p → rightB p.1 p.2 = true) (hw : ∀ p, ps[m]? = some p → rightB p.1 p.2 = false) :
    Calls Try.prog 24 #[.slice (some ⟨g, 0, none⟩) n c] w fun e w' => e = .returned (.agg #[.slice none 0 0]) ∧ Below w.heap.size w w' := by
  have d : decide ((4096 : Int) < (n : Int)) = false := by simp; omega
  have HN := Lib.hid hn
  have HC := Lib.hid hc
  have HR := Lib.hid hr
  have HW := Lib.hid hw
  clear hn hc hr hw
  go_enter Try.func24, Try.ntmps24
  go_wp2_with fail
  have HB0 := Lib.hid (bal (bre w) (.cells #[.slice none 0 0] 54))
  have bZ := Blk.new w 54 #[.slice none 0 0]
  have hzs : (w.alloc (.cells #[.slice none 0 0] 54)).heap.size = w.heap.size + 1 := World.size_alloc _ _
  obtain ⟨Z, hZ⟩ : ∃ Z, w.alloc (.cells #[.slice none 0 0] 54) = Z := ⟨_, rfl⟩
  rw [hZ] at HB0 bZ hzs ⊢
  have BZ := Lib.hid bZ
  have HZS := Lib.hid hzs
  clear hZ bZ hzs
  go_loopw [19] (fun i wr => ∃ k : Nat, i = .int .i64 k ∧ k ≤ m ∧ Below Z.heap.size Z wr) (fun i _ => n - (intOf i).toNat)
  case atStart => exact ⟨0, rfl, by omega, bre Z⟩
  case round =>
    obtain ⟨k, rfl, hk, hB⟩ := hrel
    obtain ⟨p, hp⟩ : ∃ p, ps[k]? = some p := ⟨_, List.getElem?_eq_getElem (by have := HN.out; omega)⟩
    have hp1 := HC.out k p hp
    have hbb := bstep HB0.out hB
    have a0 := (hbb.cell (p := ⟨g, k * 2, none⟩) hg).trans hp1.1
    have a1 := (hbb.cell (p := ⟨g, k * 2 + 1, none⟩) hg).trans hp1.2
    have HB := Lib.hid hB
    have k1 : (k : Int) < (n : Int) := by omega
    by_cases hkm : k < m
    · have hrt := HR.out k p hkm hp
      have HRT := Lib.hid hrt
      clear hB hp hp1 hrt hbb
      go_wp2_with (go_at_call 33; refine (right_any _ _ _).mono ?_; rintro e w' ⟨rfl, rfl⟩; rw [HRT.out])
      go_roundw
      case rel => exact ⟨k + 1, by go_num, by omega, bal (bal HB.out _) _⟩
      case measure => simp [intOf]; omega
    · obtain rfl : k = m := by omega
      have hrt := HW.out p hp
      have HRT := Lib.hid hrt
      have bR := BZ.out.belowS hB
      have r0 : wr.cell? ⟨w.heap.size, 0, none⟩ = some (.slice none 0 0) := (bR.cell 0).trans rfl
      have rf : wr.frozen? ⟨w.heap.size, 0, none⟩ = false := bR.frozen 0
      have rl := bR.lt
      clear hB hp hp1 hrt hbb bR
      go_wp2_with (go_at_call 33; refine (right_any _ _ _).mono ?_; rintro e w' ⟨rfl, rfl⟩; rw [HRT.out])
      exact bodyPost_ret (v := .agg #[.slice none 0 0]) (by simp [results, Try.results24, go_sem, r0, rf, rl]) rfl ⟨rfl, bal (bal (bset (bstep HB0.out HB.out) (p := ⟨w.heap.size, 0, none⟩) (Nat.le_refl _) _) _) _⟩

set_option maxRecDepth 100000 in
set_option maxHeartbeats 2000000 in
theorem region_long (g c n : Nat) (l : List PtR) (w : World) (hn : l.length = n) (hl : 1 ≤ n ∧ n ≤ 4096) (hg : g < w.heap.size)
    (hc : ∀ k p, (unR l)[k]? = some p → w.cell? ⟨g, k * 2, none⟩ = some (.int .i64 p.1) ∧ w.cell? ⟨g, k * 2 + 1, none⟩ = some (.int .i64 p.2)) (hlong : 65536 < lenP l) :
    Calls Try.prog 24 #[.slice (some ⟨g, 0, none⟩) n c] w fun e w' => e = .returned (.agg #[.slice none 0 0]) ∧ Below w.heap.size w w' := by
  have d : decide ((4096 : Int) < (n : Int)) = false := by simp; omega
  have HN := Lib.hid hn
  have HC := Lib.hid hc
  have hrdp : RdP w (.slice (some ⟨g, 0, none⟩) n c) (unR l) := .inr ⟨g, c, by rw [show (unR l).length = n from by simp [unR, hn]], hg, hc⟩
  have HRP := Lib.hid hrdp
  clear hn hc hrdp
  go_enter Try.func24, Try.ntmps24
  go_wp2_with fail
  have HB0 := Lib.hid (bal (bre w) (.cells #[.slice none 0 0] 54))
  have bZ := Blk.new w 54 #[.slice none 0 0]
  have hzs : (w.alloc (.cells #[.slice none 0 0] 54)).heap.size = w.heap.size + 1 := World.size_alloc _ _
  obtain ⟨Z, hZ⟩ : ∃ Z, w.alloc (.cells #[.slice none 0 0] 54) = Z := ⟨_, rfl⟩
  rw [hZ] at HB0 bZ hzs ⊢
  have BZ := Lib.hid bZ
  have HZS := Lib.hid hzs
  clear hZ bZ hzs
  go_loopw [19] (fun i wr => ∃ k : Nat, i = .int .i64 k ∧ k ≤ n ∧ Below Z.heap.size Z wr) (fun i _ => n - (intOf i).toNat)
  case atStart => exact ⟨0, rfl, by omega, bre Z⟩
  case round =>
    obtain ⟨k, rfl, hk, hB⟩ := hrel
    have HB := Lib.hid hB
    by_cases hkm : k < n
    · obtain ⟨p, hp⟩ : ∃ p, l[k]? = some p := ⟨_, List.getElem?_eq_getElem (by have := HN.out; omega)⟩
      have hp1 := HC.out k p.1 (by simp [unR, hp])
      have hbb := bstep HB0.out hB
      have a0 := (hbb.cell (p := ⟨g, k * 2, none⟩) hg).trans hp1.1
      have a1 := (hbb.cell (p := ⟨g, k * 2 + 1, none⟩) hg).trans hp1.2
      have k1 : (k : Int) < (n : Int) := by omega
      have HRT := Lib.hid p.2
      clear hB hp hp1 hbb
      go_wp2_with (go_at_call 33; refine (right_any _ _ _).mono ?_; rintro e w' ⟨rfl, rfl⟩; rw [HRT.out])
      go_roundw
      case rel => exact ⟨k + 1, by go_num, by omega, bal (bal HB.out _) _⟩
      case measure => simp [intOf]; omega
    · obtain rfl : k = n := by omega
      have bR := BZ.out.belowS hB
      have r0 : wr.cell? ⟨w.heap.size, 0, none⟩ = some (.slice none 0 0) := (bR.cell 0).trans rfl
      have rf : wr.frozen? ⟨w.heap.size, 0, none⟩ = false := bR.frozen 0
      have rl := bR.lt
      obtain ⟨L, hL⟩ : ∃ L, lenP l = L := ⟨_, rfl⟩
      have HL := Lib.hid hL
      have dl : decide ((65536 : Int) < L) = true := by simp; omega
      clear hB bR hL hlong
      go_wp2_with (go_at_call 41; refine (length_any _ l _ (by have := HN.out; omega) (HRP.out.below (bstep HB0.out HB.out))).mono ?_; rintro e w2 ⟨rfl, hb2⟩; rw [HL.out]; have HB2 := Lib.hid hb2; have s0 := (hb2.cell (p := ⟨w.heap.size, 0, none⟩) rl).trans r0; have sf := (hb2.frozen (p := ⟨w.heap.size, 0, none⟩) rl).trans rf; have sl := Nat.lt_of_lt_of_le rl hb2.size; clear hb2)
      exact bodyPost_ret (v := .agg #[.slice none 0 0]) (by simp [results, Try.results24, go_sem, s0, sf, sl]) rfl ⟨rfl, bset (bstep (bstep HB0.out HB.out) HB2.out) (p := ⟨w.heap.size, 0, none⟩) (Nat.le_refl _) _⟩

end Go.Proofs.Ytcdecglbkcllaaa.Ln
