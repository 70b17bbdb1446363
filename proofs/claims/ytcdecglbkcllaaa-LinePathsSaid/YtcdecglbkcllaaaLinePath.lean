/-
  The walk of line.Path.
-/
import Derived.Test.YtcdecglbkcllaaaLineLen
import Derived.Test.YtcdecglbkcllaaaBase
namespace Go.Proofs.Ytcdecglbkcllaaa.Ln
open Go.RowKit Go.Shelf

theorem cut_any (B n c : Nat) (A : Option Addr) (l0 : List PtR) (ax ay bx by' X Y W H first : Int) (w : World) (h1 : rightB ax ay = true) (h2 : rightB bx by' = true) (hf : 0 ≤ first ∧ first ≤ 1)
    (hown : w.ownsRow B 23 2 (.slice A n c) n (pcs l0)) (hn : n = l0.length) (hB : B ≤ w.heap.size) (hl : l0.length ≤ 1000000000) :
    Calls Try.prog 40 #[.slice A n c, .agg #[.int .i64 ax, .int .i64 ay], .agg #[.int .i64 bx, .int .i64 by'], .agg #[.int .i64 X, .int .i64 Y, .int .i64 W, .int .i64 H], .int .i64 first] w fun e w' => ∃ v', e = .returned v' ∧ w'.ownsRow B 23 2 v' (l0 ++ cutL ax ay bx by' X Y W H first).length (pcs (l0 ++ cutL ax ay bx by' X Y W H first)) ∧ w.grownBy w' (Value.slice A n c).ownBlock := by
  cases hc : cntB X Y W H
  · refine (cut_no (.slice A n c) A n c rfl ax ay bx by' X Y W H first w hc).mono fun e w' ⟨he, hb⟩ => ⟨_, he, ?_, grown_of_below hb _⟩
    have : cutL ax ay bx by' X Y W H first = [] := by simp [cutL, hc]
    rw [this, List.append_nil, ← hn]
    exact ownsRow_below hown hb
  · by_cases hm : first ≤ max (partLo ax ay bx by' X Y W H) 0
    · exact (cut_yesA B n c A l0 ax ay bx by' X Y W H first w h1 h2 hc hf hown hn hB hl hm).mono fun e w' ⟨v, he, ho, hg, _⟩ => ⟨v, he, ho, hg⟩
    · exact (cut_yesB B n c A l0 ax ay bx by' X Y W H first w h1 h2 hc hf hown hn hB hl (by omega)).mono fun e w' ⟨v, he, ho, hg, _⟩ => ⟨v, he, ho, hg⟩

theorem cutL_len1 {ax ay bx by' X Y W H : Int} (h1 : rightB ax ay = true) (h2 : rightB bx by' = true) (first : Int) (hf : 0 ≤ first) : ((cutL ax ay bx by' X Y W H first).length : Int) ≤ max (stpI ax ay bx by' + 1 - first) 0 := by
  unfold cutL
  split
  · have h := List.length_filter_le (fun p : PtR => inB X Y W H p.1.1 p.1.2) (ptsR ax ay bx by' (cutLo ax ay bx by' X Y W H first) (cutHi ax ay bx by' X Y W H - cutLo ax ay bx by' X Y W H first + 1).toNat)
    rw [ptsR_length] at h
    unfold inR
    have e1 : cutHi ax ay bx by' X Y W H ≤ stpI ax ay bx by' := by unfold cutHi; omega
    have e0 : first ≤ cutLo ax ay bx by' X Y W H first := by unfold cutLo; omega
    omega
  · simp only [List.length_nil]
    omega

/-- what of the first k points' path a rectangle has. -/
def pathL (X Y W H : Int) (l : List PtR) : Nat → List PtR
  | 0 => []
  | 1 => match l[0]? with
    | some p => cutL p.1.1 p.1.2 p.1.1 p.1.2 X Y W H 0
    | none => []
  | k + 2 => pathL X Y W H l (k + 1) ++ match l[k]?, l[k + 1]? with
    | some p, some q => cutL p.1.1 p.1.2 q.1.1 q.1.2 X Y W H 1
    | _, _ => []
theorem pathL_one {X Y W H : Int} {l : List PtR} {p : PtR} (hp : l[0]? = some p) : pathL X Y W H l 1 = cutL p.1.1 p.1.2 p.1.1 p.1.2 X Y W H 0 := by simp [pathL, hp]
theorem pathL_next {X Y W H : Int} {l : List PtR} {k : Nat} {p q : PtR} (hp : l[k]? = some p) (hq : l[k + 1]? = some q) : pathL X Y W H l (k + 2) = pathL X Y W H l (k + 1) ++ cutL p.1.1 p.1.2 q.1.1 q.1.2 X Y W H 1 := by simp [pathL, hp, hq]
theorem stpI_max (ax ay bx by' : Int) : stpI ax ay bx by' = max ((bx - ax).natAbs : Int) (by' - ay).natAbs := by unfold stpI; exact stp_max ax ay bx by'
theorem pathL_len (X Y W H : Int) (l : List PtR) (k : Nat) : ((pathL X Y W H l k).length : Int) ≤ 1 + lenK l (k - 1) := by
  match k with
  | 0 => simp [pathL, lenK]
  | 1 =>
    cases hp : l[0]? with
    | none => simp [pathL, hp, lenK]
    | some p =>
      rw [pathL_one hp]
      have := cutL_len1 (X := X) (Y := Y) (W := W) (H := H) p.2 p.2 0 (by omega)
      rw [stpI_max] at this
      simp [lenK]
      omega
  | k + 2 =>
    have ih := pathL_len X Y W H l (k + 1)
    simp only [Nat.add_sub_cancel, Nat.add_succ_sub_one] at ih ⊢
    cases hp : l[k]? with
    | none => simp only [pathL, hp, lenK, List.append_nil]; omega
    | some p =>
      cases hq : l[k + 1]? with
      | none => simp only [pathL, hp, hq, lenK, List.append_nil]; omega
      | some q =>
        rw [pathL_next hp hq, lenK_succ hp hq, List.length_append]
        have := cutL_len1 (X := X) (Y := Y) (W := W) (H := H) p.2 q.2 1 (by omega)
        rw [stpI_max] at this
        omega
theorem lenK_mono (l : List PtR) (k : Nat) : lenK l k ≤ lenK l (k + 1) := by
  cases hp : l[k]? with
  | none => simp [lenK, hp]
  | some p =>
    cases hq : l[k + 1]? with
    | none => simp [lenK, hp, hq]
    | some q => rw [lenK_succ hp hq]; omega
theorem lenK_le (l : List PtR) {j k : Nat} (h : j ≤ k) : lenK l j ≤ lenK l k := by
  induction h with
  | refl => exact Int.le_refl _
  | step _ ih => exact Int.le_trans ih (lenK_mono l _)

set_option maxRecDepth 100000 in
set_option maxHeartbeats 1000000 in
theorem path_many (A : Option Addr) (n c : Nat) (X Y W H : Int) (w : World) (h : 4096 < n) :
    Calls Try.prog 23 #[.agg #[.int .i64 X, .int .i64 Y, .int .i64 W, .int .i64 H], .slice A n c] w fun e w' => e = .returned (.tuple #[.slice none 0 0, .int .i64 5]) ∧ Below w.heap.size w w' := by
  have d : decide ((4096 : Int) < (n : Int)) = true := by simp; omega
  clear h
  go_enter Try.func23, Try.ntmps23
  go_wp2_with fail
  go_ret2
  exact ⟨rfl, bal (bre w) _⟩

set_option maxRecDepth 100000 in
set_option maxHeartbeats 2000000 in
theorem path_range (g c n m : Nat) (ps : List (Int × Int)) (X Y W H : Int) (w : World) (hn : ps.length = n) (hl : n ≤ 4096) (hg : g < w.heap.size)
    (hc : ∀ k p, ps[k]? = some p → w.cell? ⟨g, k * 2, none⟩ = some (.int .i64 p.1) ∧ w.cell? ⟨g, k * 2 + 1, none⟩ = some (.int .i64 p.2))
    (hm : m < n) (hr : ∀ k p, k < m → ps[k]? = some p → rightB p.1 p.2 = true) (hw : ∀ p, ps[m]? = some p → rightB p.1 p.2 = false) :
    Calls Try.prog 23 #[.agg #[.int .i64 X, .int .i64 Y, .int .i64 W, .int .i64 H], .slice (some ⟨g, 0, none⟩) n c] w fun e w' => e = .returned (.tuple #[.slice none 0 0, .int .i64 1]) ∧ Below w.heap.size w w' := by
  have d : decide ((4096 : Int) < (n : Int)) = false := by simp; omega
  have HN := Lib.hid hn
  have HC := Lib.hid hc
  have HR := Lib.hid hr
  have HW := Lib.hid hw
  clear hn hc hr hw
  go_enter Try.func23, Try.ntmps23
  go_wp2_with fail
  have HB0 := Lib.hid (bal (bre w) (.cells #[.int .i64 X, .int .i64 Y, .int .i64 W, .int .i64 H] 45))
  go_loopw [16] (fun i wr => ∃ k : Nat, i = .int .i64 k ∧ k ≤ m ∧ Below w.heap.size w wr) (fun i _ => n - (intOf i).toNat)
  case atStart => exact ⟨0, rfl, by omega, HB0.out⟩
  case round =>
    obtain ⟨k, rfl, hk, hB⟩ := hrel
    obtain ⟨p, hp⟩ : ∃ p, ps[k]? = some p := ⟨_, List.getElem?_eq_getElem (by have := HN.out; omega)⟩
    have hp1 := HC.out k p hp
    have a0 := (hB.cell (p := ⟨g, k * 2, none⟩) hg).trans hp1.1
    have a1 := (hB.cell (p := ⟨g, k * 2 + 1, none⟩) hg).trans hp1.2
    have HB := Lib.hid hB
    have k1 : (k : Int) < (n : Int) := by omega
    by_cases hkm : k < m
    · have hrt := HR.out k p hkm hp
      have HRT := Lib.hid hrt
      clear hB hp hp1 hrt
      go_wp2_with (go_at_call 33; refine (right_any _ _ _).mono ?_; rintro e w' ⟨rfl, rfl⟩; rw [HRT.out])
      go_roundw
      case rel => exact ⟨k + 1, by go_num, by omega, bal (bal HB.out _) _⟩
      case measure => simp [intOf]; omega
    · obtain rfl : k = m := by omega
      have hrt := HW.out p hp
      have HRT := Lib.hid hrt
      clear hB hp hp1 hrt
      go_wp2_with (go_at_call 33; refine (right_any _ _ _).mono ?_; rintro e w' ⟨rfl, rfl⟩; rw [HRT.out])
      go_ret2
      exact ⟨rfl, bal (bal HB.out _) _⟩

theorem path_keep {wr w5 : World} {o : Obj} {row : Option Nat} (hg : ((wr.alloc o).drew).grownBy w5 row) {b off : Nat} {v : Value} (hc : wr.cell? ⟨b, off, none⟩ = some v) (hne : some b ≠ row) : w5.cell? ⟨b, off, none⟩ = some v :=
  hg.cell ((World.cell?_alloc_lt wr o ⟨b, off, none⟩ (block_lt_of_cell hc)).trans hc) hne
theorem path_box {wr w5 : World} {t : TypeId} {cs : Array Value} {row : Option Nat} (hg : ((wr.alloc (.cells cs t)).drew).grownBy w5 row) {off : Nat} {v : Value} (hc : cs[off]? = some v) (hne : some wr.heap.size ≠ row) : w5.cell? ⟨wr.heap.size, off, none⟩ = some v :=
  hg.cell (((Blk.new wr t cs).cell off).trans hc) hne

set_option maxRecDepth 100000 in
set_option maxHeartbeats 4000000 in
theorem path_right (g c n : Nat) (l : List PtR) (X Y W H : Int) (w : World) (hn : l.length = n) (hn1 : 1 ≤ n) (hl : n ≤ 4096) (hg : g < w.heap.size)
    (hc : ∀ k p, (unR l)[k]? = some p → w.cell? ⟨g, k * 2, none⟩ = some (.int .i64 p.1) ∧ w.cell? ⟨g, k * 2 + 1, none⟩ = some (.int .i64 p.2)) :
    Calls Try.prog 23 #[.agg #[.int .i64 X, .int .i64 Y, .int .i64 W, .int .i64 H], .slice (some ⟨g, 0, none⟩) n c] w fun e w' => Below w.heap.size w w' ∧
      ((bigB X Y W H = true ∧ e = .returned (.tuple #[.slice none 0 0, .int .i64 17])) ∨ (bigB X Y W H = false ∧ 262144 < lenP l ∧ e = .returned (.tuple #[.slice none 0 0, .int .i64 4])) ∨
       (bigB X Y W H = false ∧ lenP l ≤ 262144 ∧ ∃ v', e = .returned (.tuple #[v', .int .i64 0]) ∧ w'.ownsRow w.heap.size 23 2 v' (pathL X Y W H l n).length (pcs (pathL X Y W H l n)))) := by
  have d : decide ((4096 : Int) < (n : Int)) = false := by simp; omega
  have HN := Lib.hid hn
  have HC := Lib.hid hc
  have hrdp : RdP w (.slice (some ⟨g, 0, none⟩) n c) (unR l) := .inr ⟨g, c, by rw [show (unR l).length = n from by simp [unR, hn]], hg, hc⟩
  have HRP := Lib.hid hrdp
  clear hn hc hrdp
  go_enter Try.func23, Try.ntmps23
  go_wp2_with fail
  have bZ := Blk.new w 45 #[.int .i64 X, .int .i64 Y, .int .i64 W, .int .i64 H]
  have hB0 := bal (bre w) (.cells #[.int .i64 X, .int .i64 Y, .int .i64 W, .int .i64 H] 45)
  have hzs : (w.alloc (.cells #[.int .i64 X, .int .i64 Y, .int .i64 W, .int .i64 H] 45)).heap.size = w.heap.size + 1 := World.size_alloc _ _
  obtain ⟨Z, hZ⟩ : ∃ Z, w.alloc (.cells #[.int .i64 X, .int .i64 Y, .int .i64 W, .int .i64 H] 45) = Z := ⟨_, rfl⟩
  rw [hZ] at bZ hB0 hzs ⊢
  have BZ := Lib.hid bZ
  have HB0 := Lib.hid hB0
  have HZS := Lib.hid hzs
  clear hZ bZ hB0 hzs
  go_loopw [16] (fun i wr => ∃ k : Nat, i = .int .i64 k ∧ k ≤ n ∧ Below Z.heap.size Z wr) (fun i _ => n - (intOf i).toNat)
  case atStart => exact ⟨0, rfl, by omega, bre Z⟩
  case round =>
    obtain ⟨k, rfl, hk, hB⟩ := hrel
    have HB := Lib.hid hB
    by_cases hkm : k < n
    · obtain ⟨p, hp⟩ : ∃ p, l[k]? = some p := ⟨_, List.getElem?_eq_getElem (by have := HN.out; omega)⟩
      have hp1 := HC.out k p.1 (by simp [unR, hp])
      have hbb := bstep HB0.out hB
      have a0 := (hbb.cell (p := ⟨g, k * 2, none⟩) hg).trans hp1.1
      have a1 := (hbb.cell (p := ⟨g, k * 2 + 1, none⟩) hg).trans hp1.2
      have HRT := Lib.hid p.2
      have k1 : (k : Int) < (n : Int) := by omega
      clear hB hp hp1 hbb
      go_wp2_with (go_at_call 33; refine (right_any _ _ _).mono ?_; rintro e w' ⟨rfl, rfl⟩; rw [HRT.out])
      go_roundw
      case rel => exact ⟨k + 1, by go_num, by omega, bal (bal HB.out _) _⟩
      case measure => simp [intOf]; omega
    · obtain rfl : k = n := by omega
      have bR := BZ.out.belowS hB
      have r0 : wr.cell? ⟨w.heap.size, 0, none⟩ = some (.int .i64 X) := (bR.cell 0).trans rfl
      have r1 : wr.cell? ⟨w.heap.size, 1, none⟩ = some (.int .i64 Y) := (bR.cell 1).trans rfl
      have r2 : wr.cell? ⟨w.heap.size, 2, none⟩ = some (.int .i64 W) := (bR.cell 2).trans rfl
      have r3 : wr.cell? ⟨w.heap.size, 3, none⟩ = some (.int .i64 H) := (bR.cell 3).trans rfl
      have hlp := lenK_bd l (k - 1)
      have hlv : lenP l = 1 + lenK l (k - 1) := by simp [lenP, HN.out]; omega
      obtain ⟨L, hL⟩ : ∃ L, lenP l = L := ⟨_, rfl⟩
      have HLV := Lib.hid hlv
      rw [hL] at hlv
      have HL := Lib.hid hL
      have hlb : 1 ≤ L ∧ L ≤ 1 + (k : Int) * 2097152 := by omega
      clear hB bR hL hlv hlp
      cases hbig : bigB X Y W H
      · by_cases hlong : 262144 < L
        · have dl : decide (262144 < L) = true := by simpa using hlong
          go_wp2_with (first
            | (go_at_call 39; refine (big_any _ _ _ _ _).mono ?_; rintro e w1 ⟨rfl, hb1⟩; rw [hbig]; have HB1 := Lib.hid (bstep HB.out hb1); clear hb1)
            | (go_at_call 41; refine (length_any _ l _ (by have := HN.out; omega) (HRP.out.below (bstep HB0.out HB1.out))).mono ?_; rintro e w2 ⟨rfl, hb2⟩; rw [HL.out]; have HB2 := Lib.hid (bstep HB1.out hb2); clear hb2))
          go_ret2
          exact ⟨bstep HB0.out HB2.out, .inr (.inl ⟨hbig, by rw [HL.out]; exact hlong, rfl⟩)⟩
        · have dl : decide (262144 < L) = false := by simp; omega
          go_wp2_with (first
            | (go_at_call 39; refine (big_any _ _ _ _ _).mono ?_; rintro e w1 ⟨rfl, hb1⟩; rw [hbig]; have HB1 := Lib.hid (bstep HB.out hb1); clear hb1)
            | (go_at_call 41; refine (length_any _ l _ (by have := HN.out; omega) (HRP.out.below (bstep HB0.out HB1.out))).mono ?_; rintro e w2 ⟨rfl, hb2⟩; rw [HL.out]; have HB2 := Lib.hid (bstep HB1.out hb2); clear hb2))
          clear r0 r1 r2 r3
          go_loopw [8, 31] (fun o i wr => ∃ j : Nat, i = .int .i64 j ∧ j ≤ k ∧ wr.ownsRow Z.heap.size 23 2 o (pathL X Y W H l j).length (pcs (pathL X Y W H l j)) ∧ Below Z.heap.size Z wr) (fun _ i _ => k - (intOf i).toNat)
          case atStart => exact ⟨0, rfl, by omega, by simpa [pathL, pcs] using World.ownsRow_nil _ _ _ _, HB2.out⟩
          case round =>
            obtain ⟨j, rfl, hj, ho, hB3⟩ := hrel
            have HO := Lib.hid ho
            have HB3 := Lib.hid hB3
            have hsz := hB3.size
            have hpl := pathL_len X Y W H l j
            have hlm := lenK_le l (j := j - 1) (k := k - 1) (by omega)
            have hlv := HLV.out
            have hl9 := HL.out
            obtain ⟨A, ca, hA, hca⟩ := own_form ho
            subst hA
            obtain ⟨K, hK⟩ : ∃ K, (pathL X Y W H l j).length = K := ⟨_, rfl⟩
            rw [hK] at HO hpl ⊢
            have hK9 : K ≤ 1000000000 := by omega
            have HK := Lib.hid hK
            have hZ0 := HZS.out
            have bR := BZ.out.belowS hB3
            have r0 : wr.cell? ⟨w.heap.size, 0, none⟩ = some (.int .i64 X) := (bR.cell 0).trans rfl
            have r1 : wr.cell? ⟨w.heap.size, 1, none⟩ = some (.int .i64 Y) := (bR.cell 1).trans rfl
            have r2 : wr.cell? ⟨w.heap.size, 2, none⟩ = some (.int .i64 W) := (bR.cell 2).trans rfl
            have r3 : wr.cell? ⟨w.heap.size, 3, none⟩ = some (.int .i64 H) := (bR.cell 3).trans rfl
            have hbb := bstep HB0.out hB3
            clear ho hB3 hK hpl hlm hlv hl9 bR hca
            by_cases hjk : j < k
            · obtain ⟨q, hq⟩ : ∃ q, l[j]? = some q := ⟨_, List.getElem?_eq_getElem (by have := HN.out; omega)⟩
              have hq1 := HC.out j q.1 (by simp [unR, hq])
              have a0 := (hbb.cell (p := ⟨g, j * 2, none⟩) hg).trans hq1.1
              have a1 := (hbb.cell (p := ⟨g, j * 2 + 1, none⟩) hg).trans hq1.2
              have k1 : (j : Int) < (k : Int) := by omega
              have k0 : (0 : Int) ≤ (j : Int) := by omega
              have zg : g < wr.heap.size := by omega
              have zr : w.heap.size < wr.heap.size := by omega
              rcases Nat.eq_zero_or_pos j with hj0 | hj0
              · subst hj0
                have HPO := Lib.hid (pathL_one (X := X) (Y := Y) (W := W) (H := H) hq)
                have hq2 := hq
                clear hq hq1 hbb
                go_wp2_with (go_at_call 40; refine (cut_any Z.heap.size _ _ _ (pathL X Y W H l 0) q.1.1 q.1.2 q.1.1 q.1.2 X Y W H 0 _ q.2 q.2 (by omega) (HO.out.alloc _) HK.out.symm (by simp; omega) (by rw [HK.out]; omega)).mono ?_; rintro e w5 ⟨v', rfl, ho5, hg5⟩; have HO5 := Lib.hid ho5; have HG5 := Lib.hid hg5; clear ho5 hg5)
                refine ⟨⟨1, by go_num, by omega, by rw [HPO.out]; simpa [pathL] using HO5.out, (bal HB3.out _).grown HG5.out (by simp; omega) (own_ge HO.out)⟩, by simp [intOf]; omega⟩
              · obtain ⟨m, rfl⟩ : ∃ m, j = m + 1 := ⟨j - 1, by omega⟩
                obtain ⟨p, hp⟩ : ∃ p, l[m]? = some p := ⟨_, List.getElem?_eq_getElem (by have := HN.out; omega)⟩
                have hp1 := HC.out m p.1 (by simp [unR, hp])
                have c0 := (hbb.cell (p := ⟨g, m * 2, none⟩) hg).trans hp1.1
                have c1 := (hbb.cell (p := ⟨g, m * 2 + 1, none⟩) hg).trans hp1.2
                have HPO := Lib.hid (pathL_next (X := X) (Y := Y) (W := W) (H := H) hp hq)
                have hj1 : ((m : Int) + 1 == 0) = false := by simp; omega
                have w1 : IntKind.i64.wrap ((m : Int) + 1 - 1) = m := by rw [show (m : Int) + 1 - 1 = m from by omega]; exact IntWalk.i64_in _ (by omega)
                have k2 : (m : Int) < (k : Int) := by omega
                have k3 : (0 : Int) ≤ (m : Int) := by omega
                have w2 : IntKind.i64.wrap (((m + 1 : Nat) : Int) - 1) = m := by rw [show ((m + 1 : Nat) : Int) - 1 = m from by omega]; exact IntWalk.i64_in _ (by omega)
                have w3 : IntKind.i64.wrap (m : Int) = m := IntWalk.i64_in _ (by omega)
                clear hq hq1 hp hp1 hbb
                go_wp2_with fail
                go_region_held3 (fun w' => w'.cell? ⟨w.heap.size, 0, none⟩ = some (.int .i64 X) ∧ w'.cell? ⟨w.heap.size, 1, none⟩ = some (.int .i64 Y) ∧ w'.cell? ⟨w.heap.size, 2, none⟩ = some (.int .i64 W) ∧ w'.cell? ⟨w.heap.size, 3, none⟩ = some (.int .i64 H) ∧ w'.cell? ⟨g, m * 2, none⟩ = some (.int .i64 p.1.1) ∧ w'.cell? ⟨g, m * 2 + 1, none⟩ = some (.int .i64 p.1.2) ∧ w'.cell? ⟨wr.heap.size, 0, none⟩ = some (.int .i64 q.1.1) ∧ w'.cell? ⟨wr.heap.size, 1, none⟩ = some (.int .i64 q.1.2))
                  (go_keep)
                  (first | (go_at_call 40; refine (cut_any Z.heap.size _ _ _ (pathL X Y W H l (m + 1)) p.1.1 p.1.2 q.1.1 q.1.2 X Y W H 1 _ p.2 q.2 (by omega) ((HO.out.alloc (.cells #[.int .i64 q.1.1, .int .i64 q.1.2] 23)).drew) HK.out.symm (by simp; omega) (by rw [HK.out]; omega)).mono ?_; rintro e w5 ⟨v', rfl, ho5, hg5⟩; have ne1 : ∀ b, (b < Z.heap.size ∨ wr.heap.size ≤ b) → some b ≠ (Value.slice A K ca).ownBlock := (fun b hb e => by have := HO.out.lt b e.symm; omega); have s0 := path_keep hg5 r0 (ne1 _ (by omega)); have s1 := path_keep hg5 r1 (ne1 _ (by omega)); have s2 := path_keep hg5 r2 (ne1 _ (by omega)); have s3 := path_keep hg5 r3 (ne1 _ (by omega)); have s4 := path_keep hg5 c0 (ne1 _ (by omega)); have s5 := path_keep hg5 c1 (ne1 _ (by omega)); have s6 := path_box hg5 (off := 0) (v := .int .i64 q.1.1) rfl (ne1 _ (by omega)); have s7 := path_box hg5 (off := 1) (v := .int .i64 q.1.2) rfl (ne1 _ (by omega)); have HO5 := Lib.hid ho5; have HG5 := Lib.hid hg5; clear ho5 hg5 ne1))
                go_wp2_with fail
                refine ⟨⟨m + 2, by go_num, by omega, by rw [HPO.out]; exact HO5.out, (((bal HB3.out _).drew).grown HG5.out (by simp [World.drew]; omega) (own_ge HO.out))⟩, by simp [intOf]; omega⟩
            · obtain rfl : j = k := by omega
              go_wp2_with fail
              go_ret2
              refine ⟨bstep HB0.out HB3.out, .inr (.inr ⟨hbig, by rw [HL.out]; omega, _, rfl, ?_⟩)⟩
              rw [HK.out]
              exact ownsRow_base HO.out (by omega)
      · go_wp2_with (go_at_call 39; refine (big_any _ _ _ _ _).mono ?_; rintro e w1 ⟨rfl, hb1⟩; rw [hbig]; have HB1 := Lib.hid (bstep HB.out hb1); clear hb1)
        go_ret2
        exact ⟨bstep HB0.out HB1.out, .inl ⟨hbig, rfl⟩⟩

/-- of points that are right: what Path tells. -/
theorem path_any (v : Value) (l : List PtR) (X Y W H : Int) (w : World) (h0 : l ≠ []) (hl : l.length ≤ 4096) (hr : RdP w v (unR l)) :
    Calls Try.prog 23 #[.agg #[.int .i64 X, .int .i64 Y, .int .i64 W, .int .i64 H], v] w fun e w' => Below w.heap.size w w' ∧
      ((bigB X Y W H = true ∧ e = .returned (.tuple #[.slice none 0 0, .int .i64 17])) ∨ (bigB X Y W H = false ∧ 262144 < lenP l ∧ e = .returned (.tuple #[.slice none 0 0, .int .i64 4])) ∨
       (bigB X Y W H = false ∧ lenP l ≤ 262144 ∧ ∃ v', e = .returned (.tuple #[v', .int .i64 0]) ∧ w'.ownsRow w.heap.size 23 2 v' (pathL X Y W H l l.length).length (pcs (pathL X Y W H l l.length)))) := by
  rcases hr with ⟨e, _⟩ | ⟨g, c, rfl, hg, hc⟩
  · simp [unR] at e; exact absurd e h0
  · rw [show (unR l).length = l.length from by simp [unR]]
    exact path_right g c l.length l X Y W H w rfl (List.length_pos_iff.2 h0) hl hg hc

end Go.Proofs.Ytcdecglbkcllaaa.Ln
