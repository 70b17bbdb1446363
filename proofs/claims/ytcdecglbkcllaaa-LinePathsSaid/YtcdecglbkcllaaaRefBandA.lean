/-
  The walk of the document's put: a number into a list that rises.
  The walk of the document's Edges: where rectangles that count begin and end.
  The walks of the document's Has and alike of a band.
-/
import Derived.Test.YtcdecglbkcllaaaRefPutM
import Derived.Test.YtcdecglbkcllaaaIntRow
import Derived.Outline
import Derived.Laws.AppendOwnNone
import Derived.Test.YtcdecglbkcllaaaLineWalkQ
import Derived.Test.YtcdecglbkcllaaaRefBandM
namespace Go.Proofs.Ytcdecglbkcllaaa
open Go.RowKit

theorem I64_len (l : List Int) : (I64 l).length = l.length := by simp [I64]
theorem I64_append (a b : List Int) : I64 (a ++ b) = I64 a ++ I64 b := by simp [I64]
theorem I64_one (l : List Int) : ∀ u ∈ I64 l, u.oneCell' = true := by
  intro u hu
  simp only [I64, List.mem_map] at hu
  obtain ⟨x, _, rfl⟩ := hu
  rfl
theorem I64_at {l : List Int} {k : Nat} {v : Int} (h : l[k]? = some v) : (I64 l)[k]? = some (.int .i64 v) := by simp [I64, h]
/-- a list of numbers of the call's own is there, number by number. -/
theorem own_at {w : World} {B g n c : Nat} {e : TypeId} {l : List Int} (h : w.ownsRow B e 1 (.slice (some ⟨g, 0, none⟩) n c) n (I64 l)) {k : Nat} {v : Int} (hk : l[k]? = some v) : w.cell? ⟨g, k, none⟩ = some (.int .i64 v) := by
  have hc := h.cells (g := g) rfl k _ (I64_at hk)
  simp only [Addr.add] at hc
  split at hc
  · rename_i h0; subst h0; exact hc
  · rw [Nat.zero_add] at hc; exact hc
/-- the cells of a part. -/
theorem part_at {w : World} {g o m : Nat} {l : List Int} (h : ∀ k v, l[k]? = some v → w.cell? ⟨g, o + k, none⟩ = some (.int .i64 v)) : ∀ j u, (I64 (l.take m))[j]? = some u → w.cell? ((⟨g, o, none⟩ : Addr).add j) = some u := by
  intro j u hj
  simp only [I64, List.map_take, List.getElem?_take, List.getElem?_map] at hj
  split at hj
  · cases hv : l[j]? with
    | none => rw [hv] at hj; cases hj
    | some v =>
      rw [hv] at hj
      cases hj
      have := h j v hv
      unfold Addr.add
      split
      · rename_i h0; subst h0; exact this
      · exact this
  · cases hj
theorem own_empty (w : World) (B : Nat) (hB : B ≤ w.heap.size) (e : TypeId) : (w.alloc (.cells #[] e)).ownsRow B e 1 (.slice (some ⟨w.heap.size, 0, none⟩) 0 0) 0 (I64 []) :=
  ⟨rfl, .inr ⟨w.heap.size, 0, #[], rfl, hB, Blk.new w e #[], Nat.le_refl _, Nat.zero_le _, rfl, rfl⟩⟩
/-- where the number belongs. -/
theorem put_here {l : List Int} {k : Nat} {x : Int} (hs : l.Pairwise (· < ·)) (hk : k ≤ l.length) (hgt : ∀ j v, k ≤ j → l[j]? = some v → x < v) (hlt : ∀ v, 0 < k → l[k - 1]? = some v → v < x) : I64 (putL l x) = I64 (l.take k) ++ [.int .i64 x] ++ I64 (l.drop k) ∧ (putL l x).length = l.length + 1 := by
  have e : putL l x = l.take k ++ x :: l.drop k := by
    conv => lhs; rw [← List.take_append_drop k l]
    refine putL_split (fun y hy => ?_) (fun y hy => ?_)
    · obtain ⟨j, hj⟩ := List.getElem?_of_mem hy
      rw [List.getElem?_take] at hj
      split at hj
      · rename_i hjk
        have hk1 : k - 1 < l.length := by omega
        have h1 := hlt _ (by omega) (List.getElem?_eq_getElem hk1)
        by_cases hjk1 : j = k - 1
        · subst hjk1
          rw [List.getElem?_eq_getElem hk1] at hj
          cases hj
          exact h1
        · have hjl := (List.getElem?_eq_some_iff.1 hj).1
          have h2 := List.pairwise_iff_getElem.1 hs j (k - 1) hjl hk1 (by omega)
          have h3 := (List.getElem?_eq_some_iff.1 hj).2
          omega
      · cases hj
    · obtain ⟨j, hj⟩ := List.getElem?_of_mem hy
      rw [List.getElem?_drop] at hj
      exact hgt _ _ (by omega) hj
  rw [e]
  refine ⟨by simp [I64], ?_⟩
  simp
  omega

set_option maxRecDepth 100000 in
set_option maxHeartbeats 4000000 in
theorem put_some (B g c n : Nat) (l : List Int) (x : Int) (w : World) (hn : l.length = n) (hl : n ≤ 1000000) (hnc : n ≤ c) (hcm : c ≤ maxLen) (hown : w.ownsRow B 3 1 (.slice (some ⟨g, 0, none⟩) n c) n (I64 l)) (hs : l.Pairwise (· < ·)) (hB : B ≤ w.heap.size) :
    Calls Try.prog 69 #[.slice (some ⟨g, 0, none⟩) n c, .int .i64 x] w fun e w' => ∃ v', e = .returned v' ∧ w'.ownsRow B 3 1 v' (putL l x).length (I64 (putL l x)) ∧ Below w.heap.size w w' := by
  obtain ⟨i0, hi0, hz0, hz1, hz2⟩ := info_parts Try.infoI
  have hg : g < w.heap.size := own_lt hown g rfl
  have HN := Lib.hid hn
  have HO := Lib.hid hown
  have HS := Lib.hid hs
  have hcm2 : c ≤ 9223372036854775807 := by simp only [maxLen] at hcm; omega
  clear hn hown hs hcm
  go_enter Try.func69, Try.ntmps69
  go_wp2_with fail
  go_loopw [5] (fun i wr => ∃ k : Nat, i = .int .i64 k ∧ k ≤ n ∧ (∀ j v, k ≤ j → l[j]? = some v → x < v) ∧ Below w.heap.size w wr) (fun i _ => (intOf i).toNat)
  case atStart => exact ⟨n, rfl, by omega, fun j v h e => absurd (List.getElem?_eq_some_iff.1 e).1 (by have := HN.out; omega), bre w⟩
  case round =>
    obtain ⟨k, rfl, hk, hgt, hB'⟩ := hrel
    have HGT := Lib.hid hgt
    have HB' := Lib.hid hB'
    have hszr := hB'.size
    rcases Nat.eq_zero_or_pos k with hk0 | hk0
    · have d0 : decide ((0 : Int) < (k : Int)) = false := by simp; omega
      have hk00 : ¬ ((0 : Int) < (k : Int)) := by omega
      have hk01 : ((k : Int) > 0) = False := by simp; omega
      have hk02 : decide ((k : Int) > 0) = false := by simp; omega
      have HLT := Lib.hid (show ∀ v, 0 < k → l[k - 1]? = some v → v < x from fun v h => absurd h (by omega))
      clear hgt hB' hk0
      have OE := Lib.hid (own_empty wr wr.heap.size (Nat.le_refl _) 3)
      have hnew : ∀ j u, (I64 (l.take k))[j]? = some u → (wr.alloc (.cells #[] 3)).cell? ((⟨g, 0, none⟩ : Addr).add j) = some u := part_at (fun j u hj => by rw [Nat.zero_add]; exact ((bal HB'.out _).cell (p := ⟨g, j, none⟩) hg).trans (own_at HO.out hj))
      have HNEW := Lib.hid hnew
      have hlt : (I64 (l.take k)).length = k * 1 := by simp [I64, HN.out]; omega
      have HLL := Lib.hid hlt
      clear hnew hlt
      go_upto_region 7 with (at_builtin; refine wpList_append_own _ rfl _ _ 83 rfl wr.heap.size 3 i0 _ 1 8 Try.underlying83 hi0 hz0 hz1 hz2 rfl (by decide) _ _ _ rfl OE.out ⟨g, 0, none⟩ k c (I64 (l.take k)) rfl HLL.out HNEW.out (I64_one _) (by simp only [maxLen]; omega) (by omega) (by simp) ?_; intro v1 w1 hown1 hgrow1 _; rw [Nat.zero_add, show I64 [] ++ I64 (l.take k) = I64 (l.take k) from rfl] at hown1; have HO1 := Lib.hid hown1; have hb1 := (bal (bre wr) (.cells #[] 3)).grown hgrow1 (by simp) (fun q e => by cases e; exact Nat.le_refl _); have HB1 := Lib.hid (bstep HB'.out hb1); have h1s := hb1.size; clear hown1 hgrow1 hb1)
      obtain ⟨A1, c1, hv1, _⟩ := own_form HO1.out
      subst hv1
      go_upto_region 8 with (at_builtin; refine wpList_append_own _ rfl _ _ 83 rfl wr.heap.size 3 i0 _ 1 8 Try.underlying83 hi0 hz0 hz1 hz2 rfl (by decide) _ _ _ rfl (HO1.out.alloc _) ⟨w1.heap.size, 0, none⟩ 1 1 [.int .i64 x] rfl rfl (cell_one_new _ _ _) (by simp [Value.oneCell']) (by simp only [maxLen]; omega) (by omega) (by simp; omega) ?_; intro v2 w2 hown2 hgrow2 _; have HO2 := Lib.hid hown2; have HB2 := Lib.hid ((bal HB1.out _).grown hgrow2 (by simp; omega) (fun q e => by have := own_ge HO1.out q e; omega)); have h2s : w1.heap.size + 1 ≤ w2.heap.size := (by simpa using hgrow2.size); clear hown2 hgrow2)
      obtain ⟨A2, c2, hv2, _⟩ := own_form HO2.out
      subst hv2
      have hnew3 : ∀ j u, (I64 (l.drop k))[j]? = some u → w2.cell? ((⟨g, k, none⟩ : Addr).add j) = some u := fun j u hj => by
        rw [← List.take_length (l := l.drop k)] at hj
        refine part_at (o := k) (fun i v hv => ?_) j u hj
        rw [List.getElem?_drop] at hv
        exact (HB2.out.cell (p := ⟨g, k + i, none⟩) hg).trans (own_at HO.out hv)
      have HNEW3 := Lib.hid hnew3
      have hl3 : (I64 (l.drop k)).length = (n - k) * 1 := by simp [I64, HN.out]
      have HL3 := Lib.hid hl3
      obtain ⟨hp1, hp2⟩ := put_here HS.out (by rw [HN.out]; exact hk) HGT.out HLT.out
      have HP1 := Lib.hid hp1
      have HP2 := Lib.hid hp2
      clear hnew3 hl3 hp1 hp2
      by_cases hkc : k = c
      · have HD0 := Lib.hid (show I64 (putL l x) = I64 (l.take k) ++ [.int .i64 x] ++ [] by rw [HP1.out, List.drop_of_length_le (by rw [HN.out]; omega)]; rfl)
        go_wp2_with (at_builtin; refine wpList_append_own _ rfl _ _ 83 rfl wr.heap.size 3 i0 _ 1 8 Try.underlying83 hi0 hz0 hz1 hz2 rfl (by decide) _ _ _ rfl HO2.out _ 0 _ [] rfl rfl (by simp) (by simp) (by simp only [maxLen]; omega) (by omega) (by omega) ?_; intro v3 w3 hown3 hgrow3 _; rw [← HD0.out, Nat.add_zero] at hown3; have HO3 := Lib.hid hown3; have HB3 := Lib.hid (HB2.out.grown hgrow3 (by omega) (fun q e => by have := own_ge HO2.out q e; omega)); clear hown3 hgrow3)
        obtain ⟨A3, c3, hv3, _⟩ := own_form HO3.out
        subst hv3
        go_ret
        refine ⟨_, rfl, ?_, HB3.out⟩
        rw [HP2.out, HN.out, show n + 1 = k + 1 from by omega]
        exact ownsRow_base HO3.out (by omega)
      · have hkc2 : k < c := by omega
        go_wp2_with (at_builtin; refine wpList_append_own _ rfl _ _ 83 rfl wr.heap.size 3 i0 _ 1 8 Try.underlying83 hi0 hz0 hz1 hz2 rfl (by decide) _ _ _ rfl HO2.out ⟨g, k, none⟩ (n - k) (c - k) (I64 (l.drop k)) rfl HL3.out HNEW3.out (I64_one _) (by simp only [maxLen]; omega) (by omega) (by omega) ?_; intro v3 w3 hown3 hgrow3 _; rw [← HP1.out] at hown3; have HO3 := Lib.hid hown3; have HB3 := Lib.hid (HB2.out.grown hgrow3 (by omega) (fun q e => by have := own_ge HO2.out q e; omega)); clear hown3 hgrow3)
        obtain ⟨A3, c3, hv3, _⟩ := own_form HO3.out
        subst hv3
        go_ret
        refine ⟨_, rfl, ?_, HB3.out⟩
        rw [HP2.out, HN.out, show n + 1 = k + 1 + (n - k) from by omega]
        exact ownsRow_base HO3.out (by omega)
    · obtain ⟨v, hv⟩ : ∃ v, l[k - 1]? = some v := ⟨_, List.getElem?_eq_getElem (by have := HN.out; omega)⟩
      have d0 : decide ((0 : Int) < (k : Int)) = true := by simp; omega
      have w1 : IntKind.i64.wrap ((k : Int) - 1) = ((k - 1 : Nat) : Int) := by rw [show (k : Int) - 1 = ((k - 1 : Nat) : Int) from by omega]; exact IntWalk.i64_in _ (by omega)
      have k1 : ((k - 1 : Nat) : Int) < (n : Int) := by omega
      have k2 : (0 : Int) ≤ ((k - 1 : Nat) : Int) := by omega
      have a0 := (hB'.cell (p := ⟨g, k - 1, none⟩) hg).trans (own_at HO.out hv)
      have HV := Lib.hid hv
      clear hgt hB' hv
      by_cases hxv : x ≤ v
      · have d1 : decide (x ≤ v) = true := by simpa using hxv
        by_cases he : v = x
        · subst he
          have d2 : (v == v) = true := by simp
          clear hxv
          have HE := Lib.hid (putL_there HS.out (List.mem_of_getElem? HV.out))
          go_wp2_with fail
          go_ret
          refine ⟨_, rfl, ?_, HB'.out⟩
          rw [HE.out, HN.out]
          exact ownsRow_below HO.out HB'.out
        · have d2 : (v == x) = false := by simp; omega
          go_wp2_with fail
          go_roundw
          case rel => exact ⟨k - 1, by go_num, by omega, fun j u hj hu => by
            by_cases hjk : j = k - 1
            · subst hjk
              rw [HV.out] at hu
              cases hu
              omega
            · exact HGT.out j u (by omega) hu, HB'.out⟩
          case measure => simp [intOf]; omega
      · have d1 : decide (x ≤ v) = false := by simp; omega
        have HLT := Lib.hid (show ∀ u, 0 < k → l[k - 1]? = some u → u < x from fun u _ h => by rw [HV.out] at h; cases h; omega)
        have OE := Lib.hid (own_empty wr wr.heap.size (Nat.le_refl _) 3)
        have hnew : ∀ j u, (I64 (l.take k))[j]? = some u → (wr.alloc (.cells #[] 3)).cell? ((⟨g, 0, none⟩ : Addr).add j) = some u := part_at (fun j u hj => by rw [Nat.zero_add]; exact ((bal HB'.out _).cell (p := ⟨g, j, none⟩) hg).trans (own_at HO.out hj))
        have HNEW := Lib.hid hnew
        have hlt : (I64 (l.take k)).length = k * 1 := by simp [I64, HN.out]; omega
        have HLL := Lib.hid hlt
        clear hnew hlt
        go_upto_region 7 with (at_builtin; refine wpList_append_own _ rfl _ _ 83 rfl wr.heap.size 3 i0 _ 1 8 Try.underlying83 hi0 hz0 hz1 hz2 rfl (by decide) _ _ _ rfl OE.out ⟨g, 0, none⟩ k c (I64 (l.take k)) rfl HLL.out HNEW.out (I64_one _) (by simp only [maxLen]; omega) (by omega) (by simp) ?_; intro v1 w1 hown1 hgrow1 _; rw [Nat.zero_add, show I64 [] ++ I64 (l.take k) = I64 (l.take k) from rfl] at hown1; have HO1 := Lib.hid hown1; have hb1 := (bal (bre wr) (.cells #[] 3)).grown hgrow1 (by simp) (fun q e => by cases e; exact Nat.le_refl _); have HB1 := Lib.hid (bstep HB'.out hb1); have h1s := hb1.size; clear hown1 hgrow1 hb1)
        obtain ⟨A1, c1, hv1, _⟩ := own_form HO1.out
        subst hv1
        go_upto_region 8 with (at_builtin; refine wpList_append_own _ rfl _ _ 83 rfl wr.heap.size 3 i0 _ 1 8 Try.underlying83 hi0 hz0 hz1 hz2 rfl (by decide) _ _ _ rfl (HO1.out.alloc _) ⟨w1.heap.size, 0, none⟩ 1 1 [.int .i64 x] rfl rfl (cell_one_new _ _ _) (by simp [Value.oneCell']) (by simp only [maxLen]; omega) (by omega) (by simp; omega) ?_; intro v2 w2 hown2 hgrow2 _; have HO2 := Lib.hid hown2; have HB2 := Lib.hid ((bal HB1.out _).grown hgrow2 (by simp; omega) (fun q e => by have := own_ge HO1.out q e; omega)); have h2s : w1.heap.size + 1 ≤ w2.heap.size := (by simpa using hgrow2.size); clear hown2 hgrow2)
        obtain ⟨A2, c2, hv2, _⟩ := own_form HO2.out
        subst hv2
        have hnew3 : ∀ j u, (I64 (l.drop k))[j]? = some u → w2.cell? ((⟨g, k, none⟩ : Addr).add j) = some u := fun j u hj => by
          rw [← List.take_length (l := l.drop k)] at hj
          refine part_at (o := k) (fun i v hv => ?_) j u hj
          rw [List.getElem?_drop] at hv
          exact (HB2.out.cell (p := ⟨g, k + i, none⟩) hg).trans (own_at HO.out hv)
        have HNEW3 := Lib.hid hnew3
        have hl3 : (I64 (l.drop k)).length = (n - k) * 1 := by simp [I64, HN.out]
        have HL3 := Lib.hid hl3
        obtain ⟨hp1, hp2⟩ := put_here HS.out (by rw [HN.out]; exact hk) HGT.out HLT.out
        have HP1 := Lib.hid hp1
        have HP2 := Lib.hid hp2
        clear hnew3 hl3 hp1 hp2
        by_cases hkc : k = c
        · have HD0 := Lib.hid (show I64 (putL l x) = I64 (l.take k) ++ [.int .i64 x] ++ [] by rw [HP1.out, List.drop_of_length_le (by rw [HN.out]; omega)]; rfl)
          go_wp2_with (at_builtin; refine wpList_append_own _ rfl _ _ 83 rfl wr.heap.size 3 i0 _ 1 8 Try.underlying83 hi0 hz0 hz1 hz2 rfl (by decide) _ _ _ rfl HO2.out _ 0 _ [] rfl rfl (by simp) (by simp) (by simp only [maxLen]; omega) (by omega) (by omega) ?_; intro v3 w3 hown3 hgrow3 _; rw [← HD0.out, Nat.add_zero] at hown3; have HO3 := Lib.hid hown3; have HB3 := Lib.hid (HB2.out.grown hgrow3 (by omega) (fun q e => by have := own_ge HO2.out q e; omega)); clear hown3 hgrow3)
          obtain ⟨A3, c3, hv3, _⟩ := own_form HO3.out
          subst hv3
          go_ret
          refine ⟨_, rfl, ?_, HB3.out⟩
          rw [HP2.out, HN.out, show n + 1 = k + 1 from by omega]
          exact ownsRow_base HO3.out (by omega)
        · have hkc2 : k < c := by omega
          go_wp2_with (at_builtin; refine wpList_append_own _ rfl _ _ 83 rfl wr.heap.size 3 i0 _ 1 8 Try.underlying83 hi0 hz0 hz1 hz2 rfl (by decide) _ _ _ rfl HO2.out ⟨g, k, none⟩ (n - k) (c - k) (I64 (l.drop k)) rfl HL3.out HNEW3.out (I64_one _) (by simp only [maxLen]; omega) (by omega) (by omega) ?_; intro v3 w3 hown3 hgrow3 _; rw [← HP1.out] at hown3; have HO3 := Lib.hid hown3; have HB3 := Lib.hid (HB2.out.grown hgrow3 (by omega) (fun q e => by have := own_ge HO2.out q e; omega)); clear hown3 hgrow3)
          obtain ⟨A3, c3, hv3, _⟩ := own_form HO3.out
          subst hv3
          go_ret
          refine ⟨_, rfl, ?_, HB3.out⟩
          rw [HP2.out, HN.out, show n + 1 = k + 1 + (n - k) from by omega]
          exact ownsRow_base HO3.out (by omega)

set_option maxRecDepth 100000 in
set_option maxHeartbeats 2000000 in
theorem put_nil (B : Nat) (x : Int) (w : World) (hB : B ≤ w.heap.size) :
    Calls Try.prog 69 #[.slice none 0 0, .int .i64 x] w fun e w' => ∃ v', e = .returned v' ∧ w'.ownsRow B 3 1 v' 1 (I64 [x]) ∧ Below w.heap.size w w' := by
  obtain ⟨i0, hi0, hz0, hz1, hz2⟩ := info_parts Try.infoI
  go_enter Try.func69, Try.ntmps69
  go_wp2_with fail
  go_loopw [5] (fun i wr => i = .int .i64 0 ∧ wr = w) (fun i _ => 0)
  case atStart => exact ⟨rfl, rfl⟩
  case round =>
    obtain ⟨rfl, rfl⟩ := hrel
    have OE := Lib.hid (own_empty wr wr.heap.size (Nat.le_refl _) 3)
    go_upto_region 7 with (at_builtin; refine wpList_append_own_none rfl _ _ 83 rfl wr.heap.size 3 i0 1 Try.underlying83 hi0 _ 0 [] rfl OE.out rfl ?_)
    have OE2 := Lib.hid (show (wr.alloc (.cells #[] 3)).ownsRow wr.heap.size 3 1 (.slice (some ⟨wr.heap.size, 0, none⟩) 0 0) 0 (I64 []) from own_empty wr wr.heap.size (Nat.le_refl _) 3)
    go_upto_region 8 with (at_builtin; refine wpList_append_own _ rfl _ _ 83 rfl wr.heap.size 3 i0 _ 1 8 Try.underlying83 hi0 hz0 hz1 hz2 rfl (by decide) _ _ _ rfl (OE2.out.alloc _) ⟨wr.heap.size + 1, 0, none⟩ 1 1 [.int .i64 x] rfl rfl (by have := cell_one_new (wr.alloc (.cells #[] 3)) (.int .i64 x) 3; rwa [World.size_alloc] at this) (by simp [Value.oneCell']) (by simp only [maxLen]; omega) (by omega) (by simp; omega) ?_; intro v2 w2 hown2 hgrow2 _; rw [Nat.zero_add, show I64 [] ++ [Value.int .i64 x] = I64 [x] from rfl] at hown2; have HO2 := Lib.hid hown2; have HB2 := Lib.hid ((bal (bal (bre wr) (.cells #[] 3)) (.cells #[.int .i64 x] 3)).grown hgrow2 (by simp; omega) (fun q e => by cases e; exact Nat.le_refl _)); clear hown2 hgrow2)
    obtain ⟨A2, c2, hv2, _⟩ := own_form HO2.out
    subst hv2
    go_wp2_with (at_builtin; refine wpList_append_own_none rfl _ _ 83 rfl wr.heap.size 3 i0 1 Try.underlying83 hi0 _ 1 (I64 [x]) rfl HO2.out rfl ?_)
    go_ret
    exact ⟨_, rfl, ownsRow_base HO2.out hB, HB2.out⟩

/-- a number into a list of the call's own. -/
theorem put_any (B : Nat) (v : Value) (l : List Int) (x : Int) (w : World) (hl : l.length ≤ 1000000) (hown : w.ownsRow B 3 1 v l.length (I64 l)) (hs : l.Pairwise (· < ·)) (hB : B ≤ w.heap.size) :
    Calls Try.prog 69 #[v, .int .i64 x] w fun e w' => ∃ v', e = .returned v' ∧ w'.ownsRow B 3 1 v' (putL l x).length (I64 (putL l x)) ∧ Below w.heap.size w w' := by
  rcases hown.2 with ⟨rfl, h0⟩ | ⟨g, cap, cur, rfl, hg, _, hc, hm, _⟩
  · obtain rfl : l = [] := List.eq_nil_of_length_eq_zero h0
    exact put_nil B x w hB
  · exact put_some B g cap l.length l x w rfl hl hc hm hown hs hB

end Go.Proofs.Ytcdecglbkcllaaa

namespace Go.Proofs.Ytcdecglbkcllaaa
open Go.RowKit

theorem xsR_len (l : List RC) : (xsR l).length ≤ 2 * l.length := by
  refine snocIndR (p := fun l => (xsR l).length ≤ 2 * l.length) (by simp [xsR]) (fun l r ih => ?_) l
  rw [xsR_snoc]
  split
  · have h1 := putL_len (putL (xsR l) r.X) (r.X + r.W)
    have h2 := putL_len (xsR l) r.X
    simp
    omega
  · simp
    omega
theorem ysR_len (l : List RC) : (ysR l).length ≤ 2 * l.length := by
  refine snocIndR (p := fun l => (ysR l).length ≤ 2 * l.length) (by simp [ysR]) (fun l r ih => ?_) l
  rw [ysR_snoc]
  split
  · have h1 := putL_len (putL (ysR l) r.Y) (r.Y + r.H)
    have h2 := putL_len (ysR l) r.Y
    simp
    omega
  · simp
    omega
theorem take_snoc {l : List RC} {k : Nat} {r : RC} (h : l[k]? = some r) : l.take (k + 1) = l.take k ++ [r] := by rw [List.take_add_one, h]; rfl
theorem cntB_eq (r : RC) : Ln.cntB r.X r.Y r.W r.H = r.cnt := by
  rw [Bool.eq_iff_iff]
  unfold Ln.cntB RC.cnt
  rw [Bool.and_eq_true, fits_iff, fits_iff, decide_eq_true_eq]
  omega

theorem cnt_iff3 (r : RC) : r.cnt = true ↔ (-1048576 ≤ r.X ∧ 0 < r.W ∧ r.X + r.W ≤ 1048576) ∧ (-1048576 ≤ r.Y ∧ 0 < r.H ∧ r.Y + r.H ≤ 1048576) := by
  unfold RC.cnt
  rw [Bool.and_eq_true, fits_iff, fits_iff]

set_option maxRecDepth 100000 in
set_option maxHeartbeats 4000000 in
theorem redges_any (A : Option Addr) (n c : Nat) (rs : List RC) (w : World) (hn : n ≤ 100000) (hr : RdR w A n rs) :
    Calls Try.prog 45 #[.slice A n c] w fun e w' => ∃ vx vy, e = .returned (.tuple #[vx, vy]) ∧ w'.ownsRow w.heap.size 3 1 vx (xsR rs).length (I64 (xsR rs)) ∧ w'.ownsRow w.heap.size 3 1 vy (ysR rs).length (I64 (ysR rs)) ∧ Below w.heap.size w w' := by
  have HR := Lib.hid hr
  have HL := Lib.hid hr.1
  clear hr
  go_enter Try.func45, Try.ntmps45
  go_wp2_with fail
  go_loopw [4, 5, 6] (fun vx vy i wr => ∃ k : Nat, i = .int .i64 k ∧ k ≤ n ∧ wr.ownsRow w.heap.size 3 1 vx (xsR (rs.take k)).length (I64 (xsR (rs.take k))) ∧ wr.ownsRow w.heap.size 3 1 vy (ysR (rs.take k)).length (I64 (ysR (rs.take k))) ∧ Below w.heap.size w wr) (fun _ _ i _ => n - (intOf i).toNat)
  case atStart => exact ⟨0, rfl, by omega, by simpa [xsR, I64] using World.ownsRow_nil w w.heap.size 3 1, by simpa [ysR, I64] using World.ownsRow_nil w w.heap.size 3 1, bre w⟩
  case round =>
    obtain ⟨k, rfl, hk, hox, hoy, hB⟩ := hrel
    have HB := Lib.hid hB
    have hBs := hB.size
    by_cases hlt : k < n
    · obtain ⟨r, hr⟩ : ∃ r, rs[k]? = some r := ⟨_, List.getElem?_eq_getElem (by have := HL.out; omega)⟩
      obtain ⟨b, off, rfl, hb, hcl⟩ := (HR.out.below hB).2 (by omega)
      obtain ⟨c0, c1, c2, c3⟩ := hcl k r hr
      have HT := Lib.hid (take_snoc hr)
      have k1 : (k : Int) < (n : Int) := by omega
      have k0 : (0 : Int) ≤ (k : Int) := by omega
      have HOX := Lib.hid hox
      have HOY := Lib.hid hoy
      cases hc : r.cnt
      · have HC := Lib.hid ((cntB_eq r).trans hc)
        have HXS := Lib.hid (show xsR (rs.take (k + 1)) = xsR (rs.take k) by rw [HT.out, xsR_snoc, hc]; rfl)
        have HYS := Lib.hid (show ysR (rs.take (k + 1)) = ysR (rs.take k) by rw [HT.out, ysR_snoc, hc]; rfl)
        clear hc hox hoy hB hr hcl
        go_wp2_with (go_at_call 20; refine (Ln.rcounts_any _ _ _ _ _).mono ?_; rintro e w' ⟨rfl, rfl⟩; rw [HC.out])
        go_roundw
        case rel => exact ⟨k + 1, by go_num, by omega, by rw [HXS.out]; exact HOX.out.alloc _, by rw [HYS.out]; exact HOY.out.alloc _, bal HB.out _⟩
        case measure => simp [intOf]; omega
      · have hbb := (cnt_iff3 r).1 hc
        have HC := Lib.hid ((cntB_eq r).trans hc)
        have HXS := Lib.hid (show xsR (rs.take (k + 1)) = putL (putL (xsR (rs.take k)) r.X) (r.X + r.W) by rw [HT.out, xsR_snoc, hc]; rfl)
        have HYS := Lib.hid (show ysR (rs.take (k + 1)) = putL (putL (ysR (rs.take k)) r.Y) (r.Y + r.H) by rw [HT.out, ysR_snoc, hc]; rfl)
        have wx : IntKind.i64.wrap (r.X + r.W) = r.X + r.W := IntWalk.i64_in _ (by omega)
        have wy' : IntKind.i64.wrap (r.Y + r.H) = r.Y + r.H := IntWalk.i64_in _ (by omega)
        have hlx := xsR_len (rs.take k)
        have hly := ysR_len (rs.take k)
        have hlp := putL_len (xsR (rs.take k)) r.X
        have hlq := putL_len (ysR (rs.take k)) r.Y
        rw [List.length_take, HL.out] at hlx hly
        have hlx' : (xsR (rs.take k)).length ≤ 200000 := by omega
        have hly' : (ysR (rs.take k)).length ≤ 200000 := by omega
        have hlp' : (putL (xsR (rs.take k)) r.X).length ≤ 200001 := by omega
        have hlq' : (putL (ysR (rs.take k)) r.Y).length ≤ 200001 := by omega
        have HPX := Lib.hid (xsR_ok (rs.take k)).1
        have HPY := Lib.hid (ysR_ok (rs.take k)).1
        have HPX2 := Lib.hid (putL_rise r.X HPX.out)
        have HPY2 := Lib.hid (putL_rise r.Y HPY.out)
        obtain ⟨X, hX⟩ : ∃ X, xsR (rs.take k) = X := ⟨_, rfl⟩
        obtain ⟨Y, hY⟩ : ∃ Y, ysR (rs.take k) = Y := ⟨_, rfl⟩
        rw [hX] at HOX HXS hlx' hlp' HPX HPX2
        rw [hY] at HOY HYS hly' hlq' HPY HPY2
        clear hc hox hoy hB hr hcl hlx hly hlp hlq hX hY HT
        obtain ⟨Ax, cx, hvx, _⟩ := own_form HOX.out
        subst hvx
        obtain ⟨Ay, cy, hvy, _⟩ := own_form HOY.out
        subst hvy
        go_upto_region 6 with (go_at_call 20; refine (Ln.rcounts_any _ _ _ _ _).mono ?_; rintro e w' ⟨rfl, rfl⟩; rw [HC.out])
        have hal := bal (bre wr) (.cells #[.int .i64 r.X, .int .i64 r.Y, .int .i64 r.W, .int .i64 r.H] 45)
        have OX := Lib.hid (ownsRow_below HOX.out hal)
        have OY := Lib.hid (ownsRow_below HOY.out hal)
        have HB1 := Lib.hid (bstep HB.out hal)
        have hv1 := hal.size
        have hb1 : b < (wr.alloc (.cells #[.int .i64 r.X, .int .i64 r.Y, .int .i64 r.W, .int .i64 r.H] 45)).heap.size := by omega
        have d0 := (hal.cell (p := ⟨b, off + k * 4, none⟩) hb).trans c0
        have d1 := (hal.cell (p := ⟨b, off + k * 4 + 1, none⟩) hb).trans c1
        have d2 := (hal.cell (p := ⟨b, off + k * 4 + 1 + 1, none⟩) hb).trans c2
        have d3 := (hal.cell (p := ⟨b, off + k * 4 + 1 + 1 + 1, none⟩) hb).trans c3
        obtain ⟨V, hV⟩ : ∃ V, wr.alloc (.cells #[.int .i64 r.X, .int .i64 r.Y, .int .i64 r.W, .int .i64 r.H] 45) = V := ⟨_, rfl⟩
        rw [hV] at OX OY HB1 hv1 hb1 d0 d1 d2 d3 ⊢
        have hv2 := HB1.out.size
        clear hV hal c0 c1 c2 c3
        refine wp_region_noPanic ?_
        refine wp_region_held_drew (S := (fun w' => w'.cell? ⟨b, off + k * 4, none⟩ = some (.int .i64 r.X) ∧ w'.cell? ⟨b, off + k * 4 + 1 + 1, none⟩ = some (.int .i64 r.W))) (by kernel_rfl) ?_ (fun hHeld => ?_)
        · (try dsimp only)
          exact ⟨d0, d2⟩
        refine Ln.take_at 0 18 (.slice Ax X.length cx) rfl rfl (by kernel_rfl) (by kernel_rfl) (by kernel_rfl) (fun _ _ _ h => h) (Or.inl ⟨by rfl, ?_⟩) (by assumption) ?_
        · intro W0 hSw
          (try dsimp only at hSw)
          go_simp
        simp only [List.set_cons_zero, List.set_cons_succ]
        refine Ln.take_at 1 19 (.slice (some ⟨b, off, none⟩) n c) rfl rfl (by kernel_rfl) (by kernel_rfl) (by kernel_rfl) (fun _ _ _ h => h) (Or.inl ⟨by rfl, ?_⟩) (by assumption) ?_
        · intro W0 hSw
          (try dsimp only at hSw)
          go_simp
        simp only [List.set_cons_zero, List.set_cons_succ]
        refine Ln.take_at 2 20 (.int .i64 k) rfl rfl (by kernel_rfl) (by kernel_rfl) (by kernel_rfl) (fun _ _ _ h => h) (Or.inl ⟨by rfl, ?_⟩) (by assumption) ?_
        · intro W0 hSw
          (try dsimp only at hSw)
          go_simp
        simp only [List.set_cons_zero, List.set_cons_succ]
        refine Ln.take_at 3 21 (.pointer (some ⟨b, off + k * 4, none⟩)) rfl rfl (by kernel_rfl) (by kernel_rfl) (by kernel_rfl) (fun _ _ _ h => h) (Or.inl ⟨by rfl, ?_⟩) (by assumption) ?_
        · intro W0 hSw
          (try dsimp only at hSw)
          go_simp
        simp only [List.set_cons_zero, List.set_cons_succ]
        refine Ln.take_at 4 22 (.pointer (some ⟨b, off + k * 4, none⟩)) rfl rfl (by kernel_rfl) (by kernel_rfl) (by kernel_rfl) (fun _ _ _ h => h) (Or.inl ⟨by rfl, ?_⟩) (by assumption) ?_
        · intro W0 hSw
          (try dsimp only at hSw)
          go_simp
        simp only [List.set_cons_zero, List.set_cons_succ]
        refine Ln.take_at 5 23 (.int .i64 r.X) rfl rfl (by kernel_rfl) (by kernel_rfl) (by kernel_rfl) (fun _ _ _ h => h) (Or.inl ⟨by rfl, ?_⟩) (by assumption) ?_
        · intro W0 hSw
          (try dsimp only at hSw)
          go_simp
        simp only [List.set_cons_zero, List.set_cons_succ]
        refine Ln.take_at 7 25 (.slice (some ⟨b, off, none⟩) n c) rfl rfl (by kernel_rfl) (by kernel_rfl) (by kernel_rfl) (fun _ _ _ h => h) (Or.inl ⟨by rfl, ?_⟩) (by assumption) ?_
        · intro W0 hSw
          (try dsimp only at hSw)
          go_simp
        simp only [List.set_cons_zero, List.set_cons_succ]
        refine Ln.take_at 8 26 (.int .i64 k) rfl rfl (by kernel_rfl) (by kernel_rfl) (by kernel_rfl) (fun _ _ _ h => h) (Or.inl ⟨by rfl, ?_⟩) (by assumption) ?_
        · intro W0 hSw
          (try dsimp only at hSw)
          go_simp
        simp only [List.set_cons_zero, List.set_cons_succ]
        refine Ln.take_at 9 27 (.pointer (some ⟨b, off + k * 4, none⟩)) rfl rfl (by kernel_rfl) (by kernel_rfl) (by kernel_rfl) (fun _ _ _ h => h) (Or.inl ⟨by rfl, ?_⟩) (by assumption) ?_
        · intro W0 hSw
          (try dsimp only at hSw)
          go_simp
        simp only [List.set_cons_zero, List.set_cons_succ]
        refine Ln.take_at 10 28 (.pointer (some ⟨b, off + k * 4, none⟩)) rfl rfl (by kernel_rfl) (by kernel_rfl) (by kernel_rfl) (fun _ _ _ h => h) (Or.inl ⟨by rfl, ?_⟩) (by assumption) ?_
        · intro W0 hSw
          (try dsimp only at hSw)
          go_simp
        simp only [List.set_cons_zero, List.set_cons_succ]
        refine Ln.take_at 11 29 (.int .i64 r.X) rfl rfl (by kernel_rfl) (by kernel_rfl) (by kernel_rfl) (fun _ _ _ h => h) (Or.inl ⟨by rfl, ?_⟩) (by assumption) ?_
        · intro W0 hSw
          (try dsimp only at hSw)
          go_simp
        simp only [List.set_cons_zero, List.set_cons_succ]
        refine Ln.take_at 12 30 (.slice (some ⟨b, off, none⟩) n c) rfl rfl (by kernel_rfl) (by kernel_rfl) (by kernel_rfl) (fun _ _ _ h => h) (Or.inl ⟨by rfl, ?_⟩) (by assumption) ?_
        · intro W0 hSw
          (try dsimp only at hSw)
          go_simp
        simp only [List.set_cons_zero, List.set_cons_succ]
        refine Ln.take_at 13 31 (.int .i64 k) rfl rfl (by kernel_rfl) (by kernel_rfl) (by kernel_rfl) (fun _ _ _ h => h) (Or.inl ⟨by rfl, ?_⟩) (by assumption) ?_
        · intro W0 hSw
          (try dsimp only at hSw)
          go_simp
        simp only [List.set_cons_zero, List.set_cons_succ]
        refine Ln.take_at 14 32 (.pointer (some ⟨b, off + k * 4, none⟩)) rfl rfl (by kernel_rfl) (by kernel_rfl) (by kernel_rfl) (fun _ _ _ h => h) (Or.inl ⟨by rfl, ?_⟩) (by assumption) ?_
        · intro W0 hSw
          (try dsimp only at hSw)
          go_simp
        simp only [List.set_cons_zero, List.set_cons_succ]
        refine Ln.take_at 15 33 (.pointer (some ⟨b, off + k * 4 + 1 + 1, none⟩)) rfl rfl (by kernel_rfl) (by kernel_rfl) (by kernel_rfl) (fun _ _ _ h => h) (Or.inl ⟨by rfl, ?_⟩) (by assumption) ?_
        · intro W0 hSw
          (try dsimp only at hSw)
          go_simp
        simp only [List.set_cons_zero, List.set_cons_succ]
        refine Ln.take_at 16 34 (.int .i64 r.W) rfl rfl (by kernel_rfl) (by kernel_rfl) (by kernel_rfl) (fun _ _ _ h => h) (Or.inl ⟨by rfl, ?_⟩) (by assumption) ?_
        · intro W0 hSw
          (try dsimp only at hSw)
          go_simp
        simp only [List.set_cons_zero, List.set_cons_succ]
        refine Ln.take_at 17 35 (.int .i64 (r.X + r.W)) rfl rfl (by kernel_rfl) (by kernel_rfl) (by kernel_rfl) (fun _ _ _ h => h) (Or.inl ⟨by rfl, ?_⟩) (by assumption) ?_
        · intro W0 hSw
          (try dsimp only at hSw)
          go_simp
        simp only [List.set_cons_zero, List.set_cons_succ]
        refine wpAnyH_ready (rs := [6]) (by kernel_rfl) (by simp) ?_
        refine AllReadyH.cons rfl (fun K hK => ?_) AllReadyH.nil
        go_simp
        go_at_call 69
        refine (put_any w.heap.size _ X r.X _ (by omega) OX.out.drew HPX.out hv2).mono ?_
        rintro e w5 ⟨v5, rfl, ho5, hb5⟩
        obtain ⟨A5, c5, hv5, _⟩ := own_form ho5
        subst hv5
        have HO5 := Lib.hid ho5
        have HB5 := Lib.hid (bstep ((bre V).drew) hb5)
        have hs5 := HB5.out.size
        clear ho5 hb5
        refine hK.out _ _ ?_ (fun hHeld => ?_)
        · (try dsimp only)
          exact ⟨(HB5.out.cell (p := ⟨b, off + k * 4, none⟩) hb1).trans d0, (HB5.out.cell (p := ⟨b, off + k * 4 + 1 + 1, none⟩) hb1).trans d2⟩
        clear hK K
        refine wpAnyH_ready (rs := [18]) (by kernel_rfl) (by simp) ?_
        refine AllReadyH.cons rfl (fun K hK => ?_) AllReadyH.nil
        go_simp
        go_at_call 69
        refine (put_any w.heap.size _ (putL X r.X) (r.X + r.W) _ (by omega) HO5.out HPX2.out (by omega)).mono ?_
        rintro e w6 ⟨v6, rfl, ho6, hb6⟩
        obtain ⟨A6, c6, hv6, _⟩ := own_form ho6
        subst hv6
        have HO6 := Lib.hid ho6
        have HB6 := Lib.hid (bstep HB5.out hb6)
        have hs6 := HB6.out.size
        clear ho6 hb6
        refine hK.out _ _ ?_ (fun hHeld => ?_)
        · (try dsimp only)
          exact ⟨(HB6.out.cell (p := ⟨b, off + k * 4, none⟩) hb1).trans d0, (HB6.out.cell (p := ⟨b, off + k * 4 + 1 + 1, none⟩) hb1).trans d2⟩
        clear hK K
        refine Ln.take_at 19 4 (.slice A6 (putL (putL X r.X) (r.X + r.W)).length c6) rfl rfl (by kernel_rfl) (by kernel_rfl) (by kernel_rfl) (fun _ _ _ h => h) (Or.inl ⟨by rfl, ?_⟩) (by assumption) ?_
        · intro W0 hSw
          (try dsimp only at hSw)
          go_simp
        simp only [List.set_cons_zero, List.set_cons_succ]
        refine wpAnyH_done (by kernel_rfl) ?_ _
        refine NoPanic.normal ?_
        have e0 := (HB6.out.cell (p := ⟨b, off + k * 4 + 1, none⟩) hb1).trans d1
        have e1 := (HB6.out.cell (p := ⟨b, off + k * 4 + 1 + 1 + 1, none⟩) hb1).trans d3
        have OY6 := Lib.hid (ownsRow_below OY.out HB6.out)
        have hb6 : b < w6.heap.size := by omega
        have hv6 : w.heap.size ≤ w6.heap.size := by omega
        clear d0 d1 d2 d3
        go_upto_region 7 with fail
        refine wp_region_noPanic ?_
        refine wp_region_held_drew (S := (fun w' => w'.cell? ⟨b, off + k * 4 + 1, none⟩ = some (.int .i64 r.Y) ∧ w'.cell? ⟨b, off + k * 4 + 1 + 1 + 1, none⟩ = some (.int .i64 r.H))) (by kernel_rfl) ?_ (fun hHeld => ?_)
        · (try dsimp only)
          exact ⟨e0, e1⟩
        refine Ln.take_at 0 37 (.slice Ay Y.length cy) rfl rfl (by kernel_rfl) (by kernel_rfl) (by kernel_rfl) (fun _ _ _ h => h) (Or.inl ⟨by rfl, ?_⟩) (by assumption) ?_
        · intro W0 hSw
          (try dsimp only at hSw)
          go_simp
        simp only [List.set_cons_zero, List.set_cons_succ]
        refine Ln.take_at 1 38 (.slice (some ⟨b, off, none⟩) n c) rfl rfl (by kernel_rfl) (by kernel_rfl) (by kernel_rfl) (fun _ _ _ h => h) (Or.inl ⟨by rfl, ?_⟩) (by assumption) ?_
        · intro W0 hSw
          (try dsimp only at hSw)
          go_simp
        simp only [List.set_cons_zero, List.set_cons_succ]
        refine Ln.take_at 2 39 (.int .i64 k) rfl rfl (by kernel_rfl) (by kernel_rfl) (by kernel_rfl) (fun _ _ _ h => h) (Or.inl ⟨by rfl, ?_⟩) (by assumption) ?_
        · intro W0 hSw
          (try dsimp only at hSw)
          go_simp
        simp only [List.set_cons_zero, List.set_cons_succ]
        refine Ln.take_at 3 40 (.pointer (some ⟨b, off + k * 4, none⟩)) rfl rfl (by kernel_rfl) (by kernel_rfl) (by kernel_rfl) (fun _ _ _ h => h) (Or.inl ⟨by rfl, ?_⟩) (by assumption) ?_
        · intro W0 hSw
          (try dsimp only at hSw)
          go_simp
        simp only [List.set_cons_zero, List.set_cons_succ]
        refine Ln.take_at 4 41 (.pointer (some ⟨b, off + k * 4 + 1, none⟩)) rfl rfl (by kernel_rfl) (by kernel_rfl) (by kernel_rfl) (fun _ _ _ h => h) (Or.inl ⟨by rfl, ?_⟩) (by assumption) ?_
        · intro W0 hSw
          (try dsimp only at hSw)
          go_simp
        simp only [List.set_cons_zero, List.set_cons_succ]
        refine Ln.take_at 5 42 (.int .i64 r.Y) rfl rfl (by kernel_rfl) (by kernel_rfl) (by kernel_rfl) (fun _ _ _ h => h) (Or.inl ⟨by rfl, ?_⟩) (by assumption) ?_
        · intro W0 hSw
          (try dsimp only at hSw)
          go_simp
        simp only [List.set_cons_zero, List.set_cons_succ]
        refine Ln.take_at 7 44 (.slice (some ⟨b, off, none⟩) n c) rfl rfl (by kernel_rfl) (by kernel_rfl) (by kernel_rfl) (fun _ _ _ h => h) (Or.inl ⟨by rfl, ?_⟩) (by assumption) ?_
        · intro W0 hSw
          (try dsimp only at hSw)
          go_simp
        simp only [List.set_cons_zero, List.set_cons_succ]
        refine Ln.take_at 8 45 (.int .i64 k) rfl rfl (by kernel_rfl) (by kernel_rfl) (by kernel_rfl) (fun _ _ _ h => h) (Or.inl ⟨by rfl, ?_⟩) (by assumption) ?_
        · intro W0 hSw
          (try dsimp only at hSw)
          go_simp
        simp only [List.set_cons_zero, List.set_cons_succ]
        refine Ln.take_at 9 46 (.pointer (some ⟨b, off + k * 4, none⟩)) rfl rfl (by kernel_rfl) (by kernel_rfl) (by kernel_rfl) (fun _ _ _ h => h) (Or.inl ⟨by rfl, ?_⟩) (by assumption) ?_
        · intro W0 hSw
          (try dsimp only at hSw)
          go_simp
        simp only [List.set_cons_zero, List.set_cons_succ]
        refine Ln.take_at 10 47 (.pointer (some ⟨b, off + k * 4 + 1, none⟩)) rfl rfl (by kernel_rfl) (by kernel_rfl) (by kernel_rfl) (fun _ _ _ h => h) (Or.inl ⟨by rfl, ?_⟩) (by assumption) ?_
        · intro W0 hSw
          (try dsimp only at hSw)
          go_simp
        simp only [List.set_cons_zero, List.set_cons_succ]
        refine Ln.take_at 11 48 (.int .i64 r.Y) rfl rfl (by kernel_rfl) (by kernel_rfl) (by kernel_rfl) (fun _ _ _ h => h) (Or.inl ⟨by rfl, ?_⟩) (by assumption) ?_
        · intro W0 hSw
          (try dsimp only at hSw)
          go_simp
        simp only [List.set_cons_zero, List.set_cons_succ]
        refine Ln.take_at 12 49 (.slice (some ⟨b, off, none⟩) n c) rfl rfl (by kernel_rfl) (by kernel_rfl) (by kernel_rfl) (fun _ _ _ h => h) (Or.inl ⟨by rfl, ?_⟩) (by assumption) ?_
        · intro W0 hSw
          (try dsimp only at hSw)
          go_simp
        simp only [List.set_cons_zero, List.set_cons_succ]
        refine Ln.take_at 13 50 (.int .i64 k) rfl rfl (by kernel_rfl) (by kernel_rfl) (by kernel_rfl) (fun _ _ _ h => h) (Or.inl ⟨by rfl, ?_⟩) (by assumption) ?_
        · intro W0 hSw
          (try dsimp only at hSw)
          go_simp
        simp only [List.set_cons_zero, List.set_cons_succ]
        refine Ln.take_at 14 51 (.pointer (some ⟨b, off + k * 4, none⟩)) rfl rfl (by kernel_rfl) (by kernel_rfl) (by kernel_rfl) (fun _ _ _ h => h) (Or.inl ⟨by rfl, ?_⟩) (by assumption) ?_
        · intro W0 hSw
          (try dsimp only at hSw)
          go_simp
        simp only [List.set_cons_zero, List.set_cons_succ]
        refine Ln.take_at 15 52 (.pointer (some ⟨b, off + k * 4 + 1 + 1 + 1, none⟩)) rfl rfl (by kernel_rfl) (by kernel_rfl) (by kernel_rfl) (fun _ _ _ h => h) (Or.inl ⟨by rfl, ?_⟩) (by assumption) ?_
        · intro W0 hSw
          (try dsimp only at hSw)
          go_simp
        simp only [List.set_cons_zero, List.set_cons_succ]
        refine Ln.take_at 16 53 (.int .i64 r.H) rfl rfl (by kernel_rfl) (by kernel_rfl) (by kernel_rfl) (fun _ _ _ h => h) (Or.inl ⟨by rfl, ?_⟩) (by assumption) ?_
        · intro W0 hSw
          (try dsimp only at hSw)
          go_simp
        simp only [List.set_cons_zero, List.set_cons_succ]
        refine Ln.take_at 17 54 (.int .i64 (r.Y + r.H)) rfl rfl (by kernel_rfl) (by kernel_rfl) (by kernel_rfl) (fun _ _ _ h => h) (Or.inl ⟨by rfl, ?_⟩) (by assumption) ?_
        · intro W0 hSw
          (try dsimp only at hSw)
          go_simp
        simp only [List.set_cons_zero, List.set_cons_succ]
        refine wpAnyH_ready (rs := [6]) (by kernel_rfl) (by simp) ?_
        refine AllReadyH.cons rfl (fun K hK => ?_) AllReadyH.nil
        go_simp
        go_at_call 69
        refine (put_any w.heap.size _ Y r.Y _ (by omega) OY6.out.drew HPY.out hv6).mono ?_
        rintro e w5b ⟨v5, rfl, ho5, hb5⟩
        obtain ⟨A5b, c5b, hv5, _⟩ := own_form ho5
        subst hv5
        have HO5b := Lib.hid ho5
        have HB5b := Lib.hid (bstep ((bre w6).drew) hb5)
        have hs5b := HB5b.out.size
        clear ho5 hb5
        refine hK.out _ _ ?_ (fun hHeld => ?_)
        · (try dsimp only)
          exact ⟨(HB5b.out.cell (p := ⟨b, off + k * 4 + 1, none⟩) hb6).trans e0, (HB5b.out.cell (p := ⟨b, off + k * 4 + 1 + 1 + 1, none⟩) hb6).trans e1⟩
        clear hK K
        refine wpAnyH_ready (rs := [18]) (by kernel_rfl) (by simp) ?_
        refine AllReadyH.cons rfl (fun K hK => ?_) AllReadyH.nil
        go_simp
        go_at_call 69
        refine (put_any w.heap.size _ (putL Y r.Y) (r.Y + r.H) _ (by omega) HO5b.out HPY2.out (by omega)).mono ?_
        rintro e w6b ⟨v6, rfl, ho6, hb6⟩
        obtain ⟨A6b, c6b, hv6, _⟩ := own_form ho6
        subst hv6
        have HO6b := Lib.hid ho6
        have HB6b := Lib.hid (bstep HB5b.out hb6)
        have hs6b := HB6b.out.size
        clear ho6 hb6
        refine hK.out _ _ ?_ (fun hHeld => ?_)
        · (try dsimp only)
          exact ⟨(HB6b.out.cell (p := ⟨b, off + k * 4 + 1, none⟩) hb6).trans e0, (HB6b.out.cell (p := ⟨b, off + k * 4 + 1 + 1 + 1, none⟩) hb6).trans e1⟩
        clear hK K
        refine Ln.take_at 19 5 (.slice A6b (putL (putL Y r.Y) (r.Y + r.H)).length c6b) rfl rfl (by kernel_rfl) (by kernel_rfl) (by kernel_rfl) (fun _ _ _ h => h) (Or.inl ⟨by rfl, ?_⟩) (by assumption) ?_
        · intro W0 hSw
          (try dsimp only at hSw)
          go_simp
        simp only [List.set_cons_zero, List.set_cons_succ]
        refine wpAnyH_done (by kernel_rfl) ?_ _
        refine NoPanic.normal ?_
        go_wp2_with fail
        go_roundw
        case rel => exact ⟨k + 1, by go_num, by omega, by rw [HXS.out]; exact ownsRow_below HO6.out HB6b.out, by rw [HYS.out]; exact HO6b.out, bstep (bstep HB1.out HB6.out) HB6b.out⟩
        case measure => simp [intOf]; omega
    · obtain rfl : k = n := by omega
      have e : rs.take k = rs := List.take_of_length_le (by rw [HL.out]; exact Nat.le_refl _)
      rw [e] at hox hoy
      have HOX := Lib.hid hox
      have HOY := Lib.hid hoy
      clear hox hoy hB e
      go_wp2_with fail
      go_ret2
      exact ⟨_, _, rfl, HOX.out, HOY.out, HB.out⟩

end Go.Proofs.Ytcdecglbkcllaaa

namespace Go.Proofs.Ytcdecglbkcllaaa
open Go.RowKit

/-- has one of the first k a place? -/
theorem cov_take {l : List RC} {k : Nat} {r : RC} (h : l[k]? = some r) (x y : Int) : covB (l.take (k + 1)) x y = (covB (l.take k) x y || (r.cnt && (decide (r.X ≤ x) && decide (x < r.X + r.W) && (decide (r.Y ≤ y) && decide (y < r.Y + r.H))))) := by
  rw [List.take_add_one, h]
  simp [covB]
theorem inB_eq (r : RC) (x y : Int) : Ln.inB r.X r.Y r.W r.H x y = (decide (r.X ≤ x) && decide (x < r.X + r.W) && (decide (r.Y ≤ y) && decide (y < r.Y + r.H))) := by
  rw [Bool.eq_iff_iff]
  simp only [Ln.inB, Bool.and_eq_true, decide_eq_true_eq]
  omega

set_option maxRecDepth 100000 in
set_option maxHeartbeats 2000000 in
theorem rhas_any (A : Option Addr) (n c : Nat) (rs : List RC) (x y : Int) (w : World) (hn : n ≤ 1000000000) (hr : RdR w A n rs) :
    Calls Try.prog 70 #[.slice A n c, .int .i64 x, .int .i64 y] w fun e w' => e = .returned (.bool (covB rs x y)) ∧ Below w.heap.size w w' := by
  have HR := Lib.hid hr
  have HL := Lib.hid hr.1
  clear hr
  go_enter Try.func70, Try.ntmps70
  go_wp2_with fail
  go_loopw [7] (fun i wr => ∃ k : Nat, i = .int .i64 k ∧ k ≤ n ∧ covB (rs.take k) x y = false ∧ Below w.heap.size w wr) (fun i _ => n - (intOf i).toNat)
  case atStart => exact ⟨0, rfl, by omega, by simp [covB], bre w⟩
  case round =>
    obtain ⟨k, rfl, hk, hcv, hB⟩ := hrel
    have HB := Lib.hid hB
    have HCV := Lib.hid hcv
    by_cases hlt : k < n
    · obtain ⟨r, hr⟩ : ∃ r, rs[k]? = some r := ⟨_, List.getElem?_eq_getElem (by have := HL.out; omega)⟩
      obtain ⟨b, off, rfl, hb, hcl⟩ := (HR.out.below hB).2 (by omega)
      obtain ⟨c0, c1, c2, c3⟩ := hcl k r hr
      have HT := Lib.hid (cov_take hr x y)
      have k1 : (k : Int) < (n : Int) := by omega
      have k0 : (0 : Int) ≤ (k : Int) := by omega
      clear hB hr hcl hcv
      cases hc : r.cnt
      · have HC := Lib.hid ((cntB_eq r).trans hc)
        have HC2 := Lib.hid hc
        clear hc
        go_wp2_with (go_at_call 20; refine (Ln.rcounts_any _ _ _ _ _).mono ?_; rintro e w' ⟨rfl, rfl⟩; rw [HC.out])
        go_roundw
        case rel => exact ⟨k + 1, by go_num, by omega, by rw [HT.out, HCV.out, HC2.out]; rfl, bal HB.out _⟩
        case measure => simp [intOf]; omega
      · have hbd := (fun h => h) hc
        have HC := Lib.hid ((cntB_eq r).trans hc)
        have HC2 := Lib.hid hc
        have hbb : -1048576 ≤ r.X ∧ 0 < r.W ∧ r.X + r.W ≤ 1048576 ∧ -1048576 ≤ r.Y ∧ 0 < r.H ∧ r.Y + r.H ≤ 1048576 := by
          unfold RC.cnt at hc
          rw [Bool.and_eq_true, fits_iff, fits_iff] at hc
          omega
        clear hc hbd
        cases hin : Ln.inB r.X r.Y r.W r.H x y
        · have HI := Lib.hid hin
          have HI2 := Lib.hid ((inB_eq r x y).symm.trans hin)
          clear hin
          go_wp2_with (first | (go_at_call 20; refine (Ln.rcounts_any _ _ _ _ _).mono ?_; rintro e w' ⟨rfl, rfl⟩; rw [HC.out]) | (go_at_call 21; refine (Ln.rin_any _ _ _ _ _ _ _ (by omega) (by omega) (by omega) (by omega)).mono ?_; rintro e w' ⟨rfl, rfl⟩; rw [HI.out]))
          go_roundw
          case rel => exact ⟨k + 1, by go_num, by omega, by rw [HT.out, HCV.out, HC2.out, HI2.out]; rfl, bal (bal HB.out _) _⟩
          case measure => simp [intOf]; omega
        · have HI := Lib.hid hin
          have HI2 := Lib.hid ((inB_eq r x y).symm.trans hin)
          have hall : covB rs x y = true := by
            have h1 : covB (rs.take (k + 1)) x y = true := by rw [HT.out, HC2.out, HI2.out]; simp
            rw [cov_iff] at h1 ⊢
            obtain ⟨q, hq, h2⟩ := h1
            obtain ⟨h3, h4⟩ := List.mem_filter.1 hq
            exact ⟨q, List.mem_filter.2 ⟨List.mem_of_mem_take h3, h4⟩, h2⟩
          have HA := Lib.hid hall
          clear hin hall
          go_wp2_with (first | (go_at_call 20; refine (Ln.rcounts_any _ _ _ _ _).mono ?_; rintro e w' ⟨rfl, rfl⟩; rw [HC.out]) | (go_at_call 21; refine (Ln.rin_any _ _ _ _ _ _ _ (by omega) (by omega) (by omega) (by omega)).mono ?_; rintro e w' ⟨rfl, rfl⟩; rw [HI.out]))
          go_ret
          exact ⟨ret_bool HA.out.symm, bal (bal HB.out _) _⟩
    · obtain rfl : k = n := by omega
      have HA := Lib.hid (show covB rs x y = false by rw [← hcv, List.take_of_length_le (by rw [HL.out]; exact Nat.le_refl _)])
      clear hB hcv
      go_wp2_with fail
      go_ret
      exact ⟨ret_bool HA.out.symm, HB.out⟩

/-- where rectangles begin, and how wide they are. -/
def xwL (l : List RC) : List (Int × Int) := l.map fun r => (r.X, r.W)
theorem xwL_take {l : List RC} {k : Nat} {r : RC} (h : l[k]? = some r) : xwL (l.take (k + 1)) = xwL (l.take k) ++ [(r.X, r.W)] := by
  rw [List.take_add_one, h]
  simp [xwL]
theorem xwL_ne {l m : List RC} {k : Nat} {r q : RC} (hr : l[k]? = some r) (hq : m[k]? = some q) (h : ¬ (r.X = q.X ∧ r.W = q.W)) : decide (xwL l = xwL m) = false := by
  refine decide_eq_false fun e => h ?_
  have h1 : (xwL l)[k]? = some (r.X, r.W) := by simp [xwL, hr]
  have h2 : (xwL m)[k]? = some (q.X, q.W) := by simp [xwL, hq]
  rw [e, h2] at h1
  injection h1 with h1
  injection h1 with h3 h4
  exact ⟨h3.symm, h4.symm⟩

set_option maxRecDepth 100000 in
set_option maxHeartbeats 2000000 in
theorem ralike_any (A A' : Option Addr) (n n' c c' : Nat) (rs qs : List RC) (w : World) (hn : n ≤ 1000000000) (hn' : n' ≤ 1000000000) (hr : RdR w A n rs) (hq : RdR w A' n' qs) :
    Calls Try.prog 47 #[.slice A n c, .slice A' n' c'] w fun e w' => e = .returned (.bool (decide (xwL rs = xwL qs))) ∧ Below w.heap.size w w' := by
  have HR := Lib.hid hr
  have HQ := Lib.hid hq
  have HL := Lib.hid hr.1
  have HL' := Lib.hid hq.1
  by_cases hnn : n = n'
  · subst hnn
    clear hr hq hn'
    go_enter Try.func47, Try.ntmps47
    go_wp2_with fail
    go_loopw [5] (fun i wr => ∃ k : Nat, i = .int .i64 k ∧ k ≤ n ∧ xwL (rs.take k) = xwL (qs.take k) ∧ Below w.heap.size w wr) (fun i _ => n - (intOf i).toNat)
    case atStart => exact ⟨0, rfl, by omega, rfl, bre w⟩
    case round =>
      obtain ⟨k, rfl, hk, he, hB⟩ := hrel
      have HB := Lib.hid hB
      have HE := Lib.hid he
      by_cases hlt : k < n
      · obtain ⟨r, hr⟩ : ∃ r, rs[k]? = some r := ⟨_, List.getElem?_eq_getElem (by have := HL.out; omega)⟩
        obtain ⟨q, hq⟩ : ∃ q, qs[k]? = some q := ⟨_, List.getElem?_eq_getElem (by have := HL'.out; omega)⟩
        obtain ⟨b, off, rfl, hb, hcl⟩ := (HR.out.below hB).2 (by omega)
        obtain ⟨b', off', rfl, hb', hcl'⟩ := (HQ.out.below hB).2 (by omega)
        obtain ⟨c0, _, c2, _⟩ := hcl k r hr
        obtain ⟨d0, _, d2, _⟩ := hcl' k q hq
        have HT := Lib.hid (xwL_take hr)
        have HT' := Lib.hid (xwL_take hq)
        have HNE := Lib.hid (fun h => xwL_ne hr hq h)
        have k1 : (k : Int) < (n : Int) := by omega
        have k0 : (0 : Int) ≤ (k : Int) := by omega
        clear hB hr hq hcl hcl' he
        by_cases hx : r.X = q.X
        · have e1 : (r.X != q.X) = false := by simp [hx]
          by_cases hw : r.W = q.W
          · have e2 : (r.W != q.W) = false := by simp [hw]
            have HX := Lib.hid hx
            have HW := Lib.hid hw
            clear hx hw
            go_wp2_with fail
            go_quiet (fail)
            go_wp2_with fail
            go_roundw
            case rel => exact ⟨k + 1, by go_num, by omega, by rw [HT.out, HT'.out, HE.out, HX.out, HW.out], below_drewN HB.out _⟩
            case measure => simp [intOf]; omega
          · have e2 : (r.W != q.W) = true := by simp [hw]
            have HA := Lib.hid (HNE.out (fun h => hw h.2))
            clear hx hw HNE
            go_wp2_with fail
            go_quiet (fail)
            go_wp2_with fail
            go_ret
            exact ⟨ret_bool HA.out.symm, below_drewN HB.out _⟩
        · have e1 : (r.X != q.X) = true := by simp [hx]
          have HA := Lib.hid (HNE.out (fun h => hx h.1))
          clear hx HNE
          go_wp2_with fail
          go_quiet (fail)
          go_wp2_with fail
          go_ret
          exact ⟨ret_bool HA.out.symm, below_drewN HB.out _⟩
      · obtain rfl : k = n := by omega
        have HA := Lib.hid (show decide (xwL rs = xwL qs) = true from decide_eq_true (by rw [List.take_of_length_le (by rw [HL.out]; exact Nat.le_refl _), List.take_of_length_le (by rw [HL'.out]; exact Nat.le_refl _)] at he; exact he))
        clear hB he
        go_wp2_with fail
        go_ret
        exact ⟨ret_bool HA.out.symm, HB.out⟩
  · have HA := Lib.hid (show decide (xwL rs = xwL qs) = false from decide_eq_false (fun e => hnn (by have := congrArg List.length e; simp only [xwL, List.length_map] at this; have h1 := hr.1; have h2 := hq.1; omega)))
    have e1 : ((n : Int) != (n' : Int)) = true := by simp; omega
    clear hr hq hnn
    go_enter Try.func47, Try.ntmps47
    go_wp2_with fail
    go_ret
    exact ⟨ret_bool HA.out.symm, bre w⟩

end Go.Proofs.Ytcdecglbkcllaaa
