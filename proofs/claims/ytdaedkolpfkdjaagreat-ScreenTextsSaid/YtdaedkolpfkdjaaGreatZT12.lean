/-
  The walk of region.cuts: the places at which rectangles of several lists begin or end, rising, each once.
  Regions, plainly: where a region's rectangles begin and end is where those begin and end that it was made of; how many there are.
-/
import Derived.Test.YtdaedkolpfkdjaaGreatZT07
import Derived.Test.YtdaedkolpfkdjaaGreatZT11
section
namespace Go.Proofs.YtdaedkolpfkdjaaGreat
open Go.RowKit Go.Shelf Go.Lib Go.Sort

/-- a slice of rectangles in a list of such. -/
structure RL where
  A : Option Addr
  n : Nat
  c : Nat
  rs : List RC
def RL.v (q : RL) : Value := .slice q.A q.n q.c
/-- which of a rectangle's stretches a function tells: where it begins, and how many places it has. -/
def CallsF (f : Nat) : Prop := ∀ (args : Array Value) (W : World), (callFunc f args).run Tryz.prog W = .ok (.enter f args) W
def TellFn (f : Nat) (ta tn : RC → Int) : Prop := CallsF f ∧ ∀ (r : RC) (w : World), r.cnt = true → Calls Tryz.prog f #[.agg #[.int .i64 r.X, .int .i64 r.Y, .int .i64 r.W, .int .i64 r.H]] w fun e w' => e = .returned (.tuple #[.int .i64 (ta r), .int .i64 (tn r)]) ∧ Below w.heap.size w w'
def telL (ta tn : RC → Int) (rs : List RC) : List Int := rs.flatMap fun r => [ta r, ta r + tn r]
theorem telL_len (ta tn : RC → Int) (rs : List RC) : (telL ta tn rs).length = 2 * rs.length := by
  induction rs with
  | nil => rfl
  | cons r rs ih => simp [telL] at ih ⊢; omega
theorem telL_snoc (ta tn : RC → Int) (rs : List RC) (r : RC) : telL ta tn (rs ++ [r]) = telL ta tn rs ++ [ta r, ta r + tn r] := by simp [telL]
def allL (ta tn : RC → Int) (L : List RL) : List Int := L.flatMap fun q => telL ta tn q.rs
theorem allL_snoc (ta tn : RC → Int) (L : List RL) (q : RL) : allL ta tn (L ++ [q]) = allL ta tn L ++ telL ta tn q.rs := by simp [allL]
theorem allL_len (ta tn : RC → Int) (L : List RL) (B : Nat) (h : ∀ q ∈ L, q.rs.length ≤ B) : (allL ta tn L).length ≤ 2 * B * L.length := by
  induction L with
  | nil => simp [allL]
  | cons q L ih =>
    have h1 := ih (fun r hr => h r (List.mem_cons_of_mem _ hr))
    have h2 := h q (by simp)
    have h3 := telL_len ta tn q.rs
    have e : allL ta tn (q :: L) = telL ta tn q.rs ++ allL ta tn L := by simp [allL]
    rw [e, List.length_append, List.length_cons, Nat.mul_succ]
    omega
/-- a row of numbers of the call's own. -/
def OwnI (w : World) (base : Nat) (v : Value) (zs : List Int) : Prop := w.ownsRow base 3 1 v zs.length (I64 zs)
theorem rises_of {S zs ys : List Int} (hp : S.Perm zs) (h1 : ys.Pairwise (· < ·)) (h2 : ∀ y, y ∈ ys ↔ y ∈ S) : ys = risesOf zs :=
  rises_uniq h1 (rises_ok zs).1 (fun z => by rw [h2, (rises_ok zs).2]; exact hp.mem_iff)
/-- the first cells of a block are written. -/
theorem blk_puts {w W : World} {g : Nat} {t : TypeId} {cs : List Value} (h : Blk w g t cs.toArray) (hb : Below w.heap.size w W) (vs : List Value) (hl : vs.length ≤ cs.length) : ∃ rest, Blk (W.setCells g 0 vs) g t (vs ++ rest).toArray ∧ vs.length + rest.length = cs.length := by
  have key : ∀ (vs : List Value) (o : Nat) (W : World) (cs : List Value), Blk W g t cs.toArray → o + vs.length ≤ cs.length → Blk (W.setCells g o vs) g t (cs.take o ++ vs ++ cs.drop (o + vs.length)).toArray := by
    intro vs
    induction vs with
    | nil => intro o W cs h _; simpa [World.setCells] using h
    | cons v vs ih =>
      intro o W cs h hl
      simp only [List.length_cons] at hl
      have h1 : Blk (W.setCell ⟨g, o, none⟩ v) g t (cs.set o v).toArray := by simpa using h.set_ o v
      have h2 := ih (o + 1) _ _ h1 (by rw [List.length_set]; omega)
      have e : (cs.set o v).take (o + 1) ++ vs ++ (cs.set o v).drop (o + 1 + vs.length) = cs.take o ++ v :: vs ++ cs.drop (o + (vs.length + 1)) := by
        rw [List.take_add_one, List.take_set_of_le (Nat.le_refl _), List.getElem?_set_self (by omega), List.drop_set_of_lt (by omega), show o + 1 + vs.length = o + (vs.length + 1) from by omega]
        simp
      rw [e] at h2
      exact h2
  have h1 := key vs 0 W cs (h.belowS hb) (by omega)
  exact ⟨cs.drop vs.length, by simpa using h1, by rw [List.length_drop]; omega⟩
theorem own_I64' {w : World} {B n : Nat} {e : TypeId} {v : Value} {zs : List Int} (h : w.ownsRow B e 1 v n (I64 zs)) (hn : 0 < n) : ∃ g c, v = .slice (some ⟨g, 0, none⟩) n c ∧ B ≤ g ∧ n ≤ c ∧ c ≤ maxLen ∧ ∃ rest, Blk w g e (I64 zs ++ rest).toArray ∧ n + rest.length = c := by
  rcases h.2 with ⟨_, h0⟩ | ⟨g, cap, cur, e1, hb, hg, h1, h2, h3, h4⟩
  · omega
  · refine ⟨g, cap, e1, hb, h1, h2, cur.toList.drop (n * 1), ?_, ?_⟩
    · rw [← h4, List.take_append_drop]
      exact hg
    · rw [List.length_drop, Array.length_toList, h3]
      omega
theorem own_of_blk {w : World} {base g e c : Nat} {zs : List Int} {rest : List Value} (h : Blk w g e (I64 zs ++ rest).toArray) (hb : base ≤ g) (hc : zs.length + rest.length = c) (hm : c ≤ maxLen) : w.ownsRow base e 1 (.slice (some ⟨g, 0, none⟩) zs.length c) zs.length (I64 zs) := by
  refine ⟨by simp [I64], .inr ⟨g, c, _, rfl, hb, h, by omega, hm, ?_, ?_⟩⟩
  · simp [I64]; omega
  · simp [I64]
def EndC (w : World) (zs : List Int) (e : Ending) (w' : World) : Prop := ∃ A c, e = .returned (.slice A (risesOf zs).length c) ∧ OwnI w' w.heap.size (.slice A (risesOf zs).length c) (risesOf zs) ∧ Below w.heap.size w w'

set_option maxRecDepth 100000 in
set_option maxHeartbeats 4000000 in
theorem cuts_any (f : Nat) (ta tn : RC → Int) (gl m cl : Nat) (L : List RL) (w : World) (hf : TellFn f ta tn) (ht : ∀ r : RC, r.cnt = true → (-1048576 ≤ ta r ∧ ta r ≤ 1048576) ∧ -1048576 ≤ ta r + tn r ∧ ta r + tn r ≤ 1048576)
    (hm : L.length = m) (hm2 : m ≤ 1000) (hB : Blk w gl 31 (L.map RL.v).toArray) (hL : ∀ q ∈ L, RdR w q.A q.n q.rs ∧ q.n ≤ 1000000 ∧ ∀ r ∈ q.rs, r.cnt = true) :
    Calls Tryz.prog 182 #[.func (.func f) #[] #[], .slice (some ⟨gl, 0, none⟩) m cl] w fun e w' => EndC w (allL ta tn L) e w' := by
  obtain ⟨i0, hi0, hz0, hz1, hz2⟩ := info_parts Tryz.infoI
  have HF := Lib.hid hf
  have HTB := Lib.hid ht
  have HM := Lib.hid hm
  have HBL := Lib.hid hB
  have HL := Lib.hid hL
  clear hf ht hm hB hL
  go_enter Tryz.func182, Tryz.ntmps182
  go_wp2_with fail
  go_loopw [14, 5] (fun i v wr => ∃ j : Nat, i = .int .i64 j ∧ j ≤ m ∧ OwnI wr w.heap.size v (allL ta tn (L.take j)) ∧ Below w.heap.size w wr) (fun i _ _ => m - (intOf i).toNat)
  case atStart => exact ⟨0, rfl, by omega, World.ownsRow_nil _ _ _ _, bre w⟩
  case round =>
    obtain ⟨j, rfl, hj, ho, hB⟩ := hrel
    have HB := Lib.hid hB
    have HO := Lib.hid ho
    clear hB ho
    by_cases hlt : j < m
    · obtain ⟨q, hq⟩ : ∃ q, L[j]? = some q := ⟨_, List.getElem?_eq_getElem (by rw [HM.out]; exact hlt)⟩
      obtain ⟨hqr, hqn, hqc⟩ := HL.out q (List.mem_of_getElem? hq)
      have hcell : wr.cell? ⟨gl, j, none⟩ = some (.slice q.A q.n q.c) := (HBL.out.belowS HB.out).cellV (by simp [hq, RL.v])
      have HQR := Lib.hid hqr
      have HQC := Lib.hid hqc
      have HJT := Lib.hid (show L.take (j + 1) = L.take j ++ [q] by rw [List.take_add_one, hq]; rfl)
      have hal := allL_len ta tn (L.take j) 1000000 (fun s hs => by
        obtain ⟨h1, h2, _⟩ := HL.out s (List.mem_of_mem_take hs)
        rw [h1.1]; exact h2)
      rw [List.length_take, HM.out] at hal
      have hal2 : (allL ta tn (L.take j)).length ≤ 2000000000 := by
        have : 2 * 1000000 * min j m ≤ 2 * 1000000 * 1000 := Nat.mul_le_mul_left _ (by omega)
        omega
      obtain ⟨zs, hzs⟩ : ∃ zs, allL ta tn (L.take j) = zs := ⟨_, rfl⟩
      have ho := HO.out
      rw [hzs] at ho hal2
      have HO := Lib.hid ho
      have HZS := Lib.hid hzs
      obtain ⟨A, n, c, rs⟩ := q
      dsimp only at hcell hqn hqr
      have hrl := hqr.1
      have k1 : (j : Int) < (m : Int) := by omega
      have k0 : (0 : Int) ≤ (j : Int) := by omega
      clear hq hqr hqc hal hzs ho
      go_wp2_with fail
      go_loopw [20, 5] (fun i v wr => ∃ k : Nat, i = .int .i64 k ∧ k ≤ n ∧ OwnI wr w.heap.size v (zs ++ telL ta tn (rs.take k)) ∧ Below w.heap.size w wr) (fun i _ _ => n - (intOf i).toNat)
      case atStart => exact ⟨0, rfl, by omega, by simpa [telL] using HO.out, HB.out⟩
      case round =>
        obtain ⟨k, rfl, hk, ho2, hB2⟩ := hrel
        have HO2 := Lib.hid ho2
        have HB2 := Lib.hid hB2
        clear ho2 hB2
        by_cases hlt2 : k < n
        · obtain ⟨r, hr⟩ : ∃ r, rs[k]? = some r := ⟨_, List.getElem?_eq_getElem (by rw [hrl]; exact hlt2)⟩
          obtain ⟨b, off, rfl, hbl, hc⟩ := (HQR.out.below HB2.out).2 (by omega)
          obtain ⟨x0, x1, x2, x3⟩ := hc k r hr
          have hrc := HQC.out r (List.mem_of_getElem? hr)
          have HRC := Lib.hid hrc
          obtain ⟨⟨ta0, ta1⟩, ta2, ta3⟩ := HTB.out r hrc
          have HTK := Lib.hid (show rs.take (k + 1) = rs.take k ++ [r] by rw [List.take_add_one, hr]; rfl)
          have k3 : (0 : Int) ≤ (k : Int) := by omega
          have k2 : (k : Int) < (n : Int) := by omega
          clear hc hr hrc
          go_upto_region 8 with fail
          have BV := Lib.hid (bstep HB2.out (bal (bre wr) (.cells #[.int .i64 r.X, .int .i64 r.Y, .int .i64 r.W, .int .i64 r.H] 103)))
          have OV := Lib.hid (HO2.out.alloc (.cells #[.int .i64 r.X, .int .i64 r.Y, .int .i64 r.W, .int .i64 r.H] 103))
          have bx := Blk.new wr 103 #[.int .i64 r.X, .int .i64 r.Y, .int .i64 r.W, .int .i64 r.H]
          obtain ⟨V, hV⟩ : ∃ V, wr.alloc (.cells #[.int .i64 r.X, .int .i64 r.Y, .int .i64 r.W, .int .i64 r.H] 103) = V := ⟨_, rfl⟩
          obtain ⟨gb, hgb⟩ : ∃ gb, wr.heap.size = gb := ⟨_, rfl⟩
          rw [hV] at BV OV bx ⊢
          rw [hgb] at bx ⊢
          have v0 := bx.cellV (i := 0) (v := .int .i64 r.X) rfl
          have v1 := bx.cellV (i := 1) (v := .int .i64 r.Y) rfl
          have v2 := bx.cellV (i := 2) (v := .int .i64 r.W) rfl
          have v3 := bx.cellV (i := 3) (v := .int .i64 r.H) rfl
          clear hV hgb x0 x1 x2 x3 bx
          have hcf := HF.out.1
          unfold CallsF at hcf
          go_wp2_with fail
          refine (HF.out.2 r _ HRC.out).mono ?_
          rintro e w3 ⟨rfl, hb3⟩
          have BV3 := Lib.hid (bstep BV.out hb3)
          have OV3 := Lib.hid (ownsRow_below OV.out hb3)
          have vs := BV3.out.size
          have hln : (zs ++ telL ta tn (rs.take k)).length = zs.length + 2 * k := by rw [List.length_append, telL_len, List.length_take, hrl, Nat.min_eq_left hk]
          have HLN := Lib.hid hln
          clear v0 v1 v2 v3 hb3 hcf
          go_wp2_with (at_builtin; refine wpList_append_own _ rfl _ _ 243 rfl w.heap.size 3 i0 _ 1 8 Tryz.underlying243 hi0 hz0 hz1 hz2 rfl (by decide) _ _ _ rfl (OV3.out.alloc _) ⟨w3.heap.size, 0, none⟩ 2 2 [.int .i64 (ta r), .int .i64 (ta r + tn r)] rfl rfl (two_newI _ _ _ _) (by simp [Value.oneCell']) (by rw [HLN.out]; simp only [maxLen]; omega) (by omega) (by simp; omega) ?_; intro v' w4 hown' hgrow _; have HO4 := Lib.hid hown'; have hB4 : Below w.heap.size w w4 := (BV3.out.alloc BV3.out.size _).grown hgrow (by simp; omega) (own_ge OV3.out); have HB4 := Lib.hid hB4; clear hown' hgrow hB4)
          go_roundw
          case rel =>
            refine ⟨k + 1, by go_num, by omega, ?_, HB4.out⟩
            have h := HO4.out
            unfold OwnI
            rw [HTK.out, telL_snoc, ← List.append_assoc, I64, List.map_append, List.length_append]
            exact h
          case measure => simp [intOf]; omega
        · obtain rfl : k = n := by omega
          have k2 : ¬ (k : Int) < (k : Int) := by omega
          have htk : rs.take k = rs := List.take_of_length_le (by rw [hrl]; exact Nat.le_refl _)
          have HTK := Lib.hid htk
          clear htk
          go_wp2_with fail
          go_roundw
          case rel => exact ⟨j + 1, by go_num, by omega, by rw [HJT.out, allL_snoc, HZS.out]; have := HO2.out; rw [HTK.out] at this; exact this, HB2.out⟩
          case measure => simp [intOf]; omega
    · obtain rfl : j = m := by omega
      have k1 : ¬ (j : Int) < (j : Int) := by omega
      have htk : L.take j = L := List.take_of_length_le (by rw [HM.out]; exact Nat.le_refl _)
      have hal := allL_len ta tn L 1000000 (fun s hs => by
        obtain ⟨h1, h2, _⟩ := HL.out s hs
        rw [h1.1]; exact h2)
      have ho := HO.out
      rw [htk] at ho
      have hal2 : (allL ta tn L).length ≤ 2000000000 := by
        have : 2 * 1000000 * L.length ≤ 2 * 1000000 * 1000 := Nat.mul_le_mul_left _ (by rw [HM.out]; omega)
        omega
      obtain ⟨zs, hzs⟩ : ∃ zs, allL ta tn L = zs := ⟨_, rfl⟩
      rw [hzs] at ho hal2
      have HZS := Lib.hid hzs
      obtain ⟨n, hn⟩ : ∃ n, zs.length = n := ⟨_, rfl⟩
      unfold OwnI at ho
      rw [hn] at ho hal2
      have HN := Lib.hid hn
      clear htk hal hzs HO
      rcases Nat.eq_zero_or_pos n with h0 | h0
      · subst h0
        have hz : zs = [] := List.eq_nil_of_length_eq_zero HN.out
        obtain ⟨A, c, rfl, hc⟩ := own_form ho
        have HO := Lib.hid ho
        have HZ := Lib.hid hz
        clear ho hz
        go_wp2_with fail
        refine (Tryz.slices_Sort_int_none A c _).mono ?_
        rintro e w5 ⟨rfl, rfl⟩
        go_wp2_with fail
        refine (Tryz.slices_Compact_int_empty A c _).mono ?_
        rintro e w6 ⟨rfl, rfl⟩
        go_wp2_with fail
        go_ret
        rw [HZS.out, HZ.out]
        exact ⟨A, c, rfl, by have := HO.out; rw [HZ.out] at this; exact this, HB.out⟩
      · obtain ⟨g, cap, hv, hgg, hcap, hcm, rest, hb, hrest⟩ := own_I64' ho h0
        subst hv
        have hms := hcm
        unfold maxLen at hms
        have HBK := Lib.hid hb
        have HCM := Lib.hid hcm
        clear ho hb hcm
        go_wp2_with fail
        have hS := Tryz.slices_Sort_int g 0 cap zs wr (holds_I64 HBK.out) HBK.out.lt (by rw [HN.out]; omega)
        rw [HN.out] at hS
        refine hS.mono ?_
        rintro e w5 ⟨rfl, mm, os, hw5⟩
        obtain ⟨S, hSs⟩ : ∃ S, zs.mergeSort (fun x y => decide (x ≤ y)) = S := ⟨_, rfl⟩
        rw [hSs] at hw5
        have hperm : S.Perm zs := by rw [← hSs]; exact List.mergeSort_perm _ _
        have hsort : S.Pairwise (· ≤ ·) := by
          rw [← hSs]
          have := List.pairwise_mergeSort (le := fun x y : Int => decide (x ≤ y)) (by intro a b c h1 h2; simp at *; omega) (by intro a b; simp; omega) zs
          exact this.imp (by intro a b h; simpa using h)
        have hSl : S.length = n := by rw [hperm.length_eq, HN.out]
        obtain ⟨k5, k6⟩ := sort_worldI (n := mm) HBK.out S.toArray (by rw [List.size_toArray, hSl, HN.out]) os
        rw [← hw5] at k5 k6
        have HB5 := Lib.hid k5
        have B5 : Hid (Below w.heap.size w w5) := Lib.hid (HB.out.grown k6 HB.out.size (fun q e => by cases e; exact hgg))
        have HSL := Lib.hid hSl
        have HSO := Lib.hid hsort
        have HPE := Lib.hid hperm
        clear hS hw5 hSs hperm hsort hSl k5 k6
        go_wp2_with fail
        have hcell : ∀ j, j < S.length → w5.cell? ⟨g, 0 + j, none⟩ = some (.int .i64 (S.getD j 0)) := fun j hj => by
          rw [Nat.zero_add]
          refine HB5.out.cellV ?_
          simp only [List.getElem?_toArray, I64]
          rw [List.getElem?_append_left (by simpa using hj), List.getElem?_map, List.getElem?_eq_getElem hj, List.getD_eq_getElem?_getD, List.getElem?_eq_getElem hj]
          rfl
        have hC := Tryz.slices_Compact_int_cells g 0 n cap S w5 (by rw [HSL.out]; exact Nat.le_refl _) (by omega) hcap hcell (fun j _ => HB5.out.frozen _)
        rw [List.take_of_length_le (by rw [HSL.out]; exact Nat.le_refl _)] at hC
        obtain ⟨c1, c2⟩ := compact_rises HSO.out
        obtain ⟨ys, hys⟩ : ∃ ys, Lib.compact S = ys := ⟨_, rfl⟩
        have hyl : ys.length ≤ n := by rw [← hys, ← HSL.out]; exact Lib.compact_length_le S
        rw [hys] at hC c1 c2
        have hyr : ys = risesOf zs := rises_of HPE.out c1 c2
        refine hC.mono ?_
        rintro e w6 ⟨rfl, q, hw6⟩
        have HYR := Lib.hid hyr
        have HW6 := Lib.hid hw6
        clear hC c1 c2 hys hcell hw6 hyr
        go_wp2_with fail
        go_ret
        unfold EndC
        rw [HZS.out, ← HYR.out]
        refine ⟨some ⟨g, 0, none⟩, cap, rfl, ?_, ?_⟩
        · rw [HW6.out]
          have hvl : ((ys ++ List.replicate (n - ys.length) 0).map (Value.int .i64)).length = n := by rw [List.length_map, List.length_append, List.length_replicate]; omega
          have hsl : (I64 S.toArray.toList ++ rest).length = cap := by rw [List.length_append, I64, List.length_map]; have := HSL.out; simp; omega
          obtain ⟨r2, hb2, hr2⟩ := blk_puts HB5.out (undrewN w5 q) ((ys ++ List.replicate (n - ys.length) 0).map (Value.int .i64)) (by rw [hvl, hsl]; exact hcap)
          rw [hvl, hsl] at hr2
          exact own_of_blk (rest := (List.replicate (n - ys.length) 0).map (Value.int .i64) ++ r2) (by rw [I64, ← List.append_assoc, ← List.map_append]; exact hb2) hgg (by rw [List.length_append, List.length_map, List.length_replicate]; omega) HCM.out
        · rw [HW6.out]
          exact B5.out.grown (grown_row (g := g) (grown_of_below (undrewN w5 q) _) (grown_setCells _ _ _)) B5.out.size (fun q' e => by cases e; exact hgg)

end Go.Proofs.YtdaedkolpfkdjaaGreat
end

section
namespace Go.Proofs.YtdaedkolpfkdjaaGreat

theorem pw_mem {α} {R : α → α → Prop} {l : List α} (h : l.Pairwise R) {a b : α} (ha : a ∈ l) (hb : b ∈ l) : a = b ∨ R a b ∨ R b a := by
  induction l with
  | nil => cases ha
  | cons c l ih =>
    rw [List.pairwise_cons] at h
    rcases List.mem_cons.1 ha with e1 | ha
    · rcases List.mem_cons.1 hb with e2 | hb
      · exact .inl (e1.trans e2.symm)
      · rw [e1]; exact .inr (.inl (h.1 b hb))
    · rcases List.mem_cons.1 hb with e2 | hb
      · rw [e2]; exact .inr (.inr (h.1 a ha))
      · exact ih h.2 ha hb
theorem len_sub {α} [DecidableEq α] {l m : List α} (hl : l.Nodup) (h : ∀ x ∈ l, x ∈ m) : l.length ≤ m.length := by
  induction l generalizing m with
  | nil => simp
  | cons a l ih =>
    rw [List.nodup_cons] at hl
    have hm := h a (by simp)
    have := ih (m := m.erase a) hl.2 (fun x hx => (List.mem_erase_of_ne (fun e => hl.1 (by rw [← e]; exact hx))).2 (h x (List.mem_cons_of_mem _ hx)))
    have h2 := List.length_erase_of_mem hm
    have h3 := List.length_pos_of_mem hm
    rw [List.length_cons]
    omega

/-- a rectangle's edges are among these. -/
def EdgeIn (l : List RC) (Y X : List Int) : Prop := ∀ r ∈ l, r.Y ∈ Y ∧ r.Y + r.H ∈ Y ∧ r.X ∈ X ∧ r.X + r.W ∈ X
theorem EdgeIn.own (l : List RC) : EdgeIn l (ysE l) (xsE l) := fun r hr =>
  ⟨(mem_ysE _ _).2 ⟨r, hr, .inl rfl⟩, (mem_ysE _ _).2 ⟨r, hr, .inr rfl⟩, (mem_xsE _ _).2 ⟨r, hr, .inl rfl⟩, (mem_xsE _ _).2 ⟨r, hr, .inr rfl⟩⟩
theorem EdgeIn.ys {l : List RC} {Y X : List Int} (h : EdgeIn l Y X) : ∀ y ∈ ysE l, y ∈ Y := fun y hy => by
  obtain ⟨r, hr, rfl | rfl⟩ := (mem_ysE _ _).1 hy
  · exact (h r hr).1
  · exact (h r hr).2.1
theorem EdgeIn.xs {l : List RC} {Y X : List Int} (h : EdgeIn l Y X) : ∀ x ∈ xsE l, x ∈ X := fun y hy => by
  obtain ⟨r, hr, rfl | rfl⟩ := (mem_xsE _ _).1 hy
  · exact (h r hr).2.2.1
  · exact (h r hr).2.2.2
theorem EdgeIn.mono {l : List RC} {Y X Y' X' : List Int} (h : EdgeIn l Y X) (hY : ∀ y ∈ Y, y ∈ Y') (hX : ∀ x ∈ X, x ∈ X') : EdgeIn l Y' X' := fun r hr =>
  ⟨hY _ (h r hr).1, hY _ (h r hr).2.1, hX _ (h r hr).2.2.1, hX _ (h r hr).2.2.2⟩
theorem EdgeIn.append {a b : List RC} {Y X : List Int} (ha : EdgeIn a Y X) (hb : EdgeIn b Y X) : EdgeIn (a ++ b) Y X := fun r hr => by
  rcases List.mem_append.1 hr with hr | hr
  · exact ha r hr
  · exact hb r hr
theorem EdgeIn.join {a b : List RC} {Y X Y' X' : List Int} (ha : EdgeIn a Y X) (hb : EdgeIn b Y' X') : EdgeIn (a ++ b) (Y ++ Y') (X ++ X') :=
  (ha.mono (fun _ h => List.mem_append_left _ h) (fun _ h => List.mem_append_left _ h)).append (hb.mono (fun _ h => List.mem_append_right _ h) (fun _ h => List.mem_append_right _ h))
theorem rises_len {zs Z : List Int} (h : ∀ z ∈ zs, z ∈ Z) : (risesOf zs).length ≤ Z.length :=
  len_sub ((rises_ok zs).1.imp (fun h e => by omega)) (fun z hz => h z (((rises_ok zs).2 z).1 hz))

/-- two rows that have the same places: no band begins or ends between. -/
theorem cut_edge : ∀ (bs : List Bd), GoodB bs → ∀ (y : Int), (∀ x, InR (flatB bs) x (y - 1) ↔ InR (flatB bs) x y) → ∀ b ∈ bs, b.y ≠ y ∧ b.y + b.h ≠ y
  | [], _, _, _ => by simp
  | a :: ds, g, y, h => by
    have ha := g.each a (by simp)
    have hd := List.pairwise_cons.1 g.down
    obtain ⟨x0, hx0⟩ := some_place ha.2.1 ha.2.2
    have hlow : ∀ b ∈ ds, a.y + a.h ≤ b.y ∧ 0 < b.h := fun b hb => ⟨hd.1 b hb, (g.each b (by simp [hb])).1⟩
    by_cases h1 : a.y + a.h ≤ y - 1
    · have ih := cut_edge ds (good_tail g) y (fun x => by
        rw [← row_later (a := a) x (y - 1) h1, ← row_later (a := a) x y (by omega)]
        exact h x)
      intro b hb
      rcases List.mem_cons.1 hb with rfl | hb
      · constructor <;> omega
      · exact ih b hb
    · by_cases h2 : a.y + a.h ≤ y
      · exfalso
        have hy : y = a.y + a.h := by omega
        have hr1 : ∀ x, InR (flatB (a :: ds)) x (y - 1) ↔ InS a.sp x := fun x => row_first g x (y - 1) (by omega) (by omega)
        have hr2 : ∀ x, InR (flatB ds) x y ↔ InS a.sp x := fun x => by rw [← row_later (a := a) x y h2, ← h x, hr1 x]
        cases ds with
        | nil =>
          have := (hr2 x0).2 hx0
          simp [flatB, InR] at this
        | cons b cs =>
          have hb := g.each b (by simp)
          have hab := hlow b (by simp)
          have hby : b.y = y := by
            obtain ⟨d, hd', _, hd1, hd2⟩ := (in_flat _ _ _).1 ((hr2 x0).2 hx0)
            rcases List.mem_cons.1 hd' with rfl | hd'
            · omega
            · have := (List.pairwise_cons.1 (good_tail g).down).1 d hd'
              omega
          have hbs : a.sp = b.sp := apart_uniq _ _ ha.2.2 hb.2.2 (fun z => by
            rw [← hr2 z]
            exact row_first (good_tail g) z y (by omega) (by omega))
          exact g.next [] a b cs rfl (by omega) hbs
      · by_cases h3 : a.y ≤ y
        · by_cases h4 : a.y ≤ y - 1
          · intro b hb
            rcases List.mem_cons.1 hb with rfl | hb
            · constructor <;> omega
            · have := hlow b hb
              constructor <;> omega
          · exfalso
            have hr := (h x0).2 ((row_first g x0 y (by omega) (by omega)).2 hx0)
            obtain ⟨d, hd', _, hd1, hd2⟩ := (in_flat _ _ _).1 hr
            rcases List.mem_cons.1 hd' with rfl | hd'
            · omega
            · have := hlow d hd'
              omega
        · intro b hb
          rcases List.mem_cons.1 hb with rfl | hb
          · constructor <;> omega
          · have := hlow b hb
            constructor <;> omega

/-- THE LAW: a region's edges are edges of what it was made of. -/
theorem canon_edges {l al : List RC} (hl : Canon l) (hp : ∀ x y, InR l x y ↔ InR al x y) {Y X : List Int} (he : EdgeIn al Y X) : EdgeIn l Y X := by
  have hpos := canon_pos hl
  have hdown := canon_down hl
  have hyy : ∀ y, (∀ s ∈ al, s.Y ≠ y ∧ s.Y + s.H ≠ y) → ∀ x, InR l x (y - 1) ↔ InR l x y := fun y hs x => by
    rw [hp, hp]
    constructor
    · rintro ⟨s, hsm, h1, h2, h3, h4⟩
      have := hs s hsm
      exact ⟨s, hsm, h1, h2, by omega, by omega⟩
    · rintro ⟨s, hsm, h1, h2, h3, h4⟩
      have := hs s hsm
      exact ⟨s, hsm, h1, h2, by omega, by omega⟩
  have hedge : ∀ y, y ∉ Y → ∀ r ∈ l, r.Y ≠ y ∧ r.Y + r.H ≠ y := fun y hy r hr => by
    have hrow := hyy y (fun s hs => ⟨fun e => hy (e ▸ (he s hs).1), fun e => hy (e ▸ (he s hs).2.1)⟩)
    obtain ⟨bs, rfl, g⟩ := hl
    obtain ⟨b, hb, hr⟩ := List.mem_flatMap.1 hr
    obtain ⟨s, _, rfl⟩ := List.mem_map.1 hr
    exact cut_edge bs g y hrow b hb
  intro r hr
  obtain ⟨hw, hh⟩ := hpos r hr
  refine ⟨Classical.byContradiction fun h => (hedge _ h r hr).1 rfl, Classical.byContradiction fun h => (hedge _ h r hr).2 rfl, ?_, ?_⟩
  · -- the place ahead of it in its row is none of the region's
    have hno : ¬ InR l (r.X - 1) r.Y := by
      rintro ⟨s, hs, h1, h2, h3, h4⟩
      have hsp := hpos s hs
      rcases pw_mem hdown.1 hr hs with e | h | h
      · subst e; omega
      · omega
      · omega
    have hin : InR l r.X r.Y := ⟨r, hr, by omega, by omega, by omega, by omega⟩
    rw [hp] at hin hno
    obtain ⟨s, hs, h1, h2, h3, h4⟩ := hin
    have : s.X = r.X := Classical.byContradiction fun hne => hno ⟨s, hs, by omega, by omega, h3, h4⟩
    rw [← this]
    exact (he s hs).2.2.1
  · have hno : ¬ InR l (r.X + r.W) r.Y := by
      rintro ⟨s, hs, h1, h2, h3, h4⟩
      have hsp := hpos s hs
      rcases pw_mem hdown.1 hr hs with e | h | h
      · subst e; omega
      · omega
      · omega
    have hin : InR l (r.X + r.W - 1) r.Y := ⟨r, hr, by omega, by omega, by omega, by omega⟩
    rw [hp] at hin hno
    obtain ⟨s, hs, h1, h2, h3, h4⟩ := hin
    have : s.X + s.W = r.X + r.W := Classical.byContradiction fun hne => hno ⟨s, hs, by omega, by omega, h3, h4⟩
    rw [← this]
    exact (he s hs).2.2.2
/-- how many rectangles a region has, by its edges. -/
theorem canon_count {l : List RC} (hl : Canon l) {Y X : List Int} (he : EdgeIn l Y X) : l.length ≤ Y.length * X.length := by
  have hpos := canon_pos hl
  have hdown := canon_down hl
  have hnd : (l.map fun r => (r.Y, r.X)).Nodup := by
    unfold List.Nodup
    rw [List.pairwise_map]
    refine hdown.1.imp_of_mem (fun {a b} ha hb h e => ?_)
    have h1 := hpos a ha
    injection e with e1 e2
    omega
  have h1 := len_sub hnd (m := Y.flatMap fun y => X.map fun x => (y, x)) (fun p hp => by
    obtain ⟨r, hr, rfl⟩ := List.mem_map.1 hp
    exact List.mem_flatMap.2 ⟨r.Y, (he r hr).1, List.mem_map.2 ⟨r.X, (he r hr).2.2.1, rfl⟩⟩)
  have h2 : ∀ (Y : List Int), (Y.flatMap fun y => X.map fun x => (y, x)).length = Y.length * X.length := fun Y => by
    induction Y with
    | nil => simp
    | cons y Y ih => rw [List.flatMap_cons, List.length_append, ih, List.length_map, List.length_cons, Nat.add_mul]; omega
  rw [List.length_map, h2] at h1
  exact h1
/-- numbers from one on. -/
def upto (a : Int) (n : Nat) : List Int := (List.range (n + 1)).map fun (i : Nat) => a + (i : Int)
theorem upto_len (a : Int) (n : Nat) : (upto a n).length = n + 1 := by simp [upto]
theorem mem_upto {a x : Int} {n : Nat} : x ∈ upto a n ↔ a ≤ x ∧ x ≤ a + n := by
  unfold upto
  rw [List.mem_map]
  constructor
  · rintro ⟨i, hi, rfl⟩
    rw [List.mem_range] at hi
    omega
  · rintro ⟨h1, h2⟩
    exact ⟨(x - a).toNat, List.mem_range.2 (by omega), by omega⟩
/-- a region whose places lie within bounds has its edges there. -/
theorem box_edges {l : List RC} (hpos : ∀ r ∈ l, 0 < r.W ∧ 0 < r.H) {x0 y0 : Int} {w h : Nat} (hin : ∀ x y, InR l x y → (x0 ≤ x ∧ x < x0 + w) ∧ y0 ≤ y ∧ y < y0 + h) : EdgeIn l (upto y0 h) (upto x0 w) := fun r hr => by
  obtain ⟨h1, h2⟩ := hpos r hr
  have a := hin r.X r.Y ⟨r, hr, by omega, by omega, by omega, by omega⟩
  have b := hin (r.X + r.W - 1) (r.Y + r.H - 1) ⟨r, hr, by omega, by omega, by omega, by omega⟩
  refine ⟨mem_upto.2 ?_, mem_upto.2 ?_, mem_upto.2 ?_, mem_upto.2 ?_⟩ <;> omega
theorem rowx_in {a b : List RC} {Y X : List Int} (he : EdgeIn (a ++ b) Y X) (y : Int) : ∀ x ∈ xsE (rowOf a y ++ rowOf b y), x ∈ X := fun x hx => by
  obtain ⟨r, hr, h⟩ := (mem_xsE _ _).1 hx
  have hr' : r ∈ a ++ b := by
    rcases List.mem_append.1 hr with hr | hr
    · exact List.mem_append_left _ (List.mem_filter.1 hr).1
    · exact List.mem_append_right _ (List.mem_filter.1 hr).1
  rcases h with rfl | rfl
  · exact (he r hr').2.2.1
  · exact (he r hr').2.2.2
theorem rowx_len {a b : List RC} {Y X : List Int} (he : EdgeIn (a ++ b) Y X) (y : Int) : (risesOf (xsE (rowOf a y ++ rowOf b y))).length ≤ X.length := rises_len (rowx_in he y)
theorem cellsY_len {keep : Bool → Bool → Bool} {a b : List RC} {Y X : List Int} (he : EdgeIn (a ++ b) Y X) (ys : List Int) : ∀ m, (cellsY keep a b ys m).length ≤ m * X.length := fun m => by
  induction m with
  | zero => simp [cellsY]
  | succ m ih =>
    rw [cellsY_succ, List.length_append]
    have h1 := cellsX_len keep (rowOf a (ys.getD m 0)) (rowOf b (ys.getD m 0)) (ys.getD m 0) (ys.getD (m + 1) 0 - ys.getD m 0) (risesOf (xsE (rowOf a (ys.getD m 0) ++ rowOf b (ys.getD m 0)))) ((risesOf (xsE (rowOf a (ys.getD m 0) ++ rowOf b (ys.getD m 0)))).length - 1)
    have h2 := rowx_len he (ys.getD m 0)
    unfold rowX
    rw [Nat.add_mul]
    omega
/-- the cells that a rule keeps: how many, and their edges. -/
theorem cells_edges {keep : Bool → Bool → Bool} {a b : List RC} {Y X : List Int} (he : EdgeIn (a ++ b) Y X) : EdgeIn (joinR keep a b) Y X ∧ (joinR keep a b).length ≤ Y.length * X.length ∧ ((∀ r ∈ a ++ b, 0 < r.W ∧ 0 < r.H) → ∀ r ∈ joinR keep a b, 0 < r.W ∧ 0 < r.H) := by
  have hYm : ∀ y ∈ risesOf (ysE (a ++ b)), y ∈ Y := fun y hy => he.ys y (((rises_ok _).2 y).1 hy)
  have hXm : ∀ (y x : Int), x ∈ risesOf (xsE (rowOf a y ++ rowOf b y)) → x ∈ X := fun y x hx => rowx_in he y x (((rises_ok _).2 x).1 hx)
  have hYl := rises_len he.ys
  have hcell : ∀ r ∈ joinR keep a b, ∃ (k j : Nat) (v u c d : Int), (risesOf (ysE (a ++ b)))[k]? = some v ∧ (risesOf (ysE (a ++ b)))[k + 1]? = some u ∧ (risesOf (xsE (rowOf a v ++ rowOf b v)))[j]? = some c ∧ (risesOf (xsE (rowOf a v ++ rowOf b v)))[j + 1]? = some d ∧ r = ⟨c, v, d - c, u - v⟩ := fun r hr => by
    unfold joinR cellsY at hr
    obtain ⟨k, hk, hr⟩ := List.mem_flatMap.1 hr
    rw [List.mem_range] at hk
    unfold rowX at hr
    have hj : (risesOf (xsE (rowOf a ((risesOf (ysE (a ++ b))).getD k 0) ++ rowOf b ((risesOf (ysE (a ++ b))).getD k 0)))).length - 1 + 1 ≤ (risesOf (xsE (rowOf a ((risesOf (ysE (a ++ b))).getD k 0) ++ rowOf b ((risesOf (ysE (a ++ b))).getD k 0)))).length ∨ (risesOf (xsE (rowOf a ((risesOf (ysE (a ++ b))).getD k 0) ++ rowOf b ((risesOf (ysE (a ++ b))).getD k 0)))).length - 1 = 0 := by omega
    obtain ⟨j, c, d, _, hc, hd, _, rfl⟩ := (in_cellsX _ _ _ _ _ _ _ _ hj).1 hr
    exact ⟨k, j, _, _, c, d, of_getD (by omega), of_getD (by omega), hc, hd, rfl⟩
  refine ⟨fun r hr => ?_, ?_, fun _ r hr => ?_⟩
  · obtain ⟨k, j, v, u, c, d, h1, h2, h3, h4, rfl⟩ := hcell r hr
    dsimp only
    refine ⟨hYm _ (List.mem_of_getElem? h1), ?_, hXm v _ (List.mem_of_getElem? h3), ?_⟩
    · rw [show v + (u - v) = u from by omega]; exact hYm _ (List.mem_of_getElem? h2)
    · rw [show c + (d - c) = d from by omega]; exact hXm v _ (List.mem_of_getElem? h4)
  · have h1 := cellsY_len (keep := keep) he (risesOf (ysE (a ++ b))) ((risesOf (ysE (a ++ b))).length - 1)
    have h2 : ((risesOf (ysE (a ++ b))).length - 1) * X.length ≤ Y.length * X.length := Nat.mul_le_mul_right _ (by omega)
    exact Nat.le_trans h1 h2
  · obtain ⟨k, j, v, u, c, d, h1, h2, h3, h4, rfl⟩ := hcell r hr
    have p := (rises_ok (ysE (a ++ b))).1
    have q := (rises_ok (xsE (rowOf a v ++ rowOf b v))).1
    obtain ⟨k1, rfl⟩ := List.getElem?_eq_some_iff.1 h1
    obtain ⟨k2, rfl⟩ := List.getElem?_eq_some_iff.1 h2
    obtain ⟨j1, rfl⟩ := List.getElem?_eq_some_iff.1 h3
    obtain ⟨j2, rfl⟩ := List.getElem?_eq_some_iff.1 h4
    have a1 := List.pairwise_iff_getElem.1 p k (k + 1) k1 k2 (by omega)
    have a2 := List.pairwise_iff_getElem.1 q j (j + 1) j1 j2 (by omega)
    dsimp only
    exact ⟨by omega, by omega⟩

end Go.Proofs.YtdaedkolpfkdjaaGreat
end
