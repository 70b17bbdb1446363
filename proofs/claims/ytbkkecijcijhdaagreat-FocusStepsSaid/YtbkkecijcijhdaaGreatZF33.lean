/-
  The walks of the document's Lost and Way, and of the law's same.
  The walk of glazierlaw31.awake: the document's example.
-/
import Derived.Test.YtbkkecijcijhdaaGreatZF30
import Derived.Test.YtbkkecijcijhdaaGreatZF29
import Derived.Test.YtbkkecijcijhdaaGreatZF02
section
namespace Go.Proofs.YtbkkecijcijhdaaGreat
open Go.RowKit Go.Maps Go.Shelf

set_option maxRecDepth 100000 in
set_option maxHeartbeats 2000000 in
theorem same37_any (A A' : Option Addr) (n c c' : Nat) (l : List Int) (w : World) (hn : n ≤ 1000000) (hr : Rd w A n (U32 l)) (hr' : Rd w A' n (U32 l)) :
    Calls Tryz.prog 68 #[.slice A n c, .slice A' n c'] w fun e w' => e = .returned (.bool true) ∧ Below w.heap.size w w' := by
  have HR := Lib.hid hr
  have HR' := Lib.hid hr'
  have HL := Lib.hid (show l.length = n by have := hr.1; rwa [U32_len] at this)
  clear hr hr'
  go_enter Tryz.func68, Tryz.ntmps68
  go_wp2_with fail
  go_loopw [13] (fun s wr => ∃ k : Nat, s = .int .i64 k ∧ k ≤ n ∧ Below w.heap.size w wr) (fun s _ => n - (intOf s).toNat)
  case atStart => exact ⟨0, rfl, by omega, bre w⟩
  case round =>
    obtain ⟨k, rfl, hk, hbw⟩ := hrel
    have HBW := Lib.hid hbw
    clear hbw
    by_cases hlt : k < n
    · have k1 : (k : Int) < (n : Int) := by omega
      have k0 : (0 : Int) ≤ (k : Int) := by omega
      obtain ⟨x, hx⟩ : ∃ x, l[k]? = some x := ⟨_, List.getElem?_eq_getElem (by rw [HL.out]; exact hlt)⟩
      obtain ⟨b, off, rfl, hb, hc⟩ := (HR.out.below HBW.out).2 (by omega)
      have hcell := hc k _ (U32_at hx)
      obtain ⟨b', off', rfl, hb', hc'⟩ := (HR'.out.below HBW.out).2 (by omega)
      have hcell' := hc' k _ (U32_at hx)
      clear hc hc' hx
      go_wp2_with fail
      go_region
      go_wp2_with fail
      go_roundw
      case rel => exact ⟨k + 1, by go_num, by omega, HBW.out.drew⟩
      case measure => simp [intOf]; omega
    · obtain rfl : k = n := by omega
      have k1 : ¬ (k : Int) < (k : Int) := by omega
      go_wp2_with fail
      go_ret
      exact ⟨rfl, HBW.out⟩
section
variable {w : World}
set_option maxRecDepth 100000 in
set_option maxHeartbeats 4000000 in
theorem rlost_any (f : FC) (A B : Option Addr) (n c m d : Nat) (l path : List Int) (hn : n ≤ 1000000) (hm : m ≤ 1000000) (hr : Rd w A n (U32 l)) (hp : Rd w B m (U32 path)) :
    Calls Tryz.prog 65 #[f.v, .slice A n c, .slice B m d] w fun e w' => e = .returned (.tuple #[(lostF f (inU l) path).1.v, .bool (lostF f (inU l) path).2]) ∧ Below w.heap.size w w' := by
  have HR := Lib.hid hr
  have HPA := Lib.hid hp
  have HPN := Lib.hid (show path.length = m by have := hp.1; rwa [U32_len] at this)
  obtain ⟨S, hS⟩ : ∃ S : Int → Bool, inU l = S := ⟨_, rfl⟩
  have HIN := Lib.hid (fun i => congrFun hS i)
  rw [hS]
  clear hr hp hS
  go_enter Tryz.func65, Tryz.ntmps65
  go_upto_region 1 with fail
  have xB := bal (bal (bre w) (.cells #[.int .u32 f.W, .int .i64 f.R, .int .u32 f.T] 127)) (.cells #[.int .u32 0, .int .i64 0, .int .u32 0] 127)
  have xK3 := (Blk.new w  127 #[.int .u32 f.W, .int .i64 f.R, .int .u32 f.T]).alloc (.cells #[.int .u32 0, .int .i64 0, .int .u32 0] 127)
  have xK6 := blk_new2 w (.cells #[.int .u32 f.W, .int .i64 f.R, .int .u32 f.T] 127) 127 #[.int .u32 0, .int .i64 0, .int .u32 0]
  obtain ⟨X0, hX⟩ : ∃ X, ((w.alloc (.cells #[.int .u32 f.W, .int .i64 f.R, .int .u32 f.T] 127)).alloc (.cells #[.int .u32 0, .int .i64 0, .int .u32 0] 127)) = X := ⟨_, rfl⟩
  rw [hX] at xB xK3 xK6 ⊢
  have HB := Lib.hid xB
  have K3 := Lib.hid xK3
  have K6 := Lib.hid xK6
  clear hX xB xK3 xK6
  have a0 := K3.out.cellV (i := 0) (v := .int .u32 f.W) rfl
  have a1 := K3.out.cellV (i := 1) (v := .int .i64 f.R) rfl
  have a2 := K3.out.cellV (i := 2) (v := .int .u32 f.T) rfl
  have kc0 := K6.out.cellV (i := 0) (v := .int .u32 0) rfl
  have kc1 := K6.out.cellV (i := 1) (v := .int .i64 0) rfl
  have kc2 := K6.out.cellV (i := 2) (v := .int .u32 0) rfl
  have kf0 := K6.out.frozen 0
  have kf1 := K6.out.frozen 1
  have kf2 := K6.out.frozen 2
  have kl := K6.out.lt
  by_cases h0 : f.W = 0
  · have HE := Lib.hid (show lostF f S path = (f, false) by unfold lostF; rw [if_pos (.inl h0)])
    have h0' : (f.W == 0) = true := by simpa using h0
    clear h0
    go_wp2_with fail
    have rK := (((K6.out).set_ 0 (.int .u32 f.W)).set_ 1 (.int .i64 f.R)).set_ 2 (.int .u32 f.T)
    have r0 := rK.cellV (i := 0) (v := .int .u32 f.W) rfl
    have r1 := rK.cellV (i := 1) (v := .int .i64 f.R) rfl
    have r2 := rK.cellV (i := 2) (v := .int .u32 f.T) rfl
    refine bodyPost_ret (v := .tuple #[.agg #[.int .u32 f.W, .int .i64 f.R, .int .u32 f.T], .bool false]) (by simp [results, Tryz.results65, go_sem, r0, r1, r2]) rfl ?_
    exact ⟨by rw [HE.out], bset (p := ⟨w.heap.size + 1, 2, none⟩) (bset (p := ⟨w.heap.size + 1, 1, none⟩) (bset (p := ⟨w.heap.size + 1, 0, none⟩) (HB.out) (by show w.heap.size ≤ w.heap.size + 1; omega) (.int .u32 f.W)) (by show w.heap.size ≤ w.heap.size + 1; omega) (.int .i64 f.R)) (by show w.heap.size ≤ w.heap.size + 1; omega) (.int .u32 f.T)⟩
  have h0' : (f.W == 0) = false := by simpa using h0
  go_wp2_with fail
  refine (in37_any A n c l f.W _ hn (HR.out.below HB.out)).mono ?_
  rintro e w1 ⟨rfl, rfl⟩
  rw [HIN.out f.W]
  cases hq : S f.W with
  | true =>
    have HE := Lib.hid (show lostF f S path = (f, false) by unfold lostF; rw [if_pos (.inr hq)])
    clear hq
    go_wp2_with fail
    have rK := (((K6.out).set_ 0 (.int .u32 f.W)).set_ 1 (.int .i64 f.R)).set_ 2 (.int .u32 f.T)
    have r0 := rK.cellV (i := 0) (v := .int .u32 f.W) rfl
    have r1 := rK.cellV (i := 1) (v := .int .i64 f.R) rfl
    have r2 := rK.cellV (i := 2) (v := .int .u32 f.T) rfl
    refine bodyPost_ret (v := .tuple #[.agg #[.int .u32 f.W, .int .i64 f.R, .int .u32 f.T], .bool false]) (by simp [results, Tryz.results65, go_sem, r0, r1, r2]) rfl ?_
    exact ⟨by rw [HE.out], bset (p := ⟨w.heap.size + 1, 2, none⟩) (bset (p := ⟨w.heap.size + 1, 1, none⟩) (bset (p := ⟨w.heap.size + 1, 0, none⟩) (HB.out) (by show w.heap.size ≤ w.heap.size + 1; omega) (.int .u32 f.W)) (by show w.heap.size ≤ w.heap.size + 1; omega) (.int .i64 f.R)) (by show w.heap.size ≤ w.heap.size + 1; omega) (.int .u32 f.T)⟩
  | false =>
    have HNO := Lib.hid (show ¬ (f.W = 0 ∨ S f.W = true) from fun h => by
      rcases h with h | h
      · exact h0 h
      · rw [hq] at h; cases h)
    clear hq h0 h0'
    go_upto_region 4 with fail
    have xK3 := K3.out.alloc (.cells #[.int .u32 0, .int .i64 f.R, .int .u32 f.T] 127)
    have xK6 := K6.out.alloc (.cells #[.int .u32 0, .int .i64 f.R, .int .u32 f.T] 127)
    have xK8 := Blk.new X0 127 #[.int .u32 0, .int .i64 f.R, .int .u32 f.T]
    have xB := bal HB.out (.cells #[.int .u32 0, .int .i64 f.R, .int .u32 f.T] 127)
    obtain ⟨g8, hg8⟩ : ∃ g8, X0.heap.size = g8 := ⟨_, rfl⟩
    obtain ⟨X1, hX1⟩ : ∃ X1, X0.alloc (.cells #[.int .u32 0, .int .i64 f.R, .int .u32 f.T] 127) = X1 := ⟨_, rfl⟩
    have xG := K6.out.lt
    rw [hX1] at xK3 xK6 xK8 xB ⊢
    rw [hg8] at xK8 xG ⊢
    replace K3 := Lib.hid xK3
    replace K6 := Lib.hid xK6
    have K8 := Lib.hid xK8
    replace HB := Lib.hid xB
    have HG8 := Lib.hid xG
    clear xK3 xK6 xK8 xB hX1 hg8 xG a0 a1 a2 kc0 kc1 kc2 kf0 kf1 kf2 kl
    have a0 := K3.out.cellV (i := 0) (v := .int .u32 f.W) rfl
    have a1 := K3.out.cellV (i := 1) (v := .int .i64 f.R) rfl
    have a2 := K3.out.cellV (i := 2) (v := .int .u32 f.T) rfl
    have kc0 := K6.out.cellV (i := 0) (v := .int .u32 0) rfl
    have kc1 := K6.out.cellV (i := 1) (v := .int .i64 0) rfl
    have kc2 := K6.out.cellV (i := 2) (v := .int .u32 0) rfl
    have kf0 := K6.out.frozen 0
    have kf1 := K6.out.frozen 1
    have kf2 := K6.out.frozen 2
    have kl := K6.out.lt
    have e0 := K8.out.cellV (i := 0) (v := .int .u32 0) rfl
    have e1 := K8.out.cellV (i := 1) (v := .int .i64 f.R) rfl
    have e2 := K8.out.cellV (i := 2) (v := .int .u32 f.T) rfl
    have ef0 := K8.out.frozen 0
    have ef1 := K8.out.frozen 1
    have ef2 := K8.out.frozen 2
    have el := K8.out.lt
    have ne1 : g8 ≠ w.heap.size + 1 := by have := HG8.out; omega
    have ne2 : g8 ≠ w.heap.size := by have := HG8.out; omega
    by_cases h1 : f.R = 1
    · have HE := Lib.hid (show lostF f S path = (⟨1, 1, f.T⟩, true) by unfold lostF; rw [if_neg HNO.out, if_pos h1])
      have h1' : (f.R == 1) = true := by simpa using h1
      have H1 := Lib.hid h1
      clear h1
      rw [show (⟨1, 1, f.T⟩ : FC) = ⟨1, f.R, f.T⟩ by rw [H1.out]] at HE
      go_wp2_with fail
      have rK := ((((K6.out).far (p := ⟨g8, 0, none⟩) (by have := HG8.out; show _ ≠ _; simp only; omega) (.int .u32 1)).set_ 0 (.int .u32 1)).set_ 1 (.int .i64 f.R)).set_ 2 (.int .u32 f.T)
      have r0 := rK.cellV (i := 0) (v := .int .u32 1) rfl
      have r1 := rK.cellV (i := 1) (v := .int .i64 f.R) rfl
      have r2 := rK.cellV (i := 2) (v := .int .u32 f.T) rfl
      refine bodyPost_ret (v := .tuple #[.agg #[.int .u32 1, .int .i64 f.R, .int .u32 f.T], .bool true]) (by simp [results, Tryz.results65, go_sem, r0, r1, r2]) rfl ?_
      exact ⟨by rw [HE.out], bset (p := ⟨w.heap.size + 1, 2, none⟩) (bset (p := ⟨w.heap.size + 1, 1, none⟩) (bset (p := ⟨w.heap.size + 1, 0, none⟩) (bset (p := ⟨g8, 0, none⟩) (HB.out) (by have := HG8.out; show w.heap.size ≤ g8; omega) (.int .u32 1)) (by show w.heap.size ≤ w.heap.size + 1; omega) (.int .u32 1)) (by show w.heap.size ≤ w.heap.size + 1; omega) (.int .i64 f.R)) (by show w.heap.size ≤ w.heap.size + 1; omega) (.int .u32 f.T)⟩
    by_cases h2 : f.R = 2
    · have HE := Lib.hid (show lostF f S path = (⟨((path.drop 1).find? S).getD 1, 0, f.T⟩, true) by unfold lostF; rw [if_neg HNO.out, if_neg h1, if_pos h2])
      have h1' : (f.R == 1) = false := by simpa using h1
      have h2' : (f.R == 2) = true := by simpa using h2
      clear h2
      go_upto_region 10 with fail
      have xK3 := ((K3.out.far (p := ⟨g8, 1, none⟩) (by have := HG8.out; show _ ≠ _; simp only; omega) (.int .i64 0)).far (p := ⟨g8, 0, none⟩) (by have := HG8.out; show _ ≠ _; simp only; omega) (.int .u32 1))
      have xK6 := ((K6.out.far (p := ⟨g8, 1, none⟩) (by have := HG8.out; show _ ≠ _; simp only; omega) (.int .i64 0)).far (p := ⟨g8, 0, none⟩) (by have := HG8.out; show _ ≠ _; simp only; omega) (.int .u32 1))
      have xK8 := (K8.out.set_ 1 (.int .i64 0)).set_ 0 (.int .u32 1)
      have xB := bset (p := ⟨g8, 0, none⟩) (bset (p := ⟨g8, 1, none⟩) HB.out (by have := HG8.out; show w.heap.size ≤ g8; omega) (.int .i64 0)) (by have := HG8.out; show w.heap.size ≤ g8; omega) (.int .u32 1)
      obtain ⟨X2, hX2⟩ : ∃ X2, (X1.setCell ⟨g8, 1, none⟩ (.int .i64 0)).setCell ⟨g8, 0, none⟩ (.int .u32 1) = X2 := ⟨_, rfl⟩
      rw [hX2] at xK3 xK6 xK8 xB ⊢
      replace K3 := Lib.hid xK3
      replace K6 := Lib.hid xK6
      replace K8 := Lib.hid (show Blk X2 g8 127 #[.int .u32 1, .int .i64 0, .int .u32 f.T] from xK8)
      replace HB := Lib.hid xB
      clear xK3 xK6 xK8 xB hX2 h1' h2'
      clear a0 a1 a2 kc0 kc1 kc2 kf0 kf1 kf2 kl e0 e1 e2 ef0 ef1 ef2 el ne1 ne2
      have wm : IntKind.i64.wrap ((m : Int) - 1) = (m : Int) - 1 := IntWalk.i64_in _ (by omega)
      go_wp2_with fail
      go_loopw [9] (fun s wr => ∃ (q : Int) (W : Int), s = .int .i64 q ∧ (-1 ≤ q ∧ q < (m : Int)) ∧ (m = 0 ∨ 0 ≤ q) ∧ ((path.drop (q + 1).toNat).find? S).getD 1 = W ∧ Blk wr g8 127 #[.int .u32 W, .int .i64 0, .int .u32 f.T] ∧ Blk wr (w.heap.size + 1) 127 #[.int .u32 0, .int .i64 0, .int .u32 0] ∧ Below w.heap.size w wr) (fun s _ => (intOf s).toNat)
      case atStart => exact ⟨(m : Int) - 1, 1, rfl, by omega, by omega, by rw [show ((m : Int) - 1 + 1).toNat = m by omega, List.drop_of_length_le (by rw [HPN.out]; exact Nat.le_refl _)]; rfl, K8.out, K6.out, HB.out⟩
      case round =>
        obtain ⟨q, W, rfl, hq, hq0, hW, h8, h6, hbw⟩ := hrel
        have HQ0 := Lib.hid hq0
        have HWW := Lib.hid hW
        replace K8 := Lib.hid h8
        replace K6 := Lib.hid h6
        replace HB := Lib.hid hbw
        clear hq0 hW h8 h6 hbw
        by_cases hlt : 0 < q
        · obtain ⟨j, rfl⟩ : ∃ j : Nat, q = (j : Int) + 1 := ⟨(q - 1).toNat, by omega⟩
          obtain ⟨x, hx⟩ : ∃ x, path[j + 1]? = some x := ⟨_, List.getElem?_eq_getElem (by rw [HPN.out]; omega)⟩
          obtain ⟨b, off, rfl, hb, hc⟩ := (HPA.out.below HB.out).2 (by omega)
          have hcell := hc (j + 1) _ (U32_at hx)
          have HX := Lib.hid hx
          have kj : ((j + 1 : Nat) : Int) = (j : Int) + 1 := by omega
          have j0 : (0 : Int) ≤ (j : Int) + 1 := by omega
          have wj : IntKind.i64.wrap ((j : Int) + 1 - 1) = (j : Int) := by rw [IntWalk.i64_in _ (by omega)]; omega
          have HWX := Lib.hid (show ((path.drop (j + 1)).find? S).getD 1 = if S x then x else W by
            rw [drop_cons' HX.out, List.find?_cons]
            cases S x with
            | true => rfl
            | false =>
              rw [← HWW.out, show ((j : Int) + 1 + 1).toNat = j + 1 + 1 by omega]
              rfl)
          clear hx hc
          go_wp2_with fail
          refine (in37_any A n c l x _ hn (HR.out.below HB.out)).mono ?_
          rintro e w5 ⟨rfl, rfl⟩
          rw [HIN.out x]
          have hlt2 : -1 ≤ (j : Int) ∧ (j : Int) < (m : Int) := by omega
          cases hs : S x with
          | true =>
            have HSX := Lib.hid hs
            have e0 := K8.out.cellV (i := 0) (v := .int .u32 W) rfl
            have ef0 := K8.out.frozen 0
            have el := K8.out.lt
            clear hs
            go_wp2_with fail
            go_roundw
            case rel => exact ⟨(j : Int), x, rfl, hlt2, .inr (by omega), by rw [show ((j : Int) + 1).toNat = j + 1 by omega, HWX.out, HSX.out]; rfl, K8.out.set_ 0 _, K6.out.far (p := ⟨g8, 0, none⟩) (by have := HG8.out; show _ ≠ _; simp only; omega) _, bset (p := ⟨g8, 0, none⟩) HB.out (by have := HG8.out; show w.heap.size ≤ g8; omega) _⟩
            case measure => simp [intOf]
          | false =>
            have HSX := Lib.hid hs
            clear hs
            go_wp2_with fail
            go_roundw
            case rel => exact ⟨(j : Int), W, rfl, hlt2, .inr (by omega), by rw [show ((j : Int) + 1).toNat = j + 1 by omega, HWX.out, HSX.out]; rfl, K8.out, K6.out, HB.out⟩
            case measure => simp [intOf]
        · have HE2 := Lib.hid (show lostF f S path = (⟨W, 0, f.T⟩, true) by
            rw [HE.out, ← HWW.out]
            rcases HQ0.out with h | h
            · rw [List.eq_nil_of_length_eq_zero (HPN.out.trans h)]
              simp
            · rw [show (q + 1).toNat = 1 by omega])
          have k1 : ¬ (0 : Int) < q := hlt
          have e0 := K8.out.cellV (i := 0) (v := .int .u32 W) rfl
          have e1 := K8.out.cellV (i := 1) (v := .int .i64 0) rfl
          have e2 := K8.out.cellV (i := 2) (v := .int .u32 f.T) rfl
          have kc0 := K6.out.cellV (i := 0) (v := .int .u32 0) rfl
          have kc1 := K6.out.cellV (i := 1) (v := .int .i64 0) rfl
          have kc2 := K6.out.cellV (i := 2) (v := .int .u32 0) rfl
          have kf0 := K6.out.frozen 0
          have kf1 := K6.out.frozen 1
          have kf2 := K6.out.frozen 2
          have kl := K6.out.lt
          go_wp2_with fail
          have rK := (((K6.out).set_ 0 (.int .u32 W)).set_ 1 (.int .i64 0)).set_ 2 (.int .u32 f.T)
          have r0 := rK.cellV (i := 0) (v := .int .u32 W) rfl
          have r1 := rK.cellV (i := 1) (v := .int .i64 0) rfl
          have r2 := rK.cellV (i := 2) (v := .int .u32 f.T) rfl
          refine bodyPost_ret (v := .tuple #[.agg #[.int .u32 W, .int .i64 0, .int .u32 f.T], .bool true]) (by simp [results, Tryz.results65, go_sem, r0, r1, r2]) rfl ?_
          exact ⟨by rw [HE2.out], bset (p := ⟨w.heap.size + 1, 2, none⟩) (bset (p := ⟨w.heap.size + 1, 1, none⟩) (bset (p := ⟨w.heap.size + 1, 0, none⟩) (HB.out) (by show w.heap.size ≤ w.heap.size + 1; omega) (.int .u32 W)) (by show w.heap.size ≤ w.heap.size + 1; omega) (.int .i64 0)) (by show w.heap.size ≤ w.heap.size + 1; omega) (.int .u32 f.T)⟩
    · have HE := Lib.hid (show lostF f S path = (⟨0, 0, f.T⟩, true) by unfold lostF; rw [if_neg HNO.out, if_neg h1, if_neg h2])
      have h1' : (f.R == 1) = false := by simpa using h1
      have h2' : (f.R == 2) = false := by simpa using h2
      go_wp2_with fail
      have rK := ((((K6.out).far (p := ⟨g8, 1, none⟩) (by have := HG8.out; show _ ≠ _; simp only; omega) (.int .i64 0)).set_ 0 (.int .u32 0)).set_ 1 (.int .i64 0)).set_ 2 (.int .u32 f.T)
      have r0 := rK.cellV (i := 0) (v := .int .u32 0) rfl
      have r1 := rK.cellV (i := 1) (v := .int .i64 0) rfl
      have r2 := rK.cellV (i := 2) (v := .int .u32 f.T) rfl
      refine bodyPost_ret (v := .tuple #[.agg #[.int .u32 0, .int .i64 0, .int .u32 f.T], .bool true]) (by simp [results, Tryz.results65, go_sem, r0, r1, r2]) rfl ?_
      exact ⟨by rw [HE.out], bset (p := ⟨w.heap.size + 1, 2, none⟩) (bset (p := ⟨w.heap.size + 1, 1, none⟩) (bset (p := ⟨w.heap.size + 1, 0, none⟩) (bset (p := ⟨g8, 1, none⟩) (HB.out) (by have := HG8.out; show w.heap.size ≤ g8; omega) (.int .i64 0)) (by show w.heap.size ≤ w.heap.size + 1; omega) (.int .u32 0)) (by show w.heap.size ≤ w.heap.size + 1; omega) (.int .i64 0)) (by show w.heap.size ≤ w.heap.size + 1; omega) (.int .u32 f.T)⟩
end
end Go.Proofs.YtbkkecijcijhdaaGreat
end

section
namespace Go.Proofs.YtbkkecijcijhdaaGreat
open Go.RowKit Go.Maps Go.Shelf

theorem RdF.of_blk {α : Type} {f : α → List Value} {m : Nat} (hm : ∀ x, (f x).length = m) {w : World} {g : Nat} {t : TypeId} {l : List α} {n : Nat} (h : Blk w g t (l.flatMap f).toArray) (hl : l.length = n) : RdF f m w (some ⟨g, 0, none⟩) n l := by
  refine ⟨hl, fun hn => ⟨g, 0, rfl, h.lt, fun k x hk i u hu => ?_⟩⟩
  have hi : i < m := by have := (List.getElem?_eq_some_iff.1 hu).1; rwa [hm] at this
  have hg := flat_get f m hm l k x i hk hi
  rw [hu] at hg
  rw [Nat.zero_add]
  exact h.cellV (by simpa using hg)
def awL : List DW := [⟨-1, 1, 1, 4, 3, true, false, none, 0, 0, []⟩, ⟨-1, 3, 2, 4, 3, true, false, none, 0, 0, []⟩, ⟨0, 0, 0, 2, 1, true, false, none, 0, 0, []⟩]
theorem awL_up : UpOk awL := fun i d hd => by
  match i, hd with
  | 0, hd => obtain rfl : _ = d := by simpa [awL] using hd
             decide
  | 1, hd => obtain rfl : _ = d := by simpa [awL] using hd
             decide
  | 2, hd => obtain rfl : _ = d := by simpa [awL] using hd
             decide
  | i + 3, hd => simp [awL] at hd
theorem awL_ok : ∀ d ∈ awL, DWok d := fun d hd => by
  simp only [awL, List.mem_cons, List.not_mem_nil, or_false] at hd
  rcases hd with rfl | rfl | rfl <;> exact ⟨by decide, by decide, by decide, by decide, fun _ => rfl, by decide, by simp⟩
theorem awL_area (i : Int) (k : Nat) (h : cntP 8 6 (fun x y => decide (i = idW (atD awL (belowAt (nodesW awL) 1).length (-1) x y))) = k) : cntP 8 6 (fun x y => showB (esS 8 6 awL) x y i) = k := by
  rw [← h]
  refine cntP_congr (fun x y hx hy => ?_)
  rw [show_S awL_up]
  have : rectP ((8 : Nat) : Int) ((6 : Nat) : Int) x y = true := by
    unfold rectP
    rw [inB_rect]
    omega
  rw [this, Bool.true_and]
set_option maxRecDepth 100000 in
theorem aw_area1 : cntP 8 6 (fun x y => showB (esS 8 6 awL) x y (idW 1)) = 12 := awL_area _ _ (by decide +kernel)
set_option maxRecDepth 100000 in
theorem aw_area2 : cntP 8 6 (fun x y => showB (esS 8 6 awL) x y (idW 2)) = 2 := awL_area _ _ (by decide +kernel)
set_option maxRecDepth 100000 in
theorem aw_area0 : cntP 8 6 (fun x y => showB (esS 8 6 awL) x y (idW 0)) = 6 := awL_area _ _ (by decide +kernel)
set_option maxRecDepth 100000 in
theorem aw_areaR : cntP 8 6 (fun x y => showB (esS 8 6 awL) x y 1) = 28 := awL_area _ _ (by decide +kernel)

/-- a struct is built. -/
theorem wpList_bld {P : Program} {ops : Array Oper} {rest : List Oper} {o : Oper} {a : Act} {w : World} {Q : Exit → Act → World → Prop} (hg : o.guard = none) (cells : Array Value) (hb : bldOf P a.eval o = some cells) (h : wpList P ops Q rest (a.put o.dst (.agg cells)) w) : wpList P ops Q (o :: rest) a w := by
  refine wpList_plain hg fun K hK => ?_
  unfold Oper.wp
  rw [y_build hb]
  exact hK _ _ h
set_option maxRecDepth 100000 in
theorem Tryz.infoW : (Tryz.prog.info? 69).map (fun i => (i.zero, i.size, i.bytes)) = some (some (.agg #[.int .i64 0, .int .i64 0, .int .i64 0, .int .i64 0, .int .i64 0, .bool false, .bool false, .slice none 0 0]), 8, 72) := by kernel_rfl
theorem vis_area {w : World} {v : Value} {RW RH : Nat} {l : List DW} {og : Int → Int × Int} (h : SeenAt w v RW RH l og) (i : Int) (hi : 0 ≤ i ∧ i ≤ 4294967295) (k : Nat) (hk : cntP RW RH (fun x y => showB (esS RW RH l) x y i) = k) :
    Calls Tryz.prog 33 #[v, .int .u32 i] w fun e w' => ∃ A n c, e = .returned (.agg #[.slice A n c]) ∧ (∀ W, Below w'.heap.size w' W → Calls Tryz.prog 37 #[.agg #[.slice A n c]] W fun e2 w2 => e2 = .returned (.int .i64 k) ∧ Below W.heap.size W w2) ∧ Below w.heap.size w w' := by
  refine (h.visible i hi).mono ?_
  rintro e w' ⟨u, out, rfl, hr, _, ha, hl, hb⟩
  have hc := hr.cnt
  obtain ⟨A, c, rfl, hrd, _⟩ := hr
  refine ⟨A, out.length, c, rfl, fun W hW => ?_, hb⟩
  rw [← hk, ← ha]
  exact area_any A out.length c out W (by omega) (hrd.below hW) hc

set_option maxRecDepth 100000 in
set_option maxHeartbeats 8000000 in
theorem awake31_any (w : World) : Calls Tryz.prog 21 #[] w fun e w' => e = .returned (.bool true) ∧ Below w.heap.size w w' := by
  obtain ⟨i0, hi0, hz0, hz1, hz2⟩ := info_parts Tryz.infoW
  go_enter Tryz.func21, Tryz.ntmps21
  go_upto_region 1 with fail
  apply wp_region_lit
  refine wpList_bld rfl #[.int .i64 (-1), .int .i64 1, .int .i64 1, .int .i64 4, .int .i64 3, .bool true, .bool false, .slice none 0 0] (by as_aux_lemma => kernel_rfl) ?_
  refine wpList_bld rfl #[.int .i64 (-1), .int .i64 3, .int .i64 2, .int .i64 4, .int .i64 3, .bool true, .bool false, .slice none 0 0] (by as_aux_lemma => kernel_rfl) ?_
  refine wpList_bld rfl #[.int .i64 0, .int .i64 0, .int .i64 0, .int .i64 2, .int .i64 1, .bool true, .bool false, .slice none 0 0] (by as_aux_lemma => kernel_rfl) ?_
  refine wpList_recs rfl 29 69 3 _ rfl 8 _ i0 Tryz.underlying29 hi0 hz0 hz1 rfl (by decide) (by decide) (by decide) [.agg #[.int .i64 (-1), .int .i64 1, .int .i64 1, .int .i64 4, .int .i64 3, .bool true, .bool false, .slice none 0 0], .agg #[.int .i64 (-1), .int .i64 3, .int .i64 2, .int .i64 4, .int .i64 3, .bool true, .bool false, .slice none 0 0], .agg #[.int .i64 0, .int .i64 0, .int .i64 0, .int .i64 2, .int .i64 1, .bool true, .bool false, .slice none 0 0]] (by simp [Value.cells]) rfl (by as_aux_lemma => kernel_rfl) #[.int .i64 (-1), .int .i64 1, .int .i64 1, .int .i64 4, .int .i64 3, .bool true, .bool false, .slice none 0 0, .int .i64 (-1), .int .i64 3, .int .i64 2, .int .i64 4, .int .i64 3, .bool true, .bool false, .slice none 0 0, .int .i64 0, .int .i64 0, .int .i64 0, .int .i64 2, .int .i64 1, .bool true, .bool false, .slice none 0 0] rfl ?_
  have xK := Blk.new w 69 #[.int .i64 (-1), .int .i64 1, .int .i64 1, .int .i64 4, .int .i64 3, .bool true, .bool false, .slice none 0 0, .int .i64 (-1), .int .i64 3, .int .i64 2, .int .i64 4, .int .i64 3, .bool true, .bool false, .slice none 0 0, .int .i64 0, .int .i64 0, .int .i64 0, .int .i64 2, .int .i64 1, .bool true, .bool false, .slice none 0 0]
  have xB := bal (bre w) (.cells #[.int .i64 (-1), .int .i64 1, .int .i64 1, .int .i64 4, .int .i64 3, .bool true, .bool false, .slice none 0 0, .int .i64 (-1), .int .i64 3, .int .i64 2, .int .i64 4, .int .i64 3, .bool true, .bool false, .slice none 0 0, .int .i64 0, .int .i64 0, .int .i64 0, .int .i64 2, .int .i64 1, .bool true, .bool false, .slice none 0 0] 69)
  obtain ⟨X0, hX0⟩ : ∃ X0, w.alloc (.cells #[.int .i64 (-1), .int .i64 1, .int .i64 1, .int .i64 4, .int .i64 3, .bool true, .bool false, .slice none 0 0, .int .i64 (-1), .int .i64 3, .int .i64 2, .int .i64 4, .int .i64 3, .bool true, .bool false, .slice none 0 0, .int .i64 0, .int .i64 0, .int .i64 0, .int .i64 2, .int .i64 1, .bool true, .bool false, .slice none 0 0] 69) = X0 := ⟨_, rfl⟩
  rw [hX0] at xK xB ⊢
  have HL := Lib.hid (show RdWs X0 (some ⟨w.heap.size, 0, none⟩) 3 awL from ⟨RdF.of_blk DW.cells_len xK rfl, fun d hd => by
    simp only [awL, List.mem_cons, List.not_mem_nil, or_false] at hd
    rcases hd with rfl | rfl | rfl <;> exact ⟨rfl, fun h => absurd h (by decide)⟩⟩)
  have HB := Lib.hid xB
  clear xK xB hX0
  go_upto_region 2 with fail
  go_wp2_with fail
  refine (built31_any (some ⟨w.heap.size, 0, none⟩) 3 3 awL 8 6 _ HL.out (by decide) awL_up awL_ok (by decide)).mono ?_
  rintro e w1 ⟨mk, mu, mp, nk, fk, bs, rfl, hm, hb⟩
  have HM := Lib.hid hm
  replace HB := Lib.hid (bstep HB.out hb)
  clear hm hb
  go_upto_region 3 with fail
  have xM := HM.out.below (bal (bal (bre w1) (.cells #[.map mk, .map mu] 34)) (.cells #[.map mp] 37))
  have xK2 := (Blk.new w1 34 #[.map mk, .map mu]).alloc (.cells #[.map mp] 37)
  have xK3 := blk_new2 w1 (.cells #[.map mk, .map mu] 34) 37 #[.map mp]
  have xB := bal (bal HB.out (.cells #[.map mk, .map mu] 34)) (.cells #[.map mp] 37)
  obtain ⟨X1, hX1⟩ : ∃ X1, (w1.alloc (.cells #[.map mk, .map mu] 34)).alloc (.cells #[.map mp] 37) = X1 := ⟨_, rfl⟩
  rw [hX1] at xM xK2 xK3 xB ⊢
  have d20 := xK2.cellV (i := 0) (v := .map mk) rfl
  have d21 := xK2.cellV (i := 1) (v := .map mu) rfl
  have d30 := xK3.cellV (i := 0) (v := .map mp) rfl
  replace HM := Lib.hid xM
  replace HB := Lib.hid xB
  clear xM xK2 xK3 xB hX1
  go_wp2_with fail
  refine (seen_of (RW := 8) (RH := 6) (l := awL) (bs := bs) (fk := fk) (nk := nk) X1 HM.out awL_up awL_ok (by decide) (by decide)).mono ?_
  rintro e w2 ⟨v, og, rfl, hs, hb⟩
  have HS := Lib.hid hs
  obtain ⟨A, n, c, mv, nm, f, hv⟩ := hs.is
  have hsh := hv.shape
  subst hsh
  replace HB := Lib.hid (bstep HB.out hb)
  clear hs hb hv d20 d21 d30
  go_upto_region 4 with fail
  have xS := HS.out.below (bal (bre w2) (.cells #[.slice A n c, .map mv] 43))
  have xK5 := Blk.new w2 43 #[.slice A n c, .map mv]
  have xB := bal HB.out (.cells #[.slice A n c, .map mv] 43)
  obtain ⟨X2, hX2⟩ : ∃ X2, w2.alloc (.cells #[.slice A n c, .map mv] 43) = X2 := ⟨_, rfl⟩
  rw [hX2] at xS xK5 xB ⊢
  replace HS := Lib.hid xS
  have K5 := Lib.hid xK5
  replace HB := Lib.hid xB
  clear xS xK5 xB hX2
  have HBW := Lib.hid (show Below X2.heap.size X2 X2.drew from (bre X2).drew)
  refine wp_region_noPanic ?_
  refine wp_region_held_drew (S := (fun w' => w'.cell? ⟨w2.heap.size, 0, none⟩ = some (.slice A n c) ∧ w'.cell? ⟨w2.heap.size, 1, none⟩ = some (.map mv))) (by kernel_rfl) ?_ (fun hHeld => ?_)
  · (try dsimp only)
    exact ⟨(K5.out.belowS HBW.out).cellV (i := 0) rfl, (K5.out.belowS HBW.out).cellV (i := 1) rfl⟩
  refine Tr.take_at 0 19 (.bool true) rfl rfl (by kernel_rfl) (by kernel_rfl) (by kernel_rfl) (fun _ _ _ h => h) (Or.inl ⟨by rfl, ?_⟩) (by assumption) ?_
  · intro W0 hSw
    (try dsimp only at hSw)
    go_simp
  simp only [List.set_cons_zero, List.set_cons_succ]
  refine Tr.take_at 1 20 (.bool true) rfl rfl (by kernel_rfl) (by kernel_rfl) (by kernel_rfl) (fun _ _ _ h => h) (Or.inl ⟨by rfl, ?_⟩) (by assumption) ?_
  · intro W0 hSw
    (try dsimp only at hSw)
    go_simp
  simp only [List.set_cons_zero, List.set_cons_succ]
  refine Tr.take_at 2 21 (.agg #[.slice A n c, .map mv]) rfl rfl (by kernel_rfl) (by kernel_rfl) (by kernel_rfl) (fun _ _ _ h => h) (Or.inl ⟨by rfl, ?_⟩) (by assumption) ?_
  · intro W0 hSw
    (try dsimp only at hSw)
    go_simp
  simp only [List.set_cons_zero, List.set_cons_succ]
  refine wpAnyH_ready (rs := [3]) (by kernel_rfl) (by simp) ?_
  refine AllReadyH.cons rfl (fun K hK => ?_) AllReadyH.nil
  go_simp
  refine (id_b (1 : Int) _ (by decide)).mono ?_
  rintro e wc3 ⟨rfl, hbA⟩
  replace HBW := Lib.hid (bstep HBW.out hbA)
  clear hbA
  go_simp
  refine hK.out _ _ ?_ (fun hHeld => ?_)
  · (try dsimp only)
    exact ⟨(K5.out.belowS HBW.out).cellV (i := 0) rfl, (K5.out.belowS HBW.out).cellV (i := 1) rfl⟩
  clear hK K
  refine wpAnyH_ready (rs := [4]) (by kernel_rfl) (by simp) ?_
  refine AllReadyH.cons rfl (fun K hK => ?_) AllReadyH.nil
  go_simp
  refine (vis_area (HS.out.below HBW.out) (idW 1) (by decide) 12 aw_area1).mono ?_
  rintro e wc4 ⟨A4, n4, c4, rfl, har4, hbA⟩
  have HAR4 := Lib.hid har4
  clear har4
  replace HBW := Lib.hid (bstep HBW.out hbA)
  clear hbA
  go_simp
  refine hK.out _ _ ?_ (fun hHeld => ?_)
  · (try dsimp only)
    exact ⟨(K5.out.belowS HBW.out).cellV (i := 0) rfl, (K5.out.belowS HBW.out).cellV (i := 1) rfl⟩
  clear hK K
  refine wpAnyH_ready (rs := [5]) (by kernel_rfl) (by simp) ?_
  refine AllReadyH.cons rfl (fun K hK => ?_) AllReadyH.nil
  go_simp
  refine (HAR4.out _ (bre _)).mono ?_
  rintro e wc5 ⟨rfl, hbA⟩
  replace HBW := Lib.hid (bstep HBW.out hbA)
  clear hbA
  go_simp
  refine hK.out _ _ ?_ (fun hHeld => ?_)
  · (try dsimp only)
    exact ⟨(K5.out.belowS HBW.out).cellV (i := 0) rfl, (K5.out.belowS HBW.out).cellV (i := 1) rfl⟩
  clear hK K
  refine Tr.take_at 6 25 (.bool true) rfl rfl (by kernel_rfl) (by kernel_rfl) (by kernel_rfl) (fun _ _ _ h => h) (Or.inl ⟨by rfl, ?_⟩) (by assumption) ?_
  · intro W0 hSw
    (try dsimp only at hSw)
    go_simp
  simp only [List.set_cons_zero, List.set_cons_succ]
  refine Tr.take_at 7 26 (.bool true) rfl rfl (by kernel_rfl) (by kernel_rfl) (by kernel_rfl) (fun _ _ _ h => h) (Or.inl ⟨by rfl, ?_⟩) (by assumption) ?_
  · intro W0 hSw
    (try dsimp only at hSw)
    go_simp
  simp only [List.set_cons_zero, List.set_cons_succ]
  refine Tr.take_at 8 27 (.bool true) rfl rfl (by kernel_rfl) (by kernel_rfl) (by kernel_rfl) (fun _ _ _ h => h) (Or.inl ⟨by rfl, ?_⟩) (by assumption) ?_
  · intro W0 hSw
    (try dsimp only at hSw)
    go_simp
  simp only [List.set_cons_zero, List.set_cons_succ]
  refine Tr.take_at 9 28 (.agg #[.slice A n c, .map mv]) rfl rfl (by kernel_rfl) (by kernel_rfl) (by kernel_rfl) (fun _ _ _ h => h) (Or.inl ⟨by rfl, ?_⟩) (by assumption) ?_
  · intro W0 hSw
    (try dsimp only at hSw)
    go_simp
  simp only [List.set_cons_zero, List.set_cons_succ]
  refine wpAnyH_ready (rs := [10]) (by kernel_rfl) (by simp) ?_
  refine AllReadyH.cons rfl (fun K hK => ?_) AllReadyH.nil
  go_simp
  refine (id_b (2 : Int) _ (by decide)).mono ?_
  rintro e wc10 ⟨rfl, hbA⟩
  replace HBW := Lib.hid (bstep HBW.out hbA)
  clear hbA
  go_simp
  refine hK.out _ _ ?_ (fun hHeld => ?_)
  · (try dsimp only)
    exact ⟨(K5.out.belowS HBW.out).cellV (i := 0) rfl, (K5.out.belowS HBW.out).cellV (i := 1) rfl⟩
  clear hK K
  refine wpAnyH_ready (rs := [11]) (by kernel_rfl) (by simp) ?_
  refine AllReadyH.cons rfl (fun K hK => ?_) AllReadyH.nil
  go_simp
  refine (vis_area (HS.out.below HBW.out) (idW 2) (by decide) 2 aw_area2).mono ?_
  rintro e wc11 ⟨A11, n11, c11, rfl, har11, hbA⟩
  have HAR11 := Lib.hid har11
  clear har11
  replace HBW := Lib.hid (bstep HBW.out hbA)
  clear hbA
  go_simp
  refine hK.out _ _ ?_ (fun hHeld => ?_)
  · (try dsimp only)
    exact ⟨(K5.out.belowS HBW.out).cellV (i := 0) rfl, (K5.out.belowS HBW.out).cellV (i := 1) rfl⟩
  clear hK K
  refine wpAnyH_ready (rs := [12]) (by kernel_rfl) (by simp) ?_
  refine AllReadyH.cons rfl (fun K hK => ?_) AllReadyH.nil
  go_simp
  refine (HAR11.out _ (bre _)).mono ?_
  rintro e wc12 ⟨rfl, hbA⟩
  replace HBW := Lib.hid (bstep HBW.out hbA)
  clear hbA
  go_simp
  refine hK.out _ _ ?_ (fun hHeld => ?_)
  · (try dsimp only)
    exact ⟨(K5.out.belowS HBW.out).cellV (i := 0) rfl, (K5.out.belowS HBW.out).cellV (i := 1) rfl⟩
  clear hK K
  refine Tr.take_at 13 32 (.bool true) rfl rfl (by kernel_rfl) (by kernel_rfl) (by kernel_rfl) (fun _ _ _ h => h) (Or.inl ⟨by rfl, ?_⟩) (by assumption) ?_
  · intro W0 hSw
    (try dsimp only at hSw)
    go_simp
  simp only [List.set_cons_zero, List.set_cons_succ]
  refine Tr.take_at 14 33 (.bool true) rfl rfl (by kernel_rfl) (by kernel_rfl) (by kernel_rfl) (fun _ _ _ h => h) (Or.inl ⟨by rfl, ?_⟩) (by assumption) ?_
  · intro W0 hSw
    (try dsimp only at hSw)
    go_simp
  simp only [List.set_cons_zero, List.set_cons_succ]
  refine Tr.take_at 15 34 (.bool true) rfl rfl (by kernel_rfl) (by kernel_rfl) (by kernel_rfl) (fun _ _ _ h => h) (Or.inl ⟨by rfl, ?_⟩) (by assumption) ?_
  · intro W0 hSw
    (try dsimp only at hSw)
    go_simp
  simp only [List.set_cons_zero, List.set_cons_succ]
  refine Tr.take_at 16 35 (.agg #[.slice A n c, .map mv]) rfl rfl (by kernel_rfl) (by kernel_rfl) (by kernel_rfl) (fun _ _ _ h => h) (Or.inl ⟨by rfl, ?_⟩) (by assumption) ?_
  · intro W0 hSw
    (try dsimp only at hSw)
    go_simp
  simp only [List.set_cons_zero, List.set_cons_succ]
  refine wpAnyH_ready (rs := [17]) (by kernel_rfl) (by simp) ?_
  refine AllReadyH.cons rfl (fun K hK => ?_) AllReadyH.nil
  go_simp
  refine (id_b (0 : Int) _ (by decide)).mono ?_
  rintro e wc17 ⟨rfl, hbA⟩
  replace HBW := Lib.hid (bstep HBW.out hbA)
  clear hbA
  go_simp
  refine hK.out _ _ ?_ (fun hHeld => ?_)
  · (try dsimp only)
    exact ⟨(K5.out.belowS HBW.out).cellV (i := 0) rfl, (K5.out.belowS HBW.out).cellV (i := 1) rfl⟩
  clear hK K
  refine wpAnyH_ready (rs := [18]) (by kernel_rfl) (by simp) ?_
  refine AllReadyH.cons rfl (fun K hK => ?_) AllReadyH.nil
  go_simp
  refine (vis_area (HS.out.below HBW.out) (idW 0) (by decide) 6 aw_area0).mono ?_
  rintro e wc18 ⟨A18, n18, c18, rfl, har18, hbA⟩
  have HAR18 := Lib.hid har18
  clear har18
  replace HBW := Lib.hid (bstep HBW.out hbA)
  clear hbA
  go_simp
  refine hK.out _ _ ?_ (fun hHeld => ?_)
  · (try dsimp only)
    exact ⟨(K5.out.belowS HBW.out).cellV (i := 0) rfl, (K5.out.belowS HBW.out).cellV (i := 1) rfl⟩
  clear hK K
  refine wpAnyH_ready (rs := [19]) (by kernel_rfl) (by simp) ?_
  refine AllReadyH.cons rfl (fun K hK => ?_) AllReadyH.nil
  go_simp
  refine (HAR18.out _ (bre _)).mono ?_
  rintro e wc19 ⟨rfl, hbA⟩
  replace HBW := Lib.hid (bstep HBW.out hbA)
  clear hbA
  go_simp
  refine hK.out _ _ ?_ (fun hHeld => ?_)
  · (try dsimp only)
    exact ⟨(K5.out.belowS HBW.out).cellV (i := 0) rfl, (K5.out.belowS HBW.out).cellV (i := 1) rfl⟩
  clear hK K
  refine Tr.take_at 20 39 (.bool true) rfl rfl (by kernel_rfl) (by kernel_rfl) (by kernel_rfl) (fun _ _ _ h => h) (Or.inl ⟨by rfl, ?_⟩) (by assumption) ?_
  · intro W0 hSw
    (try dsimp only at hSw)
    go_simp
  simp only [List.set_cons_zero, List.set_cons_succ]
  refine Tr.take_at 21 40 (.bool true) rfl rfl (by kernel_rfl) (by kernel_rfl) (by kernel_rfl) (fun _ _ _ h => h) (Or.inl ⟨by rfl, ?_⟩) (by assumption) ?_
  · intro W0 hSw
    (try dsimp only at hSw)
    go_simp
  simp only [List.set_cons_zero, List.set_cons_succ]
  refine Tr.take_at 22 41 (.bool true) rfl rfl (by kernel_rfl) (by kernel_rfl) (by kernel_rfl) (fun _ _ _ h => h) (Or.inl ⟨by rfl, ?_⟩) (by assumption) ?_
  · intro W0 hSw
    (try dsimp only at hSw)
    go_simp
  simp only [List.set_cons_zero, List.set_cons_succ]
  refine Tr.take_at 23 42 (.agg #[.slice A n c, .map mv]) rfl rfl (by kernel_rfl) (by kernel_rfl) (by kernel_rfl) (fun _ _ _ h => h) (Or.inl ⟨by rfl, ?_⟩) (by assumption) ?_
  · intro W0 hSw
    (try dsimp only at hSw)
    go_simp
  simp only [List.set_cons_zero, List.set_cons_succ]
  refine wpAnyH_ready (rs := [24]) (by kernel_rfl) (by simp) ?_
  refine AllReadyH.cons rfl (fun K hK => ?_) AllReadyH.nil
  go_simp
  refine (vis_area (HS.out.below HBW.out) (1) (by decide) 28 aw_areaR).mono ?_
  rintro e wc24 ⟨A24, n24, c24, rfl, har24, hbA⟩
  have HAR24 := Lib.hid har24
  clear har24
  replace HBW := Lib.hid (bstep HBW.out hbA)
  clear hbA
  go_simp
  refine hK.out _ _ ?_ (fun hHeld => ?_)
  · (try dsimp only)
    exact ⟨(K5.out.belowS HBW.out).cellV (i := 0) rfl, (K5.out.belowS HBW.out).cellV (i := 1) rfl⟩
  clear hK K
  refine wpAnyH_ready (rs := [25]) (by kernel_rfl) (by simp) ?_
  refine AllReadyH.cons rfl (fun K hK => ?_) AllReadyH.nil
  go_simp
  refine (HAR24.out _ (bre _)).mono ?_
  rintro e wc25 ⟨rfl, hbA⟩
  replace HBW := Lib.hid (bstep HBW.out hbA)
  clear hbA
  go_simp
  refine hK.out _ _ ?_ (fun hHeld => ?_)
  · (try dsimp only)
    exact ⟨(K5.out.belowS HBW.out).cellV (i := 0) rfl, (K5.out.belowS HBW.out).cellV (i := 1) rfl⟩
  clear hK K
  refine Tr.take_at 26 45 (.bool true) rfl rfl (by kernel_rfl) (by kernel_rfl) (by kernel_rfl) (fun _ _ _ h => h) (Or.inl ⟨by rfl, ?_⟩) (by assumption) ?_
  · intro W0 hSw
    (try dsimp only at hSw)
    go_simp
  simp only [List.set_cons_zero, List.set_cons_succ]
  refine Tr.take_at 27 46 (.bool true) rfl rfl (by kernel_rfl) (by kernel_rfl) (by kernel_rfl) (fun _ _ _ h => h) (Or.inl ⟨by rfl, ?_⟩) (by assumption) ?_
  · intro W0 hSw
    (try dsimp only at hSw)
    go_simp
  simp only [List.set_cons_zero, List.set_cons_succ]
  refine Tr.take_at 28 0 (.bool true) rfl rfl (by kernel_rfl) (by kernel_rfl) (by kernel_rfl) (fun _ _ _ h => h) (Or.inl ⟨by rfl, ?_⟩) (by assumption) ?_
  · intro W0 hSw
    (try dsimp only at hSw)
    go_simp
  simp only [List.set_cons_zero]
  refine wpAnyH_done (by kernel_rfl) ?_ _
  refine NoPanic.normal ?_
  go_wp2_with fail
  go_ret
  exact ⟨rfl, bstep HB.out HBW.out⟩
end Go.Proofs.YtbkkecijcijhdaaGreat
end
