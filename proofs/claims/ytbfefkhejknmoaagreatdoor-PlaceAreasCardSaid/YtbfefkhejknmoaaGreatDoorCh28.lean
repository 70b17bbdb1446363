/-
  The walk of the document's Set where the box may be set.
-/
import Derived.Test.YtbfefkhejknmoaaGreatDoorCh27
namespace Go.Proofs.YtbfefkhejknmoaaGreatDoor
open Go.RowKit Go.Maps Go.Shelf

theorem RdD.put10 {W : World} {g n k : Nat} {t : TypeId} {cur : Array Value} {l : List DB} {d : DB} (hg : Blk W g t cur) (hk : k < n) (hl : l.length = n) (hsz : n * 10 ≤ cur.size) (htk : cur.toList.take (n * 10) = l.flatMap DB.cells) :
    RdD ((((((((((W.setCell ⟨g, k * 10, none⟩ (.int .u32 d.id)).setCell ⟨g, k * 10 + 1, none⟩ (.int .i64 d.b.X)).setCell ⟨g, k * 10 + 2, none⟩ (.int .i64 d.b.Y)).setCell ⟨g, k * 10 + 3, none⟩ (.int .i64 d.b.W)).setCell ⟨g, k * 10 + 4, none⟩ (.int .i64 d.b.H)).setCell ⟨g, k * 10 + 5, none⟩ (.bool d.b.M)).setCell ⟨g, k * 10 + 6, none⟩ (.int .i64 d.b.G)).setCell ⟨g, k * 10 + 7, none⟩ (.int .i64 d.b.B)).setCell ⟨g, k * 10 + 8, none⟩ (.bool d.b.S)).setCell ⟨g, k * 10 + 9, none⟩ (.slice d.b.A d.b.n d.b.c)) (some ⟨g, 0, none⟩) n (l.set k d) := by
  have hB := ((((((((((hg.set_ (k * 10) (.int .u32 d.id)).set_ (k * 10 + 1) (.int .i64 d.b.X)).set_ (k * 10 + 2) (.int .i64 d.b.Y)).set_ (k * 10 + 3) (.int .i64 d.b.W)).set_ (k * 10 + 4) (.int .i64 d.b.H)).set_ (k * 10 + 5) (.bool d.b.M)).set_ (k * 10 + 6) (.int .i64 d.b.G)).set_ (k * 10 + 7) (.int .i64 d.b.B)).set_ (k * 10 + 8) (.bool d.b.S)).set_ (k * 10 + 9) (.slice d.b.A d.b.n d.b.c))
  refine ⟨by rw [List.length_set, hl], fun _ => ⟨g, 0, rfl, hB.lt, fun k' x hx i u hu => ?_⟩⟩
  have hi : i < 10 := (List.getElem?_eq_some_iff.1 hu).1
  rw [Nat.zero_add, hB.cell]
  by_cases hkk : k' = k
  · subst hkk
    rw [List.getElem?_set_self (by omega)] at hx
    cases hx
    simp only [Array.getElem?_setIfInBounds]
    match i, hu with
    | 0, hu =>
      (repeat rw [if_neg (by omega)])
      rw [if_pos (by omega), if_pos (by first | omega | (simp only [Array.size_setIfInBounds]; omega))]
      exact hu
    | 1, hu =>
      (repeat rw [if_neg (by omega)])
      rw [if_pos (by omega), if_pos (by first | omega | (simp only [Array.size_setIfInBounds]; omega))]
      exact hu
    | 2, hu =>
      (repeat rw [if_neg (by omega)])
      rw [if_pos (by omega), if_pos (by first | omega | (simp only [Array.size_setIfInBounds]; omega))]
      exact hu
    | 3, hu =>
      (repeat rw [if_neg (by omega)])
      rw [if_pos (by omega), if_pos (by first | omega | (simp only [Array.size_setIfInBounds]; omega))]
      exact hu
    | 4, hu =>
      (repeat rw [if_neg (by omega)])
      rw [if_pos (by omega), if_pos (by first | omega | (simp only [Array.size_setIfInBounds]; omega))]
      exact hu
    | 5, hu =>
      (repeat rw [if_neg (by omega)])
      rw [if_pos (by omega), if_pos (by first | omega | (simp only [Array.size_setIfInBounds]; omega))]
      exact hu
    | 6, hu =>
      (repeat rw [if_neg (by omega)])
      rw [if_pos (by omega), if_pos (by first | omega | (simp only [Array.size_setIfInBounds]; omega))]
      exact hu
    | 7, hu =>
      (repeat rw [if_neg (by omega)])
      rw [if_pos (by omega), if_pos (by first | omega | (simp only [Array.size_setIfInBounds]; omega))]
      exact hu
    | 8, hu =>
      (repeat rw [if_neg (by omega)])
      rw [if_pos (by omega), if_pos (by first | omega | (simp only [Array.size_setIfInBounds]; omega))]
      exact hu
    | 9, hu =>
      (repeat rw [if_neg (by omega)])
      rw [if_pos (by omega), if_pos (by first | omega | (simp only [Array.size_setIfInBounds]; omega))]
      exact hu
    | i + 10, hu => simp [DB.cells] at hu
  · rw [List.getElem?_set_ne (fun e => hkk e.symm)] at hx
    have hk' : k' < n := by rw [← hl]; exact (List.getElem?_eq_some_iff.1 hx).1
    simp only [Array.getElem?_setIfInBounds]
    repeat rw [if_neg (by omega)]
    have h1 := flat_get DB.cells 10 DB.cells_len l k' x i hx hi
    rw [hu, ← htk, List.getElem?_take, if_pos (by omega)] at h1
    rw [← Array.getElem?_toList]
    exact h1

set_option maxRecDepth 100000 in
set_option maxHeartbeats 4000000 in
theorem dset_good_true (A : Option Addr) (n c : Nat) (l : List DB) (id X Y W H : Int) (M : Bool) (G B : Int) (As : Option Addr) (ns cs : Nat) (sh : List RC) (w : World) (hid : 0 ≤ id ∧ id ≤ 4294967295) (hn : n ≤ 1000) (hr : RdD w A n l) (hs : RdR w As ns sh) (hsn : ns ≤ 1000000)
    (h1 : id ≠ 1) (h2 : idC id = 0) (hx : coordB X = true) (hy : coordB Y = true) (hw : sideB W = true) (hh : sideB H = true) (hg : gravC G = 0) (hb : gravC B = 0) :
    Calls Tryz.prog 34 #[.slice A n c, .agg #[.int .u32 id, .int .i64 X, .int .i64 Y, .int .i64 W, .int .i64 H, .bool M, .int .i64 G, .int .i64 B, .bool true, .slice As ns cs]] w fun e w' => ∃ A' n' c', e = .returned (.tuple #[.slice A' n' c', .int .i64 (setD l (⟨id, ⟨X, Y, W, H, M, G, B, true, As, ns, cs⟩, sh⟩ : DB))]) ∧ RdD w' A' n' (setL l (⟨id, ⟨X, Y, W, H, M, G, B, true, As, ns, cs⟩, sh⟩ : DB)) ∧ Below w.heap.size w w' := by
  obtain ⟨i0, hi0, hz0, hz1, hz2⟩ := info_parts Tryz.infoDb
  have HR := Lib.hid (hr.below (bal (bre w) (.cells #[.int .u32 id, .int .i64 X, .int .i64 Y, .int .i64 W, .int .i64 H, .bool M, .int .i64 G, .int .i64 B, .bool true, .slice As ns cs] 79)))
  have HS := Lib.hid (hs.below (bal (bre w) (.cells #[.int .u32 id, .int .i64 X, .int .i64 Y, .int .i64 W, .int .i64 H, .bool M, .int .i64 G, .int .i64 B, .bool true, .slice As ns cs] 79)))
  have HB := Lib.hid (bal (bre w) (.cells #[.int .u32 id, .int .i64 X, .int .i64 Y, .int .i64 W, .int .i64 H, .bool M, .int .i64 G, .int .i64 B, .bool true, .slice As ns cs] 79))
  have K3 := Lib.hid (Blk.new w 79 #[.int .u32 id, .int .i64 X, .int .i64 Y, .int .i64 W, .int .i64 H, .bool M, .int .i64 G, .int .i64 B, .bool true, .slice As ns cs])
  have HL := Lib.hid hr.1
  have hset : setD l (⟨id, ⟨X, Y, W, H, M, G, B, true, As, ns, cs⟩, sh⟩ : DB) = (if findD l id 0 < 0 ∧ 64 ≤ l.length then 5 else if l.length = 0 then 9 else 0) := by simp [setD, h1, h2, hx, hy, hw, hh, hg, hb]
  have HSET := Lib.hid hset
  have d1 : (id == 1) = false := by simp [h1]
  have HWR := Lib.hid (show (!(decide (idC id = 0))) = false by rw [decide_eq_true h2]; rfl)
  have HX := Lib.hid hx
  have HY := Lib.hid hy
  have HW := Lib.hid hw
  have HH := Lib.hid hh
  obtain ⟨e1, e2⟩ := gravC_in hg
  obtain ⟨e3, e4⟩ := gravC_in hb
  clear hr hs hset h1 h2 hx hy hw hh hg hb
  go_enter Tryz.func34, Tryz.ntmps34
  go_wp2_with (first
    | (go_at_call 56; refine (dwrong_any _ _ hid).mono ?_; rintro e w' ⟨rfl, rfl⟩; rw [HWR.out])
    | (go_at_call 57; refine (dcoord_any _ _).mono ?_; rintro e w' ⟨rfl, rfl⟩; first | rw [HX.out] | rw [HY.out])
    | (go_at_call 53; refine (dside_any _ _).mono ?_; rintro e w' ⟨rfl, rfl⟩; first | rw [HW.out] | rw [HH.out]))
  refine (dfind_any A n c l id _ (by omega) HR.out).mono ?_
  rintro e w3 ⟨rfl, hb3⟩
  have HR := Lib.hid (HR.out.below hb3)
  have HB := Lib.hid (bstep HB.out hb3)
  have K3 := Lib.hid (K3.out.belowS hb3)
  have hfb := findD_bd l id 0 (by omega)
  obtain ⟨fi, hfi⟩ : ∃ fi, findD l id 0 = fi := ⟨_, rfl⟩
  have HF := Lib.hid hfi
  have HSET := Lib.hid (show setD l (⟨id, ⟨X, Y, W, H, M, G, B, true, As, ns, cs⟩, sh⟩ : DB) = (if fi < 0 ∧ 64 ≤ n then 5 else if n = 0 then 9 else 0) by rw [HSET.out, hfi, HL.out])
  rw [hfi] at hfb
  rw [HL.out] at hfb
  clear hb3
  by_cases hneg : fi < 0
  ·
    obtain rfl : fi = -1 := by omega
    by_cases h64 : 64 ≤ n
    · have d6 : decide ((64 : Int) ≤ (n : Int)) = true := decide_eq_true (by omega)
      have HC := Lib.hid (show setD l (⟨id, ⟨X, Y, W, H, M, G, B, true, As, ns, cs⟩, sh⟩ : DB) = 5 by rw [HSET.out, if_pos ⟨hneg, h64⟩])
      rw [HF.out]
      clear hneg h64 hfb
      go_wp2_with fail
      exact bodyPost_ret (v := .tuple #[.slice A n c, .int .i64 5]) (by simp [results, Tryz.results34, go_sem]) rfl (dset_err HC.out (by decide) HR.out HB.out)
    have d6 : decide ((64 : Int) ≤ (n : Int)) = false := decide_eq_false (by omega)
    by_cases h0 : n = 0
    · have d7 : ((n : Int) == 0) = true := by simp [h0]
      have HC := Lib.hid (show setD l (⟨id, ⟨X, Y, W, H, M, G, B, true, As, ns, cs⟩, sh⟩ : DB) = 9 by rw [HSET.out, if_neg (by omega), if_pos h0])
      rw [HF.out]
      clear hneg h64 h0 hfb
      go_wp2_with fail
      exact bodyPost_ret (v := .tuple #[.slice A n c, .int .i64 9]) (by simp [results, Tryz.results34, go_sem]) rfl (dset_err HC.out (by decide) HR.out HB.out)
    have d7 : ((n : Int) == 0) = false := by simp; omega
    have HC := Lib.hid (show setD l (⟨id, ⟨X, Y, W, H, M, G, B, true, As, ns, cs⟩, sh⟩ : DB) = 0 by rw [HSET.out, if_neg (by omega), if_neg h0])
    have HN := Lib.hid (show setL l (⟨id, ⟨X, Y, W, H, M, G, B, true, As, ns, cs⟩, sh⟩ : DB) = l ++ [(⟨id, ⟨X, Y, W, H, M, G, B, true, As, ns, cs⟩, sh⟩ : DB)] by unfold setL; rw [HC.out, if_pos rfl]; dsimp only; rw [HF.out, if_neg (by decide)])
    rw [HF.out]
    clear hneg h64 hfb
    have hA : 0 < n → A.isSome = true := fun h0 => by
      obtain ⟨b, off, e, _⟩ := HR.out.2 h0
      rw [e]; rfl
    have HA := Lib.hid hA
    have HLN := Lib.hid (show (l.flatMap DB.cells).length = n * 10 by rw [flat_len DB.cells 10 DB.cells_len, HL.out])
    have HR4 := Lib.hid (HR.out.below (bal (bre w3) (.cells #[] 79)))
    have HNW := Lib.hid (fun (ad : Addr) (e : A = some ad) => (e ▸ HR4.out : RdD (w3.alloc (.cells #[] 79)) (some ad) n l).flat DB.cells_len)
    have HO := Lib.hid (own_none w3 w3.heap.size 79 10 (Nat.le_refl _))
    clear hA
    go_wp2_with (first
      | (at_builtin; refine wpList_append_opt rfl _ _ 23 rfl w3.heap.size 79 i0 _ 10 96 Tryz.underlying23 hi0 hz0 hz1 hz2 rfl (by decide) _ _ _ rfl HO.out A n c (l.flatMap DB.cells) rfl HLN.out HA.out HNW.out (DB.cells_one l) (by simp only [maxLen]; omega) (by omega) (by simp) ?_; intro v5 w5 hown5 hg5; obtain ⟨A5, c5, rfl, hc5⟩ := own_form hown5; have HB15 := Lib.hid ((bal (bre w3) (.cells #[] 79)).grown hg5 (by simp) (fun g e => by cases e; exact Nat.le_refl _)); have b5 := K3.out.belowS HB15.out; have K3 := Lib.hid b5; have m0 := b5.cellV (i := 0) (v := .int .u32 id) rfl; have m1 := b5.cellV (i := 1) (v := .int .i64 X) rfl; have m2 := b5.cellV (i := 2) (v := .int .i64 Y) rfl; have m3 := b5.cellV (i := 3) (v := .int .i64 W) rfl; have m4 := b5.cellV (i := 4) (v := .int .i64 H) rfl; have m5 := b5.cellV (i := 5) (v := .bool M) rfl; have m6 := b5.cellV (i := 6) (v := .int .i64 G) rfl; have m7 := b5.cellV (i := 7) (v := .int .i64 B) rfl; have m8 := b5.cellV (i := 8) (v := .bool true) rfl; have m9 := b5.cellV (i := 9) (v := .slice As ns cs) rfl; have HO5 := Lib.hid hown5; have HG5 := Lib.hid hg5; have HS5 := Lib.hid (show w3.heap.size ≤ (w5.alloc (.cells #[.int .u32 id, .int .i64 X, .int .i64 Y, .int .i64 W, .int .i64 H, .bool M, .int .i64 G, .int .i64 B, .bool true, .slice As ns cs] 79)).heap.size by rw [World.size_alloc]; have := hg5.size; rw [World.size_alloc] at this; omega); clear hown5 hg5 b5; go_frame)
      | (at_builtin; refine wpList_append_opt rfl _ _ 23 rfl w3.heap.size 79 i0 _ 10 96 Tryz.underlying23 hi0 hz0 hz1 hz2 rfl (by decide) _ _ _ rfl (HO5.out.alloc _) (some ⟨w5.heap.size, 0, none⟩) 1 1 [.int .u32 id, .int .i64 X, .int .i64 Y, .int .i64 W, .int .i64 H, .bool M, .int .i64 G, .int .i64 B, .bool true, .slice As ns cs] rfl rfl (fun _ => rfl) (fun ad e => by cases e; exact ten_new _ _ _) (by simp [Value.oneCell']) (by simp only [maxLen]; omega) (by omega) HS5.out ?_; intro v6 w6 hown6 hg6; obtain ⟨A6, c6, rfl, hc6⟩ := own_form hown6; have HO6 := Lib.hid hown6; have HG6 := Lib.hid hg6; clear hown6 hg6; go_frame))
    have hO : w6.ownsRow w3.heap.size 79 10 (.slice A6 (0 + n + 1) c6) (0 + n + 1) ((l ++ [(⟨id, ⟨X, Y, W, H, M, G, B, true, As, ns, cs⟩, sh⟩ : DB)]).flatMap DB.cells) := by
      have := HO6.out
      rwa [List.nil_append, show [Value.int .u32 id, Value.int .i64 X, Value.int .i64 Y, Value.int .i64 W, Value.int .i64 H, Value.bool M, Value.int .i64 G, Value.int .i64 B, Value.bool true, Value.slice As ns cs] = [(⟨id, ⟨X, Y, W, H, M, G, B, true, As, ns, cs⟩, sh⟩ : DB)].flatMap DB.cells from rfl, ← List.flatMap_append] at this
    have hB2 := (bal HB15.out (.cells #[.int .u32 id, .int .i64 X, .int .i64 Y, .int .i64 W, .int .i64 H, .bool M, .int .i64 G, .int .i64 B, .bool true, .slice As ns cs] 79)).grown HG6.out HS5.out (fun g e => own_ge HO5.out _ e)
    exact bodyPost_ret (v := .tuple #[.slice A6 (0 + n + 1) c6, .int .i64 0]) (by simp [results, Tryz.results34, go_sem]) rfl ⟨A6, 0 + n + 1, c6, by rw [HC.out], by rw [HN.out]; exact RdF.of_own DB.cells_len hO (by rw [List.length_append, HL.out]; simp), bstep HB.out hB2⟩
  ·
    obtain ⟨k, rfl⟩ : ∃ k : Nat, fi = (k : Int) := ⟨fi.toNat, by omega⟩
    have hkn : k < n := by omega
    have d6 : ((n : Int) == 0) = false := by simp; omega
    have HC := Lib.hid (show setD l (⟨id, ⟨X, Y, W, H, M, G, B, true, As, ns, cs⟩, sh⟩ : DB) = 0 by rw [HSET.out, if_neg (by omega), if_neg (by omega)])
    have HN := Lib.hid (show setL l (⟨id, ⟨X, Y, W, H, M, G, B, true, As, ns, cs⟩, sh⟩ : DB) = l.set k (⟨id, ⟨X, Y, W, H, M, G, B, true, As, ns, cs⟩, sh⟩ : DB) by unfold setL; rw [HC.out, if_pos rfl]; dsimp only; rw [HF.out, if_pos (by omega)]; simp)
    have d5 : decide ((k : Int) < 0) = false := decide_eq_false (by omega)
    have d8 : decide ((0 : Int) ≤ (k : Int)) = true := decide_eq_true (by omega)
    rw [HF.out]
    clear hneg hfb
    have hA : 0 < n → A.isSome = true := fun h0 => by
      obtain ⟨b, off, e, _⟩ := HR.out.2 h0
      rw [e]; rfl
    have HA := Lib.hid hA
    have HLN := Lib.hid (show (l.flatMap DB.cells).length = n * 10 by rw [flat_len DB.cells 10 DB.cells_len, HL.out])
    have HR4 := Lib.hid (HR.out.below (bal (bre w3) (.cells #[] 79)))
    have HNW := Lib.hid (fun (ad : Addr) (e : A = some ad) => (e ▸ HR4.out : RdD (w3.alloc (.cells #[] 79)) (some ad) n l).flat DB.cells_len)
    have HO := Lib.hid (own_none w3 w3.heap.size 79 10 (Nat.le_refl _))
    clear hA
    go_upto_region 20 with (at_builtin; refine wpList_append_opt rfl _ _ 23 rfl w3.heap.size 79 i0 _ 10 96 Tryz.underlying23 hi0 hz0 hz1 hz2 rfl (by decide) _ _ _ rfl HO.out A n c (l.flatMap DB.cells) rfl HLN.out HA.out HNW.out (DB.cells_one l) (by simp only [maxLen]; omega) (by omega) (by simp) ?_; intro v5 w5 hown5 hg5; obtain ⟨A5, c5, rfl, hc5⟩ := own_form hown5; have HB15 := Lib.hid ((bal (bre w3) (.cells #[] 79)).grown hg5 (by simp) (fun g e => by cases e; exact Nat.le_refl _)); have b5 := K3.out.belowS HB15.out; have K3 := Lib.hid b5; have m0 := b5.cellV (i := 0) (v := .int .u32 id) rfl; have m1 := b5.cellV (i := 1) (v := .int .i64 X) rfl; have m2 := b5.cellV (i := 2) (v := .int .i64 Y) rfl; have m3 := b5.cellV (i := 3) (v := .int .i64 W) rfl; have m4 := b5.cellV (i := 4) (v := .int .i64 H) rfl; have m5 := b5.cellV (i := 5) (v := .bool M) rfl; have m6 := b5.cellV (i := 6) (v := .int .i64 G) rfl; have m7 := b5.cellV (i := 7) (v := .int .i64 B) rfl; have m8 := b5.cellV (i := 8) (v := .bool true) rfl; have m9 := b5.cellV (i := 9) (v := .slice As ns cs) rfl; have HO5 := Lib.hid hown5; have HG5 := Lib.hid hg5; have HS5 := Lib.hid (show w3.heap.size ≤ (w5.alloc (.cells #[.int .u32 id, .int .i64 X, .int .i64 Y, .int .i64 W, .int .i64 H, .bool M, .int .i64 G, .int .i64 B, .bool true, .slice As ns cs] 79)).heap.size by rw [World.size_alloc]; have := hg5.size; rw [World.size_alloc] at this; omega); clear hown5 hg5 b5; go_frame)
    have hown := HO5.out
    rw [List.nil_append] at hown
    obtain ⟨g, rfl, hgb, cur, hg, hsz, htk⟩ : ∃ g, A5 = some ⟨g, 0, none⟩ ∧ w3.heap.size ≤ g ∧ ∃ cur, Blk w5 g 79 cur ∧ n * 10 ≤ cur.size ∧ cur.toList.take (n * 10) = l.flatMap DB.cells := by
      rcases hown.2 with ⟨e1, e2⟩ | ⟨g, cap, cur, e1, hb, hg, hnc, hcm, hcs, htk⟩
      · injection e1; omega
      · injection e1 with e1 _ _
        refine ⟨g, e1, hb, cur, hg, ?_, ?_⟩
        · rw [hcs]; exact Nat.mul_le_mul_right _ (by omega)
        · have h := htk
          rwa [Nat.zero_add] at h
    have HG0 := Lib.hid hg
    have hkc : k * 10 + 9 < cur.size := by omega
    obtain ⟨u0, hu0⟩ : ∃ u, cur[k * 10 + 0]? = some u := ⟨_, Array.getElem?_eq_getElem (by omega)⟩
    have o0 := hg.cellV (i := k * 10) (v := u0) hu0
    have f0 := hg.frozen (k * 10)
    obtain ⟨u1, hu1⟩ : ∃ u, cur[k * 10 + 1]? = some u := ⟨_, Array.getElem?_eq_getElem (by omega)⟩
    have o1 := hg.cellV (i := k * 10 + 1) (v := u1) hu1
    have f1 := hg.frozen (k * 10 + 1)
    obtain ⟨u2, hu2⟩ : ∃ u, cur[k * 10 + 2]? = some u := ⟨_, Array.getElem?_eq_getElem (by omega)⟩
    have o2 := hg.cellV (i := k * 10 + 2) (v := u2) hu2
    have f2 := hg.frozen (k * 10 + 2)
    obtain ⟨u3, hu3⟩ : ∃ u, cur[k * 10 + 3]? = some u := ⟨_, Array.getElem?_eq_getElem (by omega)⟩
    have o3 := hg.cellV (i := k * 10 + 3) (v := u3) hu3
    have f3 := hg.frozen (k * 10 + 3)
    obtain ⟨u4, hu4⟩ : ∃ u, cur[k * 10 + 4]? = some u := ⟨_, Array.getElem?_eq_getElem (by omega)⟩
    have o4 := hg.cellV (i := k * 10 + 4) (v := u4) hu4
    have f4 := hg.frozen (k * 10 + 4)
    obtain ⟨u5, hu5⟩ : ∃ u, cur[k * 10 + 5]? = some u := ⟨_, Array.getElem?_eq_getElem (by omega)⟩
    have o5 := hg.cellV (i := k * 10 + 5) (v := u5) hu5
    have f5 := hg.frozen (k * 10 + 5)
    obtain ⟨u6, hu6⟩ : ∃ u, cur[k * 10 + 6]? = some u := ⟨_, Array.getElem?_eq_getElem (by omega)⟩
    have o6 := hg.cellV (i := k * 10 + 6) (v := u6) hu6
    have f6 := hg.frozen (k * 10 + 6)
    obtain ⟨u7, hu7⟩ : ∃ u, cur[k * 10 + 7]? = some u := ⟨_, Array.getElem?_eq_getElem (by omega)⟩
    have o7 := hg.cellV (i := k * 10 + 7) (v := u7) hu7
    have f7 := hg.frozen (k * 10 + 7)
    obtain ⟨u8, hu8⟩ : ∃ u, cur[k * 10 + 8]? = some u := ⟨_, Array.getElem?_eq_getElem (by omega)⟩
    have o8 := hg.cellV (i := k * 10 + 8) (v := u8) hu8
    have f8 := hg.frozen (k * 10 + 8)
    obtain ⟨u9, hu9⟩ : ∃ u, cur[k * 10 + 9]? = some u := ⟨_, Array.getElem?_eq_getElem (by omega)⟩
    have o9 := hg.cellV (i := k * 10 + 9) (v := u9) hu9
    have f9 := hg.frozen (k * 10 + 9)
    have lg := hg.lt
    have k1 : (k : Int) < (n : Int) := by omega
    have k2 : (k : Int) < ((0 + n : Nat) : Int) := by omega
    have k0 : (0 : Int) ≤ (k : Int) := by omega
    have HSZ := Lib.hid hsz
    have HTK := Lib.hid htk
    clear hown hg hsz htk hu0 hu1 hu2 hu3 hu4 hu5 hu6 hu7 hu8 hu9
    go_upto_region 21 with fail
    have hput : RdD ((((((((((w5.setCell ⟨g, k * 10, none⟩ (.int .u32 id)).setCell ⟨g, k * 10 + 1, none⟩ (.int .i64 X)).setCell ⟨g, k * 10 + 2, none⟩ (.int .i64 Y)).setCell ⟨g, k * 10 + 3, none⟩ (.int .i64 W)).setCell ⟨g, k * 10 + 4, none⟩ (.int .i64 H)).setCell ⟨g, k * 10 + 5, none⟩ (.bool M)).setCell ⟨g, k * 10 + 6, none⟩ (.int .i64 G)).setCell ⟨g, k * 10 + 7, none⟩ (.int .i64 B)).setCell ⟨g, k * 10 + 8, none⟩ (.bool true)).setCell ⟨g, k * 10 + 9, none⟩ (.slice As ns cs)) (some ⟨g, 0, none⟩) n (l.set k (⟨id, ⟨X, Y, W, H, M, G, B, true, As, ns, cs⟩, sh⟩ : DB)) := RdD.put10 (d := (⟨id, ⟨X, Y, W, H, M, G, B, true, As, ns, cs⟩, sh⟩ : DB)) HG0.out hkn HL.out HSZ.out HTK.out
    have hbel := bset (p := ⟨g, k * 10 + 9, none⟩) (bset (p := ⟨g, k * 10 + 8, none⟩) (bset (p := ⟨g, k * 10 + 7, none⟩) (bset (p := ⟨g, k * 10 + 6, none⟩) (bset (p := ⟨g, k * 10 + 5, none⟩) (bset (p := ⟨g, k * 10 + 4, none⟩) (bset (p := ⟨g, k * 10 + 3, none⟩) (bset (p := ⟨g, k * 10 + 2, none⟩) (bset (p := ⟨g, k * 10 + 1, none⟩) (bset (p := ⟨g, k * 10, none⟩) (HB15.out) hgb (.int .u32 id)) hgb (.int .i64 X)) hgb (.int .i64 Y)) hgb (.int .i64 W)) hgb (.int .i64 H)) hgb (.bool M)) hgb (.int .i64 G)) hgb (.int .i64 B)) hgb (.bool true)) hgb (.slice As ns cs)
    clear o0 f0 o1 f1 o2 f2 o3 f3 o4 f4 o5 f5 o6 f6 o7 f7 o8 f8 o9 f9
    obtain ⟨WZ, hWZ⟩ : ∃ WZ, ((((((((((w5.setCell ⟨g, k * 10, none⟩ (.int .u32 id)).setCell ⟨g, k * 10 + 1, none⟩ (.int .i64 X)).setCell ⟨g, k * 10 + 2, none⟩ (.int .i64 Y)).setCell ⟨g, k * 10 + 3, none⟩ (.int .i64 W)).setCell ⟨g, k * 10 + 4, none⟩ (.int .i64 H)).setCell ⟨g, k * 10 + 5, none⟩ (.bool M)).setCell ⟨g, k * 10 + 6, none⟩ (.int .i64 G)).setCell ⟨g, k * 10 + 7, none⟩ (.int .i64 B)).setCell ⟨g, k * 10 + 8, none⟩ (.bool true)).setCell ⟨g, k * 10 + 9, none⟩ (.slice As ns cs)) = WZ := ⟨_, rfl⟩
    rw [hWZ] at hput hbel ⊢
    have HPUT := Lib.hid hput
    have HBEL := Lib.hid hbel
    clear hput hbel hWZ
    go_wp2_with fail
    exact bodyPost_ret (v := .tuple #[.slice (some ⟨g, 0, none⟩) (0 + n) c5, .int .i64 0]) (by simp [results, Tryz.results34, go_sem]) rfl ⟨some ⟨g, 0, none⟩, 0 + n, c5, by rw [HC.out], by rw [HN.out, Nat.zero_add]; exact HPUT.out, bstep HB.out HBEL.out⟩

set_option maxRecDepth 100000 in
set_option maxHeartbeats 4000000 in
theorem dset_good_false (A : Option Addr) (n c : Nat) (l : List DB) (id X Y W H : Int) (M : Bool) (G B : Int) (As : Option Addr) (ns cs : Nat) (sh : List RC) (w : World) (hid : 0 ≤ id ∧ id ≤ 4294967295) (hn : n ≤ 1000) (hr : RdD w A n l) (hs : RdR w As ns sh) (hsn : ns ≤ 1000000)
    (h1 : id ≠ 1) (h2 : idC id = 0) (hx : coordB X = true) (hy : coordB Y = true) (hw : sideB W = true) (hh : sideB H = true) (hg : gravC G = 0) (hb : gravC B = 0) (h8 : emptyD sh = true) :
    Calls Tryz.prog 34 #[.slice A n c, .agg #[.int .u32 id, .int .i64 X, .int .i64 Y, .int .i64 W, .int .i64 H, .bool M, .int .i64 G, .int .i64 B, .bool false, .slice As ns cs]] w fun e w' => ∃ A' n' c', e = .returned (.tuple #[.slice A' n' c', .int .i64 (setD l (⟨id, ⟨X, Y, W, H, M, G, B, false, As, ns, cs⟩, sh⟩ : DB))]) ∧ RdD w' A' n' (setL l (⟨id, ⟨X, Y, W, H, M, G, B, false, As, ns, cs⟩, sh⟩ : DB)) ∧ Below w.heap.size w w' := by
  obtain ⟨i0, hi0, hz0, hz1, hz2⟩ := info_parts Tryz.infoDb
  have HR := Lib.hid (hr.below (bal (bre w) (.cells #[.int .u32 id, .int .i64 X, .int .i64 Y, .int .i64 W, .int .i64 H, .bool M, .int .i64 G, .int .i64 B, .bool false, .slice As ns cs] 79)))
  have HS := Lib.hid (hs.below (bal (bre w) (.cells #[.int .u32 id, .int .i64 X, .int .i64 Y, .int .i64 W, .int .i64 H, .bool M, .int .i64 G, .int .i64 B, .bool false, .slice As ns cs] 79)))
  have HB := Lib.hid (bal (bre w) (.cells #[.int .u32 id, .int .i64 X, .int .i64 Y, .int .i64 W, .int .i64 H, .bool M, .int .i64 G, .int .i64 B, .bool false, .slice As ns cs] 79))
  have K3 := Lib.hid (Blk.new w 79 #[.int .u32 id, .int .i64 X, .int .i64 Y, .int .i64 W, .int .i64 H, .bool M, .int .i64 G, .int .i64 B, .bool false, .slice As ns cs])
  have HL := Lib.hid hr.1
  have hset : setD l (⟨id, ⟨X, Y, W, H, M, G, B, false, As, ns, cs⟩, sh⟩ : DB) = (if findD l id 0 < 0 ∧ 64 ≤ l.length then 5 else if l.length = 0 then 9 else 0) := by simp [setD, h1, h2, hx, hy, hw, hh, hg, hb, h8]
  have HSET := Lib.hid hset
  have d1 : (id == 1) = false := by simp [h1]
  have HWR := Lib.hid (show (!(decide (idC id = 0))) = false by rw [decide_eq_true h2]; rfl)
  have HX := Lib.hid hx
  have HY := Lib.hid hy
  have HW := Lib.hid hw
  have HH := Lib.hid hh
  obtain ⟨e1, e2⟩ := gravC_in hg
  obtain ⟨e3, e4⟩ := gravC_in hb
  have HE := Lib.hid h8
  clear hr hs hset h1 h2 hx hy hw hh hg hb h8
  go_enter Tryz.func34, Tryz.ntmps34
  go_wp2_with (first
    | (go_at_call 56; refine (dwrong_any _ _ hid).mono ?_; rintro e w' ⟨rfl, rfl⟩; rw [HWR.out])
    | (go_at_call 57; refine (dcoord_any _ _).mono ?_; rintro e w' ⟨rfl, rfl⟩; first | rw [HX.out] | rw [HY.out])
    | (go_at_call 53; refine (dside_any _ _).mono ?_; rintro e w' ⟨rfl, rfl⟩; first | rw [HW.out] | rw [HH.out])
    | (go_at_call 58; refine (dempty_any As ns cs sh _ hsn HS.out).mono ?_; rintro e w2 ⟨rfl, hb2⟩; rw [HE.out]; have HR := Lib.hid (HR.out.below hb2); have b3 := K3.out.belowS hb2; have c0 := b3.cellV (i := 0) (v := .int .u32 id) rfl; have K3 := Lib.hid b3; have HB := Lib.hid (bstep HB.out hb2); clear hb2 b3))
  clear c0
  refine (dfind_any A n c l id _ (by omega) HR.out).mono ?_
  rintro e w3 ⟨rfl, hb3⟩
  have HR := Lib.hid (HR.out.below hb3)
  have HB := Lib.hid (bstep HB.out hb3)
  have K3 := Lib.hid (K3.out.belowS hb3)
  have hfb := findD_bd l id 0 (by omega)
  obtain ⟨fi, hfi⟩ : ∃ fi, findD l id 0 = fi := ⟨_, rfl⟩
  have HF := Lib.hid hfi
  have HSET := Lib.hid (show setD l (⟨id, ⟨X, Y, W, H, M, G, B, false, As, ns, cs⟩, sh⟩ : DB) = (if fi < 0 ∧ 64 ≤ n then 5 else if n = 0 then 9 else 0) by rw [HSET.out, hfi, HL.out])
  rw [hfi] at hfb
  rw [HL.out] at hfb
  clear hb3
  by_cases hneg : fi < 0
  ·
    obtain rfl : fi = -1 := by omega
    by_cases h64 : 64 ≤ n
    · have d6 : decide ((64 : Int) ≤ (n : Int)) = true := decide_eq_true (by omega)
      have HC := Lib.hid (show setD l (⟨id, ⟨X, Y, W, H, M, G, B, false, As, ns, cs⟩, sh⟩ : DB) = 5 by rw [HSET.out, if_pos ⟨hneg, h64⟩])
      rw [HF.out]
      clear hneg h64 hfb
      go_wp2_with fail
      exact bodyPost_ret (v := .tuple #[.slice A n c, .int .i64 5]) (by simp [results, Tryz.results34, go_sem]) rfl (dset_err HC.out (by decide) HR.out HB.out)
    have d6 : decide ((64 : Int) ≤ (n : Int)) = false := decide_eq_false (by omega)
    by_cases h0 : n = 0
    · have d7 : ((n : Int) == 0) = true := by simp [h0]
      have HC := Lib.hid (show setD l (⟨id, ⟨X, Y, W, H, M, G, B, false, As, ns, cs⟩, sh⟩ : DB) = 9 by rw [HSET.out, if_neg (by omega), if_pos h0])
      rw [HF.out]
      clear hneg h64 h0 hfb
      go_wp2_with fail
      exact bodyPost_ret (v := .tuple #[.slice A n c, .int .i64 9]) (by simp [results, Tryz.results34, go_sem]) rfl (dset_err HC.out (by decide) HR.out HB.out)
    have d7 : ((n : Int) == 0) = false := by simp; omega
    have HC := Lib.hid (show setD l (⟨id, ⟨X, Y, W, H, M, G, B, false, As, ns, cs⟩, sh⟩ : DB) = 0 by rw [HSET.out, if_neg (by omega), if_neg h0])
    have HN := Lib.hid (show setL l (⟨id, ⟨X, Y, W, H, M, G, B, false, As, ns, cs⟩, sh⟩ : DB) = l ++ [(⟨id, ⟨X, Y, W, H, M, G, B, false, As, ns, cs⟩, sh⟩ : DB)] by unfold setL; rw [HC.out, if_pos rfl]; dsimp only; rw [HF.out, if_neg (by decide)])
    rw [HF.out]
    clear hneg h64 hfb
    have hA : 0 < n → A.isSome = true := fun h0 => by
      obtain ⟨b, off, e, _⟩ := HR.out.2 h0
      rw [e]; rfl
    have HA := Lib.hid hA
    have HLN := Lib.hid (show (l.flatMap DB.cells).length = n * 10 by rw [flat_len DB.cells 10 DB.cells_len, HL.out])
    have HR4 := Lib.hid (HR.out.below (bal (bre w3) (.cells #[] 79)))
    have HNW := Lib.hid (fun (ad : Addr) (e : A = some ad) => (e ▸ HR4.out : RdD (w3.alloc (.cells #[] 79)) (some ad) n l).flat DB.cells_len)
    have HO := Lib.hid (own_none w3 w3.heap.size 79 10 (Nat.le_refl _))
    clear hA
    go_wp2_with (first
      | (at_builtin; refine wpList_append_opt rfl _ _ 23 rfl w3.heap.size 79 i0 _ 10 96 Tryz.underlying23 hi0 hz0 hz1 hz2 rfl (by decide) _ _ _ rfl HO.out A n c (l.flatMap DB.cells) rfl HLN.out HA.out HNW.out (DB.cells_one l) (by simp only [maxLen]; omega) (by omega) (by simp) ?_; intro v5 w5 hown5 hg5; obtain ⟨A5, c5, rfl, hc5⟩ := own_form hown5; have HB15 := Lib.hid ((bal (bre w3) (.cells #[] 79)).grown hg5 (by simp) (fun g e => by cases e; exact Nat.le_refl _)); have b5 := K3.out.belowS HB15.out; have K3 := Lib.hid b5; have m0 := b5.cellV (i := 0) (v := .int .u32 id) rfl; have m1 := b5.cellV (i := 1) (v := .int .i64 X) rfl; have m2 := b5.cellV (i := 2) (v := .int .i64 Y) rfl; have m3 := b5.cellV (i := 3) (v := .int .i64 W) rfl; have m4 := b5.cellV (i := 4) (v := .int .i64 H) rfl; have m5 := b5.cellV (i := 5) (v := .bool M) rfl; have m6 := b5.cellV (i := 6) (v := .int .i64 G) rfl; have m7 := b5.cellV (i := 7) (v := .int .i64 B) rfl; have m8 := b5.cellV (i := 8) (v := .bool false) rfl; have m9 := b5.cellV (i := 9) (v := .slice As ns cs) rfl; have HO5 := Lib.hid hown5; have HG5 := Lib.hid hg5; have HS5 := Lib.hid (show w3.heap.size ≤ (w5.alloc (.cells #[.int .u32 id, .int .i64 X, .int .i64 Y, .int .i64 W, .int .i64 H, .bool M, .int .i64 G, .int .i64 B, .bool false, .slice As ns cs] 79)).heap.size by rw [World.size_alloc]; have := hg5.size; rw [World.size_alloc] at this; omega); clear hown5 hg5 b5; go_frame)
      | (at_builtin; refine wpList_append_opt rfl _ _ 23 rfl w3.heap.size 79 i0 _ 10 96 Tryz.underlying23 hi0 hz0 hz1 hz2 rfl (by decide) _ _ _ rfl (HO5.out.alloc _) (some ⟨w5.heap.size, 0, none⟩) 1 1 [.int .u32 id, .int .i64 X, .int .i64 Y, .int .i64 W, .int .i64 H, .bool M, .int .i64 G, .int .i64 B, .bool false, .slice As ns cs] rfl rfl (fun _ => rfl) (fun ad e => by cases e; exact ten_new _ _ _) (by simp [Value.oneCell']) (by simp only [maxLen]; omega) (by omega) HS5.out ?_; intro v6 w6 hown6 hg6; obtain ⟨A6, c6, rfl, hc6⟩ := own_form hown6; have HO6 := Lib.hid hown6; have HG6 := Lib.hid hg6; clear hown6 hg6; go_frame))
    have hO : w6.ownsRow w3.heap.size 79 10 (.slice A6 (0 + n + 1) c6) (0 + n + 1) ((l ++ [(⟨id, ⟨X, Y, W, H, M, G, B, false, As, ns, cs⟩, sh⟩ : DB)]).flatMap DB.cells) := by
      have := HO6.out
      rwa [List.nil_append, show [Value.int .u32 id, Value.int .i64 X, Value.int .i64 Y, Value.int .i64 W, Value.int .i64 H, Value.bool M, Value.int .i64 G, Value.int .i64 B, Value.bool false, Value.slice As ns cs] = [(⟨id, ⟨X, Y, W, H, M, G, B, false, As, ns, cs⟩, sh⟩ : DB)].flatMap DB.cells from rfl, ← List.flatMap_append] at this
    have hB2 := (bal HB15.out (.cells #[.int .u32 id, .int .i64 X, .int .i64 Y, .int .i64 W, .int .i64 H, .bool M, .int .i64 G, .int .i64 B, .bool false, .slice As ns cs] 79)).grown HG6.out HS5.out (fun g e => own_ge HO5.out _ e)
    exact bodyPost_ret (v := .tuple #[.slice A6 (0 + n + 1) c6, .int .i64 0]) (by simp [results, Tryz.results34, go_sem]) rfl ⟨A6, 0 + n + 1, c6, by rw [HC.out], by rw [HN.out]; exact RdF.of_own DB.cells_len hO (by rw [List.length_append, HL.out]; simp), bstep HB.out hB2⟩
  ·
    obtain ⟨k, rfl⟩ : ∃ k : Nat, fi = (k : Int) := ⟨fi.toNat, by omega⟩
    have hkn : k < n := by omega
    have d6 : ((n : Int) == 0) = false := by simp; omega
    have HC := Lib.hid (show setD l (⟨id, ⟨X, Y, W, H, M, G, B, false, As, ns, cs⟩, sh⟩ : DB) = 0 by rw [HSET.out, if_neg (by omega), if_neg (by omega)])
    have HN := Lib.hid (show setL l (⟨id, ⟨X, Y, W, H, M, G, B, false, As, ns, cs⟩, sh⟩ : DB) = l.set k (⟨id, ⟨X, Y, W, H, M, G, B, false, As, ns, cs⟩, sh⟩ : DB) by unfold setL; rw [HC.out, if_pos rfl]; dsimp only; rw [HF.out, if_pos (by omega)]; simp)
    have d5 : decide ((k : Int) < 0) = false := decide_eq_false (by omega)
    have d8 : decide ((0 : Int) ≤ (k : Int)) = true := decide_eq_true (by omega)
    rw [HF.out]
    clear hneg hfb
    have hA : 0 < n → A.isSome = true := fun h0 => by
      obtain ⟨b, off, e, _⟩ := HR.out.2 h0
      rw [e]; rfl
    have HA := Lib.hid hA
    have HLN := Lib.hid (show (l.flatMap DB.cells).length = n * 10 by rw [flat_len DB.cells 10 DB.cells_len, HL.out])
    have HR4 := Lib.hid (HR.out.below (bal (bre w3) (.cells #[] 79)))
    have HNW := Lib.hid (fun (ad : Addr) (e : A = some ad) => (e ▸ HR4.out : RdD (w3.alloc (.cells #[] 79)) (some ad) n l).flat DB.cells_len)
    have HO := Lib.hid (own_none w3 w3.heap.size 79 10 (Nat.le_refl _))
    clear hA
    go_upto_region 20 with (at_builtin; refine wpList_append_opt rfl _ _ 23 rfl w3.heap.size 79 i0 _ 10 96 Tryz.underlying23 hi0 hz0 hz1 hz2 rfl (by decide) _ _ _ rfl HO.out A n c (l.flatMap DB.cells) rfl HLN.out HA.out HNW.out (DB.cells_one l) (by simp only [maxLen]; omega) (by omega) (by simp) ?_; intro v5 w5 hown5 hg5; obtain ⟨A5, c5, rfl, hc5⟩ := own_form hown5; have HB15 := Lib.hid ((bal (bre w3) (.cells #[] 79)).grown hg5 (by simp) (fun g e => by cases e; exact Nat.le_refl _)); have b5 := K3.out.belowS HB15.out; have K3 := Lib.hid b5; have m0 := b5.cellV (i := 0) (v := .int .u32 id) rfl; have m1 := b5.cellV (i := 1) (v := .int .i64 X) rfl; have m2 := b5.cellV (i := 2) (v := .int .i64 Y) rfl; have m3 := b5.cellV (i := 3) (v := .int .i64 W) rfl; have m4 := b5.cellV (i := 4) (v := .int .i64 H) rfl; have m5 := b5.cellV (i := 5) (v := .bool M) rfl; have m6 := b5.cellV (i := 6) (v := .int .i64 G) rfl; have m7 := b5.cellV (i := 7) (v := .int .i64 B) rfl; have m8 := b5.cellV (i := 8) (v := .bool false) rfl; have m9 := b5.cellV (i := 9) (v := .slice As ns cs) rfl; have HO5 := Lib.hid hown5; have HG5 := Lib.hid hg5; have HS5 := Lib.hid (show w3.heap.size ≤ (w5.alloc (.cells #[.int .u32 id, .int .i64 X, .int .i64 Y, .int .i64 W, .int .i64 H, .bool M, .int .i64 G, .int .i64 B, .bool false, .slice As ns cs] 79)).heap.size by rw [World.size_alloc]; have := hg5.size; rw [World.size_alloc] at this; omega); clear hown5 hg5 b5; go_frame)
    have hown := HO5.out
    rw [List.nil_append] at hown
    obtain ⟨g, rfl, hgb, cur, hg, hsz, htk⟩ : ∃ g, A5 = some ⟨g, 0, none⟩ ∧ w3.heap.size ≤ g ∧ ∃ cur, Blk w5 g 79 cur ∧ n * 10 ≤ cur.size ∧ cur.toList.take (n * 10) = l.flatMap DB.cells := by
      rcases hown.2 with ⟨e1, e2⟩ | ⟨g, cap, cur, e1, hb, hg, hnc, hcm, hcs, htk⟩
      · injection e1; omega
      · injection e1 with e1 _ _
        refine ⟨g, e1, hb, cur, hg, ?_, ?_⟩
        · rw [hcs]; exact Nat.mul_le_mul_right _ (by omega)
        · have h := htk
          rwa [Nat.zero_add] at h
    have HG0 := Lib.hid hg
    have hkc : k * 10 + 9 < cur.size := by omega
    obtain ⟨u0, hu0⟩ : ∃ u, cur[k * 10 + 0]? = some u := ⟨_, Array.getElem?_eq_getElem (by omega)⟩
    have o0 := hg.cellV (i := k * 10) (v := u0) hu0
    have f0 := hg.frozen (k * 10)
    obtain ⟨u1, hu1⟩ : ∃ u, cur[k * 10 + 1]? = some u := ⟨_, Array.getElem?_eq_getElem (by omega)⟩
    have o1 := hg.cellV (i := k * 10 + 1) (v := u1) hu1
    have f1 := hg.frozen (k * 10 + 1)
    obtain ⟨u2, hu2⟩ : ∃ u, cur[k * 10 + 2]? = some u := ⟨_, Array.getElem?_eq_getElem (by omega)⟩
    have o2 := hg.cellV (i := k * 10 + 2) (v := u2) hu2
    have f2 := hg.frozen (k * 10 + 2)
    obtain ⟨u3, hu3⟩ : ∃ u, cur[k * 10 + 3]? = some u := ⟨_, Array.getElem?_eq_getElem (by omega)⟩
    have o3 := hg.cellV (i := k * 10 + 3) (v := u3) hu3
    have f3 := hg.frozen (k * 10 + 3)
    obtain ⟨u4, hu4⟩ : ∃ u, cur[k * 10 + 4]? = some u := ⟨_, Array.getElem?_eq_getElem (by omega)⟩
    have o4 := hg.cellV (i := k * 10 + 4) (v := u4) hu4
    have f4 := hg.frozen (k * 10 + 4)
    obtain ⟨u5, hu5⟩ : ∃ u, cur[k * 10 + 5]? = some u := ⟨_, Array.getElem?_eq_getElem (by omega)⟩
    have o5 := hg.cellV (i := k * 10 + 5) (v := u5) hu5
    have f5 := hg.frozen (k * 10 + 5)
    obtain ⟨u6, hu6⟩ : ∃ u, cur[k * 10 + 6]? = some u := ⟨_, Array.getElem?_eq_getElem (by omega)⟩
    have o6 := hg.cellV (i := k * 10 + 6) (v := u6) hu6
    have f6 := hg.frozen (k * 10 + 6)
    obtain ⟨u7, hu7⟩ : ∃ u, cur[k * 10 + 7]? = some u := ⟨_, Array.getElem?_eq_getElem (by omega)⟩
    have o7 := hg.cellV (i := k * 10 + 7) (v := u7) hu7
    have f7 := hg.frozen (k * 10 + 7)
    obtain ⟨u8, hu8⟩ : ∃ u, cur[k * 10 + 8]? = some u := ⟨_, Array.getElem?_eq_getElem (by omega)⟩
    have o8 := hg.cellV (i := k * 10 + 8) (v := u8) hu8
    have f8 := hg.frozen (k * 10 + 8)
    obtain ⟨u9, hu9⟩ : ∃ u, cur[k * 10 + 9]? = some u := ⟨_, Array.getElem?_eq_getElem (by omega)⟩
    have o9 := hg.cellV (i := k * 10 + 9) (v := u9) hu9
    have f9 := hg.frozen (k * 10 + 9)
    have lg := hg.lt
    have k1 : (k : Int) < (n : Int) := by omega
    have k2 : (k : Int) < ((0 + n : Nat) : Int) := by omega
    have k0 : (0 : Int) ≤ (k : Int) := by omega
    have HSZ := Lib.hid hsz
    have HTK := Lib.hid htk
    clear hown hg hsz htk hu0 hu1 hu2 hu3 hu4 hu5 hu6 hu7 hu8 hu9
    go_upto_region 21 with fail
    have hput : RdD ((((((((((w5.setCell ⟨g, k * 10, none⟩ (.int .u32 id)).setCell ⟨g, k * 10 + 1, none⟩ (.int .i64 X)).setCell ⟨g, k * 10 + 2, none⟩ (.int .i64 Y)).setCell ⟨g, k * 10 + 3, none⟩ (.int .i64 W)).setCell ⟨g, k * 10 + 4, none⟩ (.int .i64 H)).setCell ⟨g, k * 10 + 5, none⟩ (.bool M)).setCell ⟨g, k * 10 + 6, none⟩ (.int .i64 G)).setCell ⟨g, k * 10 + 7, none⟩ (.int .i64 B)).setCell ⟨g, k * 10 + 8, none⟩ (.bool false)).setCell ⟨g, k * 10 + 9, none⟩ (.slice As ns cs)) (some ⟨g, 0, none⟩) n (l.set k (⟨id, ⟨X, Y, W, H, M, G, B, false, As, ns, cs⟩, sh⟩ : DB)) := RdD.put10 (d := (⟨id, ⟨X, Y, W, H, M, G, B, false, As, ns, cs⟩, sh⟩ : DB)) HG0.out hkn HL.out HSZ.out HTK.out
    have hbel := bset (p := ⟨g, k * 10 + 9, none⟩) (bset (p := ⟨g, k * 10 + 8, none⟩) (bset (p := ⟨g, k * 10 + 7, none⟩) (bset (p := ⟨g, k * 10 + 6, none⟩) (bset (p := ⟨g, k * 10 + 5, none⟩) (bset (p := ⟨g, k * 10 + 4, none⟩) (bset (p := ⟨g, k * 10 + 3, none⟩) (bset (p := ⟨g, k * 10 + 2, none⟩) (bset (p := ⟨g, k * 10 + 1, none⟩) (bset (p := ⟨g, k * 10, none⟩) (HB15.out) hgb (.int .u32 id)) hgb (.int .i64 X)) hgb (.int .i64 Y)) hgb (.int .i64 W)) hgb (.int .i64 H)) hgb (.bool M)) hgb (.int .i64 G)) hgb (.int .i64 B)) hgb (.bool false)) hgb (.slice As ns cs)
    clear o0 f0 o1 f1 o2 f2 o3 f3 o4 f4 o5 f5 o6 f6 o7 f7 o8 f8 o9 f9
    obtain ⟨WZ, hWZ⟩ : ∃ WZ, ((((((((((w5.setCell ⟨g, k * 10, none⟩ (.int .u32 id)).setCell ⟨g, k * 10 + 1, none⟩ (.int .i64 X)).setCell ⟨g, k * 10 + 2, none⟩ (.int .i64 Y)).setCell ⟨g, k * 10 + 3, none⟩ (.int .i64 W)).setCell ⟨g, k * 10 + 4, none⟩ (.int .i64 H)).setCell ⟨g, k * 10 + 5, none⟩ (.bool M)).setCell ⟨g, k * 10 + 6, none⟩ (.int .i64 G)).setCell ⟨g, k * 10 + 7, none⟩ (.int .i64 B)).setCell ⟨g, k * 10 + 8, none⟩ (.bool false)).setCell ⟨g, k * 10 + 9, none⟩ (.slice As ns cs)) = WZ := ⟨_, rfl⟩
    rw [hWZ] at hput hbel ⊢
    have HPUT := Lib.hid hput
    have HBEL := Lib.hid hbel
    clear hput hbel hWZ
    go_wp2_with fail
    exact bodyPost_ret (v := .tuple #[.slice (some ⟨g, 0, none⟩) (0 + n) c5, .int .i64 0]) (by simp [results, Tryz.results34, go_sem]) rfl ⟨some ⟨g, 0, none⟩, 0 + n, c5, by rw [HC.out], by rw [HN.out, Nat.zero_add]; exact HPUT.out, bstep HB.out HBEL.out⟩

/-- a document's box as a value. -/
def DB.v (d : DB) : Value := .agg #[.int .u32 d.id, .int .i64 d.b.X, .int .i64 d.b.Y, .int .i64 d.b.W, .int .i64 d.b.H, .bool d.b.M, .int .i64 d.b.G, .int .i64 d.b.B, .bool d.b.S, .slice d.b.A d.b.n d.b.c]
theorem dset_any (A : Option Addr) (n c : Nat) (l : List DB) (d : DB) (w : World) (hid : 0 ≤ d.id ∧ d.id ≤ 4294967295) (hn : n ≤ 1000) (hr : RdD w A n l) (hs : RdR w d.b.A d.b.n d.sh) (hsn : d.b.n ≤ 1000000) :
    Calls Tryz.prog 34 #[.slice A n c, d.v] w fun e w' => ∃ A' n' c', e = .returned (.tuple #[.slice A' n' c', .int .i64 (setD l d)]) ∧ RdD w' A' n' (setL l d) ∧ Below w.heap.size w w' := by
  obtain ⟨id, ⟨X, Y, W, H, M, G, B, S, As, ns, cs⟩, sh⟩ := d
  unfold DB.v
  dsimp only at hid hs hsn ⊢
  have bad := dset_bad A n c l id X Y W H M G B S As ns cs sh w hid hr hs hsn
  by_cases h1 : id = 1
  · exact bad (.inl h1)
  by_cases h2 : idC id = 0
  rotate_left
  · exact bad (.inr ⟨h1, .inl h2⟩)
  cases hx : coordB X
  · exact bad (.inr ⟨h1, .inr ⟨h2, .inl hx⟩⟩)
  cases hy : coordB Y
  · exact bad (.inr ⟨h1, .inr ⟨h2, .inr ⟨hx, .inl hy⟩⟩⟩)
  cases hw : sideB W
  · exact bad (.inr ⟨h1, .inr ⟨h2, .inr ⟨hx, .inr ⟨hy, .inl hw⟩⟩⟩⟩)
  cases hh : sideB H
  · exact bad (.inr ⟨h1, .inr ⟨h2, .inr ⟨hx, .inr ⟨hy, .inr ⟨hw, .inl hh⟩⟩⟩⟩⟩)
  rcases gravC_or G with hg | hg
  rotate_left
  · exact bad (.inr ⟨h1, .inr ⟨h2, .inr ⟨hx, .inr ⟨hy, .inr ⟨hw, .inr ⟨hh, .inl hg⟩⟩⟩⟩⟩⟩)
  rcases gravC_or B with hb | hb
  rotate_left
  · exact bad (.inr ⟨h1, .inr ⟨h2, .inr ⟨hx, .inr ⟨hy, .inr ⟨hw, .inr ⟨hh, .inr ⟨hg, .inl hb⟩⟩⟩⟩⟩⟩⟩)
  cases S
  · cases h8 : emptyD sh
    · exact bad (.inr ⟨h1, .inr ⟨h2, .inr ⟨hx, .inr ⟨hy, .inr ⟨hw, .inr ⟨hh, .inr ⟨hg, .inr ⟨hb, rfl, h8⟩⟩⟩⟩⟩⟩⟩⟩)
    · exact dset_good_false A n c l id X Y W H M G B As ns cs sh w hid hn hr hs hsn h1 h2 hx hy hw hh hg hb h8
  · exact dset_good_true A n c l id X Y W H M G B As ns cs sh w hid hn hr hs hsn h1 h2 hx hy hw hh hg hb

end Go.Proofs.YtbfefkhejknmoaaGreatDoor
