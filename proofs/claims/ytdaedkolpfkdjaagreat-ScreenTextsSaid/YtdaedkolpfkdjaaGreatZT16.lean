/-
  The walk of rule.join: the cells that the rule keeps, as a region.
-/
import Derived.Test.YtdaedkolpfkdjaaGreatZT15
section
namespace Go.Proofs.YtdaedkolpfkdjaaGreat
open Go.RowKit Go.Shelf

theorem blk_newA (w : World) (o : Obj) (t : TypeId) (cs : Array Value) : Blk ((w.alloc o).alloc (.cells cs t)) (w.heap.size + 1) t cs := by
 have := Blk.new (w.alloc o) t cs
 rwa [World.size_alloc] at this
theorem blk_newB (w : World) (o o' : Obj) (t : TypeId) (cs : Array Value) : Blk (((w.alloc o).alloc o').alloc (.cells cs t)) (w.heap.size + 1 + 1) t cs := by
 have := Blk.new ((w.alloc o).alloc o') t cs
 rwa [World.size_alloc, World.size_alloc] at this
theorem blk_newC (w : World) (o o' o'' : Obj) (t : TypeId) (cs : Array Value) : Blk ((((w.alloc o).alloc o').alloc o'').alloc (.cells cs t)) (w.heap.size + 1 + 1 + 1) t cs := by
 have := Blk.new (((w.alloc o).alloc o').alloc o'') t cs
 rwa [World.size_alloc, World.size_alloc, World.size_alloc] at this

theorem RowAt.mk' {B : Nat} {w : World} {g : Nat} {t : TypeId} {A : Option Addr} {n c : Nat} {l : List RC} (hl : l.length = n) (hb : Blk w g t #[.slice A n c]) (hr : RdR w A n l) (hc : n ≤ c) (hm : c ≤ maxLen) (hB : 0 < n → ∀ a, A = some a → a.block < B) : RowAt B w g t l := by
 subst hl
 exact ⟨A, c, hb, hr, hc, hm, hB⟩
theorem RdR.lt {w : World} {A : Option Addr} {n : Nat} {rs : List RC} (h : RdR w A n rs) (hn : 0 < n) : ∀ a, A = some a → a.block < w.heap.size := fun a e => by
 obtain ⟨b, off, e', hb, _⟩ := h.2 hn
 rw [e'] at e
 cases e
 exact hb
theorem ysE_len (l : List RC) : (ysE l).length = 2 * l.length := by
 induction l with
 | nil => rfl
 | cons r l ih => simp [ysE] at ih ⊢; omega
theorem ysE_bd {a b : List RC} (ha : ∀ r ∈ a, r.cnt = true) (hb : ∀ r ∈ b, r.cnt = true) {z : Int} (hz : z ∈ ysE (a ++ b)) : -1048576 ≤ z ∧ z ≤ 1048576 := by
 obtain ⟨r, hr, h⟩ := (mem_ysE _ _).1 hz
 have hc : r.cnt = true := (List.mem_append.1 hr).elim (ha r) (hb r)
 have := cntI r hc
 rcases h with rfl | rfl <;> omega
theorem xsE_bd {p q a b : List RC} (hp : ∀ r ∈ p, r ∈ a) (hq : ∀ r ∈ q, r ∈ b) (ha : ∀ r ∈ a, r.cnt = true) (hb : ∀ r ∈ b, r.cnt = true) {z : Int} (hz : z ∈ xsE (p ++ q)) : -1048576 ≤ z ∧ z ≤ 1048576 := by
 obtain ⟨r, hr, h⟩ := (mem_xsE _ _).1 hz
 have hc : r.cnt = true := (List.mem_append.1 hr).elim (fun h => ha r (hp r h)) (fun h => hb r (hq r h))
 have := cntI r hc
 rcases h with rfl | rfl <;> omega
theorem i64_at {l : List Int} {rest : List Value} {k : Nat} {v : Int} (h : l[k]? = some v) : (I64 l ++ rest).toArray[k]? = some (.int .i64 v) := by
 have hk := (List.getElem?_eq_some_iff.1 h).1
 simp only [List.getElem?_toArray, I64]
 rw [List.getElem?_append_left (by simpa using hk), List.getElem?_map, h]
 rfl
theorem xsE_len (l : List RC) : (xsE l).length = 2 * l.length := by
 induction l with
 | nil => rfl
 | cons r l ih => simp [xsE] at ih ⊢; omega
theorem RowAt.blk1 {B : Nat} {w : World} {g : Nat} {t : TypeId} {l : List RC} (h : RowAt B w g t l) : ∃ A n c, Blk w g t #[.slice A n c] := by
 obtain ⟨A, c, h, _⟩ := h
 exact ⟨A, _, c, h⟩
theorem ownsRow_monoJ {w : World} {b b' e size n : Nat} {v : Value} {xs : List Value} (hb : b' ≤ b) (h : w.ownsRow b e size v n xs) : w.ownsRow b' e size v n xs := ownsRow_base h hb
theorem rdR_farS {W : World} {A B : Option Addr} {n m c g : Nat} {t : TypeId} {rs : List RC} (h : RdR W A n rs) (hB : Blk W g t #[.slice B m c]) (u : Value) : RdR (W.setCell ⟨g, 0, none⟩ u) A n rs :=
 ⟨h.1, fun hn => by
  obtain ⟨b, off, e, hb, hc⟩ := h.2 hn
  have hne : b ≠ g := fun e' => by
   subst e'
   obtain ⟨r, hr'⟩ : ∃ r, rs[0]? = some r := ⟨_, List.getElem?_eq_getElem (by rw [h.1]; exact hn)⟩
   obtain ⟨c0, _⟩ := hc 0 r hr'
   rw [hB.cell] at c0
   cases hoff : off + 0 * 4 with
   | zero => rw [hoff] at c0; simp at c0
   | succ k => rw [hoff] at c0; simp at c0
  have hk : ∀ o v, W.cell? ⟨b, o, none⟩ = some v → (W.setCell ⟨g, 0, none⟩ u).cell? ⟨b, o, none⟩ = some v := fun o v hv => (World.cell?_setCell_other W ⟨g, 0, none⟩ ⟨b, o, none⟩ u (fun e' => by cases e'; exact hne rfl)).trans hv
  exact ⟨b, off, e, by simpa [World.setCell] using hb, fun i r hi => by
   obtain ⟨c0, c1, c2, c3⟩ := hc i r hi
   exact ⟨hk _ _ c0, hk _ _ c1, hk _ _ c2, hk _ _ c3⟩⟩⟩

/-- what is left of a row's rectangles behind some columns. -/
structure RestX (zs : List Int) (a la : List RC) : Prop where
 eq : ∀ x, (∀ z ∈ zs, z ≤ x) → dropX la x = dropX a x
 cnt : ∀ r ∈ la, r.cnt = true
theorem RestX.start {a : List RC} (h : ∀ r ∈ a, r.cnt = true) : RestX [] a a := ⟨fun _ _ => rfl, h⟩
/-- what is left of a region's rectangles behind some rows. -/
structure Rest (zs : List Int) (a la : List RC) : Prop where
 eq : ∀ y, (∀ z ∈ zs, z ≤ y) → dropY la y = dropY a y
 cnt : ∀ r ∈ la, r.cnt = true
theorem Rest.start {a : List RC} (h : ∀ r ∈ a, r.cnt = true) : Rest [] a a := ⟨fun _ _ => rfl, h⟩
theorem take_le {ys : List Int} (hs : ys.Pairwise (· < ·)) {k : Nat} {v : Int} (hv : ys[k]? = some v) : ∀ z ∈ ys.take k, z ≤ v := fun z hz => by
 obtain ⟨j, hj⟩ := List.getElem?_of_mem hz
 rw [List.getElem?_take] at hj
 split at hj
 ·
  rename_i hjk
  obtain ⟨h1, rfl⟩ := List.getElem?_eq_some_iff.1 hj
  obtain ⟨h2, rfl⟩ := List.getElem?_eq_some_iff.1 hv
  have := List.pairwise_iff_getElem.1 hs j k h1 h2 hjk
  omega
 ·
  cases hj
theorem mem_dropY {la : List RC} {y : Int} {r : RC} (h : r ∈ dropY la y) : r ∈ la := by
 unfold dropY at h
 exact (List.dropWhile_sublist _).mem h
theorem Rest.row {ys : List Int} {a la : List RC} {k : Nat} {v : Int} (h : Rest (ys.take k) a la) (hc : Canon a) (hv : ys[k]? = some v) (hs : ys.Pairwise (· < ·)) : takeY (dropY la v) v = rowOf a v := by
 rw [h.eq v (take_le hs hv)]
 exact row_rest (canon_down hc) v
theorem Rest.next {ys : List Int} {a la : List RC} {k : Nat} {v : Int} (h : Rest (ys.take k) a la) (hv : ys[k]? = some v) (hs : ys.Pairwise (· < ·)) : Rest (ys.take (k + 1)) a (dropY la v) := by
 have e : ys.take (k + 1) = ys.take k ++ [v] := by rw [List.take_add_one, hv]; rfl
 refine ⟨fun y hy => ?_, fun r hr => h.cnt r (mem_dropY hr)⟩
 rw [e] at hy
 have hvy := hy v (by simp)
 rw [h.eq v (take_le hs hv)]
 exact restY_restY a hvy

theorem mem_dropX {la : List RC} {y : Int} {r : RC} (h : r ∈ dropX la y) : r ∈ la := by
 unfold dropX at h
 exact (List.dropWhile_sublist _).mem h
theorem RestX.next {ys : List Int} {a la : List RC} {k : Nat} {v : Int} (h : RestX (ys.take k) a la) (hv : ys[k]? = some v) (hs : ys.Pairwise (· < ·)) : RestX (ys.take (k + 1)) a (dropX la v) := by
 have e : ys.take (k + 1) = ys.take k ++ [v] := by rw [List.take_add_one, hv]; rfl
 refine ⟨fun y hy => ?_, fun r hr => h.cnt r (mem_dropX hr)⟩
 rw [e] at hy
 have hvy := hy v (by simp)
 rw [h.eq v (take_le hs hv)]
 exact restX_restX a hvy
theorem RestX.head {ys : List Int} {a la : List RC} {k : Nat} {v : Int} (h : RestX (ys.take k) a la) (hr : Right a) (hv : ys[k]? = some v) (hs : ys.Pairwise (· < ·)) : headX (dropX la v) v = anyX a v := by
 rw [h.eq v (take_le hs hv), any_rest hr v]
 rfl
theorem cells_cnt {keep : Bool → Bool → Bool} {a b : List RC} (ha : ∀ r ∈ a, r.cnt = true) (hb : ∀ r ∈ b, r.cnt = true) : ∀ r ∈ joinR keep a b, r.cnt = true := fun r hr => by
 have hab : ∀ r ∈ a ++ b, r.cnt = true := fun r hr => (List.mem_append.1 hr).elim (ha r) (hb r)
 obtain ⟨h1, _, h3⟩ := cells_edges (keep := keep) (EdgeIn.own (a ++ b))
 have hp := h3 (fun r hr => by have := cntI r (hab r hr); exact ⟨by omega, by omega⟩) r hr
 obtain ⟨e1, e2, e3, e4⟩ := h1 r hr
 have b1 := ysE_bd ha hb e1
 have b2 := ysE_bd ha hb e2
 have b3 := xsE_bd (p := a) (q := b) (fun _ h => h) (fun _ h => h) ha hb e3
 have b4 := xsE_bd (p := a) (q := b) (fun _ h => h) (fun _ h => h) ha hb e4
 exact (cnt_iff r).2 (by omega)
def EndJ (w : World) (keep : Bool → Bool → Bool) (a b : List RC) (Y X : List Int) (e : Ending) (w' : World) : Prop :=
 ∃ v out, e = .returned v ∧ RegAt w' v out ∧ (∀ x y, inB out x y = keep (inB a x y) (inB b x y)) ∧ EdgeIn out Y X ∧ Below w.heap.size w w'
def EndT (w : World) (keep : Bool → Bool → Bool) (a b : List RC) (Y X : List Int) (e : Ending) (w' : World) : Prop :=
 ∃ v out, e = .returned v ∧ RegAt w' v out ∧ (∀ x y, inB out x y = keep (inB a x y) (inB b x y)) ∧ EdgeIn out Y X ∧ TyV w' v ∧ Below w.heap.size w w'
theorem EndT.plain {w w' : World} {keep : Bool → Bool → Bool} {a b : List RC} {Y X : List Int} {e : Ending} (h : EndT w keep a b Y X e w') : EndJ w keep a b Y X e w' := by
 obtain ⟨v, out, h0, h1, h2, h3, _, h5⟩ := h
 exact ⟨v, out, h0, h1, h2, h3, h5⟩

set_option maxRecDepth 100000 in
set_option maxHeartbeats 8000000 in
theorem join_anyT (kf : Nat) (keep : Bool → Bool → Bool) (v1 v2 : Value) (a b : List RC) (Y X : List Int) (w : World) (hk : KeepFn kf keep) (hk0 : keep false false = false) (ha : RegAt w v1 a) (hb : RegAt w v2 b) (he : EdgeIn (a ++ b) Y X) (hYX : Y.length * X.length ≤ 100000) :
 Calls Tryz.prog 151 #[.agg #[.func (.func kf) #[] #[]], v1, v2] w fun e w' => EndT w keep a b Y X e w' := by
 obtain ⟨i0, hi0, hz0, hz1, hz2⟩ := info_parts Tryz.infoR
 have HA := Lib.hid ha
 have HBR := Lib.hid hb
 obtain ⟨A1, c1, rfl, _, hca, _, hna⟩ := ha
 obtain ⟨A2, c2, rfl, _, hcb, _, hnb⟩ := hb
 have HCA := Lib.hid hca
 have HCB := Lib.hid hcb
 have HNA := Lib.hid hna
 have HNB := Lib.hid hnb
 have HK := Lib.hid hk
 have HK0 := Lib.hid hk0
 have HE := Lib.hid he
 have HYX := Lib.hid hYX
 obtain ⟨n1, hn1⟩ : ∃ n1, a.length = n1 := ⟨_, rfl⟩
 obtain ⟨n2, hn2⟩ : ∃ n2, b.length = n2 := ⟨_, rfl⟩
 have HN1 := Lib.hid hn1
 have HN2 := Lib.hid hn2
 have ha := HA.out
 have hb := HBR.out
 rw [hn1] at ha ⊢
 rw [hn2] at hb ⊢
 replace HA := Lib.hid ha
 replace HBR := Lib.hid hb
 clear hca hcb hna hnb hk hk0 he hYX hn1 hn2 ha hb
 go_enter Tryz.func151, Tryz.ntmps151
 go_upto_region 1 with fail
 have HBX := Lib.hid (bal (bal (bal (bal (bre w) (.cells #[.func (.func kf) #[] #[]] 264)) (.cells #[.slice A1 n1 c1] 57)) (.cells #[.slice A2 n2 c2] 57)) (.cells #[.slice none 0 0] 57))
 have k3 := (((Blk.new w 264 #[.func (.func kf) #[] #[]]).alloc (.cells #[.slice A1 n1 c1] 57)).alloc (.cells #[.slice A2 n2 c2] 57)).alloc (.cells #[.slice none 0 0] 57)
 have k4 := ((blk_newA w (.cells #[.func (.func kf) #[] #[]] 264) 57 #[.slice A1 n1 c1]).alloc (.cells #[.slice A2 n2 c2] 57)).alloc (.cells #[.slice none 0 0] 57)
 have k5 := (blk_newB w (.cells #[.func (.func kf) #[] #[]] 264) (.cells #[.slice A1 n1 c1] 57) 57 #[.slice A2 n2 c2]).alloc (.cells #[.slice none 0 0] 57)
 have k6 := blk_newC w (.cells #[.func (.func kf) #[] #[]] 264) (.cells #[.slice A1 n1 c1] 57) (.cells #[.slice A2 n2 c2] 57) 57 #[.slice none 0 0]
 have hbx := HBX.out
 obtain ⟨X0, hX0⟩ : ∃ X0, (((w.alloc (.cells #[.func (.func kf) #[] #[]] 264)).alloc (.cells #[.slice A1 n1 c1] 57)).alloc (.cells #[.slice A2 n2 c2] 57)).alloc (.cells #[.slice none 0 0] 57) = X0 := ⟨_, rfl⟩
 rw [hX0] at k3 k4 k5 k6 hbx ⊢
 replace HBX := Lib.hid hbx
 have K3 := Lib.hid k3
 have K4 := Lib.hid k4
 have K5 := Lib.hid k5
 have K6 := Lib.hid k6
 replace HA := Lib.hid (HA.out.below hbx)
 replace HBR := Lib.hid (HBR.out.below hbx)
 clear hbx k3 k4 k5 k6 hX0
 have HBW := Lib.hid (show Below X0.heap.size X0 X0.drew from (bre X0).drew)
 refine wp_region_noPanic ?_
 refine wp_region_held_drew (S := (fun w' => w'.cell? ⟨w.heap.size + 1, 0, none⟩ = some (.slice A1 n1 c1) ∧ w'.cell? ⟨w.heap.size + 1 + 1, 0, none⟩ = some (.slice A2 n2 c2))) (by kernel_rfl) ?_ (fun hHeld => ?_)
 ·
  (try dsimp only)
  exact ⟨(K4.out.belowS HBW.out).cellV (i := 0) rfl, (K5.out.belowS HBW.out).cellV (i := 0) rfl⟩
 refine take_at 0 22 (.agg #[.slice A1 n1 c1]) rfl rfl (by kernel_rfl) (by kernel_rfl) (by kernel_rfl) (fun _ _ _ h => h) (Or.inl ⟨by rfl, ?_⟩) (by assumption) ?_
 ·
  intro W0 hSw
  (try dsimp only at hSw)
  go_simp
 simp only [List.set_cons_zero, List.set_cons_succ]
 refine take_at 2 24 (.agg #[.slice A2 n2 c2]) rfl rfl (by kernel_rfl) (by kernel_rfl) (by kernel_rfl) (fun _ _ _ h => h) (Or.inl ⟨by rfl, ?_⟩) (by assumption) ?_
 ·
  intro W0 hSw
  (try dsimp only at hSw)
  go_simp
 simp only [List.set_cons_zero, List.set_cons_succ]
 refine wpAnyH_ready (rs := [1]) (by kernel_rfl) (by simp) ?_
 refine AllReadyH.cons rfl (fun K hK => ?_) AllReadyH.nil
 go_simp
 have hra := rectsR_any (.agg #[.slice A1 n1 c1]) a _ (HA.out.below HBW.out)
 rw [HN1.out] at hra
 refine hra.mono ?_
 rintro e wA ⟨O1, d1, rfl, hr1, hd1, hm1, hbA⟩
 replace HBW := Lib.hid (bstep HBW.out hbA)
 have HR1 := Lib.hid hr1
 have HD1 := Lib.hid hd1
 have HM1 := Lib.hid hm1
 clear hra hbA hr1 hd1 hm1
 go_simp
 refine hK.out _ _ ?_ (fun hHeld => ?_)
 ·
  (try dsimp only)
  exact ⟨(K4.out.belowS HBW.out).cellV (i := 0) rfl, (K5.out.belowS HBW.out).cellV (i := 0) rfl⟩
 clear hK K
 refine wpAnyH_ready (rs := [3]) (by kernel_rfl) (by simp) ?_
 refine AllReadyH.cons rfl (fun K hK => ?_) AllReadyH.nil
 go_simp
 have hra := rectsR_any (.agg #[.slice A2 n2 c2]) b _ (HBR.out.below HBW.out)
 rw [HN2.out] at hra
 refine hra.mono ?_
 rintro e wB ⟨O2, d2, rfl, hr2, hd2, hm2, hbB⟩
 replace HBW := Lib.hid (bstep HBW.out hbB)
 replace HR1 := Lib.hid (HR1.out.below hbB)
 have HR2 := Lib.hid hr2
 have HD2 := Lib.hid hd2
 have HM2 := Lib.hid hm2
 clear hra hbB hr2 hd2 hm2
 go_simp
 refine hK.out _ _ ?_ (fun hHeld => ?_)
 ·
  (try dsimp only)
  exact ⟨(K4.out.belowS HBW.out).cellV (i := 0) rfl, (K5.out.belowS HBW.out).cellV (i := 0) rfl⟩
 clear hK K
 refine take_at 4 7 (.slice O1 n1 d1) rfl rfl (by kernel_rfl) (by kernel_rfl) (by kernel_rfl) (fun _ _ _ h => h) (Or.inl ⟨by rfl, ?_⟩) (by assumption) ?_
 ·
  intro W0 hSw
  (try dsimp only at hSw)
  go_simp
 simp only [List.set_cons_zero, List.set_cons_succ]
 refine take_at 5 8 (.slice O2 n2 d2) rfl rfl (by kernel_rfl) (by kernel_rfl) (by kernel_rfl) (fun _ _ _ h => h) (Or.inl ⟨by rfl, ?_⟩) (by assumption) ?_
 ·
  intro W0 hSw
  (try dsimp only at hSw)
  go_simp
 simp only [List.set_cons_zero, List.set_cons_succ]
 refine wpAnyH_done (by kernel_rfl) ?_ _
 refine NoPanic.normal ?_
 replace HBX := Lib.hid (bstep HBX.out HBW.out)
 replace K3 := Lib.hid (K3.out.belowS HBW.out)
 replace K6 := Lib.hid (K6.out.belowS HBW.out)
 clear HBW K4 K5 HA HBR hHeld
 have hlen1 : n1 ≤ 1000000 := by rw [← HN1.out]; exact Nat.le_trans (canon_count HCA.out (fun r hr => HE.out r (List.mem_append_left _ hr))) (Nat.le_trans HYX.out (by omega))
 have hlen2 : n2 ≤ 1000000 := by rw [← HN2.out]; exact Nat.le_trans (canon_count HCB.out (fun r hr => HE.out r (List.mem_append_right _ hr))) (Nat.le_trans HYX.out (by omega))
 go_wp2_with fail
 refine (cuts_any 183 RC.Y RC.H wB.heap.size 2 2 [⟨O1, n1, d1, a⟩, ⟨O2, n2, d2, b⟩] _ tellY_any (fun r h => by have := cntI r h; omega) rfl (by omega) (Blk.new wB 31 #[.slice O1 n1 d1, .slice O2 n2 d2]) (fun q hq => ?_)).mono ?_
 ·
  rcases List.mem_cons.1 hq with rfl | hq
  ·
   exact ⟨HR1.out.below (bal (bre wB) _), hlen1, HNA.out⟩
  ·
   simp only [List.mem_singleton] at hq
   subst hq
   exact ⟨HR2.out.below (bal (bre wB) _), hlen2, HNB.out⟩
 rintro e V ⟨Ay, cy, rfl, hoy, hbV⟩
 have hye : allL RC.Y RC.H [⟨O1, n1, d1, a⟩, ⟨O2, n2, d2, b⟩] = ysE (a ++ b) := by simp [allL, telL, ysE]
 rw [hye] at hoy ⊢
 obtain ⟨ys, hys⟩ : ∃ ys, risesOf (ysE (a ++ b)) = ys := ⟨_, rfl⟩
 rw [hys] at hoy ⊢
 obtain ⟨ny, hny⟩ : ∃ ny, ys.length = ny := ⟨_, rfl⟩
 unfold OwnI at hoy
 rw [hny] at hoy ⊢
 have hbV' : Below wB.heap.size wB V := by
  refine ⟨hbV.os, hbV.tape, hbV.output, by have := hbV.size; simp at this; omega, fun i hi => (hbV.block i (by simp; omega)).trans (Below.heap_alloc wB _ i hi)⟩
 have HYS := Lib.hid hys
 have HNY := Lib.hid hny
 have HOY := Lib.hid hoy
 replace HBX := Lib.hid (bstep HBX.out hbV')
 replace K3 := Lib.hid (K3.out.belowS hbV')
 replace K6 := Lib.hid (K6.out.belowS hbV')
 replace HR1 := Lib.hid (HR1.out.below hbV')
 replace HR2 := Lib.hid (HR2.out.below hbV')
 clear hye hys hny hoy hbV hbV'
 go_wp2_with fail
 have hbv := bal (bal (bre V) (.cells #[.slice O1 n1 d1] 291)) (.cells #[.slice O2 n2 d2] 291)
 have hr10 : RowAt V.heap.size ((V.alloc (.cells #[.slice O1 n1 d1] 291)).alloc (.cells #[.slice O2 n2 d2] 291)) V.heap.size 291 a := RowAt.mk' HN1.out ((Blk.new V 291 #[.slice O1 n1 d1]).alloc _) (HR1.out.below hbv) HD1.out HM1.out (fun h => HR1.out.lt h)
 have hr11 : RowAt V.heap.size ((V.alloc (.cells #[.slice O1 n1 d1] 291)).alloc (.cells #[.slice O2 n2 d2] 291)) (V.heap.size + 1) 291 b := RowAt.mk' HN2.out (blk_newA V (.cells #[.slice O1 n1 d1] 291) 291 #[.slice O2 n2 d2]) (HR2.out.below hbv) HD2.out HM2.out (fun h => HR2.out.lt h)
 have hjo : JO V a b (.slice none 0 0) (cellsY keep a b ys 0) ((V.alloc (.cells #[.slice O1 n1 d1] 291)).alloc (.cells #[.slice O2 n2 d2] 291)) := ⟨hr10, hr11, World.ownsRow_nil _ _ _ _, hbv⟩
 have HJ0 := Lib.hid hjo
 have hyl : ny ≤ Y.length := by rw [← HNY.out, ← HYS.out]; exact rises_len HE.out.ys
 have hxl : 1 ≤ X.length ∨ X.length = 0 := by omega
 have hyb : ∀ z ∈ ys, -1048576 ≤ z ∧ z ≤ 1048576 := fun z hz => by
  rw [← HYS.out] at hz
  exact ysE_bd HNA.out HNB.out (((rises_ok _).2 z).1 hz)
 have HYB := Lib.hid hyb
 have hysort : ys.Pairwise (· < ·) := by rw [← HYS.out]; exact (rises_ok _).1
 have HSO := Lib.hid hysort
 have hny2 : ny ≤ 4000000 := by rw [← HNY.out, ← HYS.out]; refine Nat.le_trans (rises_len (fun z hz => hz)) ?_; rw [ysE_len, List.length_append, HN1.out, HN2.out]; omega
 clear hbv hr10 hr11 hjo hyb hysort hyl hxl
 go_loopw [13, 12] (fun i vo wr => ∃ (k : Nat) (la lb : List RC), i = .int .i64 k ∧ (k < ny ∨ k = 0) ∧ JO V la lb vo (cellsY keep a b ys k) wr ∧ Rest (ys.take k) a la ∧ Rest (ys.take k) b lb) (fun i _ _ => ny - (intOf i).toNat)
 case atStart => exact ⟨0, a, b, rfl, .inr rfl, HJ0.out, Rest.start HNA.out, Rest.start HNB.out⟩
 case round =>
  obtain ⟨k, la, lb, rfl, hk, hjo, hra, hrb⟩ := hrel
  have HJ := Lib.hid hjo
  have HRA := Lib.hid hra
  have HRB := Lib.hid hrb
  have k0 : (0 : Int) ≤ (k : Int) := by omega
  have hwr : IntKind.i64.wrap ((k : Int) + 1) = (k : Int) + 1 := IntWalk.i64_in _ (by omega)
  have k3 : (0 : Int) ≤ (k : Int) + 1 := by omega
  clear hjo hra hrb
  by_cases hlt : k + 1 < ny
  ·
   obtain ⟨v, hv⟩ : ∃ v, ys[k]? = some v := ⟨_, List.getElem?_eq_getElem (by rw [HNY.out]; omega)⟩
   obtain ⟨u, hu⟩ : ∃ u, ys[k + 1]? = some u := ⟨_, List.getElem?_eq_getElem (by rw [HNY.out]; exact hlt)⟩
   have hvb := HYB.out v (List.mem_of_getElem? hv)
   have hub := HYB.out u (List.mem_of_getElem? hu)
   obtain ⟨gy, cy', hvy, _, _, _, _, hby, _⟩ := own_I64' HOY.out (by omega)
   injection hvy with hvy1 hvy2 hvy3
   subst hvy1 hvy3
   have b1 := hby.belowS HJ.out.bel
   have d1 : wr.cell? ⟨gy, k, none⟩ = some (.int .i64 v) := b1.cellV (i64_at hv)
   have d2 : wr.cell? ⟨gy, k + 1, none⟩ = some (.int .i64 u) := b1.cellV (i64_at hu)
   have hdl : decide ((k : Int) + 1 < (ny : Int)) = true := by simp; omega
   have k1 : (k : Int) < (ny : Int) := by omega
   have k2 : (k : Int) + 1 < (ny : Int) := by omega
   have HV := Lib.hid hv
   have HU := Lib.hid hu
   clear hv hu hby b1 hvy2
   go_wp2_with fail
   go_quiet (fail)
   replace HJ := Lib.hid (HJ.out.below (below_drewN (bre wr) nq))
   obtain ⟨D, hD⟩ : ∃ D, wr.drewN nq = D := ⟨_, rfl⟩
   have hj := HJ.out
   rw [hD] at hj ⊢
   replace HJ := Lib.hid hj
   clear hj hD d1 d2
   go_wp2_with fail
   with_reducible refine (row_any V.heap.size V.heap.size la v D HJ.out.up HRA.out.cnt).mono ?_
   rintro e w1 ⟨Ap, cp, rfl, hpc, hpm, hpr, hup, hg1, hpb⟩
   replace HJ := Lib.hid (HJ.out.rowUp hup hg1)
   have hpe : takeY (dropY la v) v = rowOf a v := HRA.out.row HCA.out HV.out HSO.out
   rw [hpe] at hpc hpr hpb ⊢
   have HPR := Lib.hid hpr
   have HPB := Lib.hid hpb
   have HUP := Lib.hid hup
   obtain ⟨np, hnp⟩ : ∃ np, (rowOf a v).length = np := ⟨_, rfl⟩
   rw [hnp] at hpc ⊢
   have HNP := Lib.hid hnp
   clear hpr hpb hup hg1 hpe hnp
   go_wp2_with fail
   with_reducible refine (row_any V.heap.size (V.heap.size + 1) lb v w1 HJ.out.dn HRB.out.cnt).mono ?_
   rintro e w2 ⟨Aq, cq, rfl, hqc, hqm, hqr, hdn, hg2, hqb⟩
   replace HPR := Lib.hid (HPR.out.grownSlice (HJ.out.dn.blk1.choose_spec.choose_spec.choose_spec) hg2)
   replace HJ := Lib.hid (HJ.out.rowDn hdn hg2)
   have hqe : takeY (dropY lb v) v = rowOf b v := HRB.out.row HCB.out HV.out HSO.out
   rw [hqe] at hqc hqr hqb ⊢
   have HQR := Lib.hid hqr
   have HQB := Lib.hid hqb
   obtain ⟨nQ, hnQ⟩ : ∃ nQ, (rowOf b v).length = nQ := ⟨_, rfl⟩
   rw [hnQ] at hqc ⊢
   have HNQ := Lib.hid hnQ
   clear hqr hqb hdn hg2 hqe hnQ
   obtain ⟨pl, hpl⟩ : ∃ pl, rowOf a v = pl := ⟨_, rfl⟩
   obtain ⟨ql, hql⟩ : ∃ ql, rowOf b v = ql := ⟨_, rfl⟩
   have h1 := HPR.out
   have h2 := HPB.out
   have h3 := HNP.out
   have h4 := HQR.out
   have h5 := HQB.out
   have h6 := HNQ.out
   rw [hpl] at h1 h2 h3
   rw [hql] at h4 h5 h6
   rw [h3] at h1 h2
   rw [h6] at h4 h5
   replace HPR := Lib.hid h1
   replace HPB := Lib.hid h2
   replace HNP := Lib.hid h3
   replace HQR := Lib.hid h4
   replace HQB := Lib.hid h5
   replace HNQ := Lib.hid h6
   have HPL := Lib.hid hpl
   have HQL := Lib.hid hql
   clear h1 h2 h3 h4 h5 h6 hpl hql
   go_upto_region 10 with fail
   have hsz2 := HJ.out.dn.blk.choose_spec.lt
   have hba := bal (bal (bre w2) (.cells #[.slice Ap np cp] 31)) (.cells #[.slice Aq nQ cq] 31)
   have hjx := HJ.out.below hba
   have hp16 : RowAt V.heap.size ((w2.alloc (.cells #[.slice Ap np cp] 31)).alloc (.cells #[.slice Aq nQ cq] 31)) w2.heap.size 31 pl := RowAt.mk' HNP.out ((Blk.new w2 31 #[.slice Ap np cp]).alloc _) (HPR.out.below hba) hpc hpm HPB.out
   have hp17 : RowAt V.heap.size ((w2.alloc (.cells #[.slice Ap np cp] 31)).alloc (.cells #[.slice Aq nQ cq] 31)) (w2.heap.size + 1) 31 ql := RowAt.mk' HNQ.out (blk_newA w2 (.cells #[.slice Ap np cp] 31) 31 #[.slice Aq nQ cq]) (HQR.out.below hba) hqc hqm HQB.out
   have hb16 := (Blk.new w2 31 #[.slice Ap np cp]).alloc (.cells #[.slice Aq nQ cq] 31)
   have hb17 := blk_newA w2 (.cells #[.slice Ap np cp] 31) 31 #[.slice Aq nQ cq]
   have hpr := HPR.out.below hba
   have hqr := HQR.out.below hba
   obtain ⟨g16, hg16⟩ : ∃ g16, w2.heap.size = g16 := ⟨_, rfl⟩
   obtain ⟨X2, hX2⟩ : ∃ X2, (w2.alloc (.cells #[.slice Ap np cp] 31)).alloc (.cells #[.slice Aq nQ cq] 31) = X2 := ⟨_, rfl⟩
   rw [hX2] at hjx hp16 hp17 hb16 hb17 hpr hqr ⊢
   rw [hg16] at hp16 hp17 hb16 hb17 hsz2 ⊢
   replace HJ := Lib.hid hjx
   have HP16 := Lib.hid hp16
   have HP17 := Lib.hid hp17
   replace HPR := Lib.hid hpr
   replace HQR := Lib.hid hqr
   have s16 := hb16.cellV (i := 0) (v := .slice Ap np cp) rfl
   have s17 := hb17.cellV (i := 0) (v := .slice Aq nQ cq) rfl
   have hnp1 : np ≤ 1000000 := by rw [← HNP.out, ← HPL.out]; exact Nat.le_trans (List.length_filter_le _ _) (by rw [HN1.out]; exact hlen1)
   have hnq1 : nQ ≤ 1000000 := by rw [← HNQ.out, ← HQL.out]; exact Nat.le_trans (List.length_filter_le _ _) (by rw [HN2.out]; exact hlen2)
   have hpa : ∀ r ∈ pl, r ∈ a := fun r hr => by rw [← HPL.out] at hr; exact (List.mem_filter.1 hr).1
   have hqa : ∀ r ∈ ql, r ∈ b := fun r hr => by rw [← HQL.out] at hr; exact (List.mem_filter.1 hr).1
   have HPA := Lib.hid hpa
   have HQA := Lib.hid hqa
   clear hba hjx hp16 hp17 hb16 hb17 hpr hqr hX2 hg16 hpa hqa
   go_wp2_with fail
   refine (cuts_any 185 RC.X RC.W X2.heap.size 2 2 [⟨Ap, np, cp, pl⟩, ⟨Aq, nQ, cq, ql⟩] _ tellX_any (fun r h => by have := cntI r h; omega) rfl (by omega) (Blk.new X2 31 #[.slice Ap np cp, .slice Aq nQ cq]) (fun q hq => ?_)).mono ?_
   ·
    rcases List.mem_cons.1 hq with rfl | hq
    ·
     exact ⟨HPR.out.below (bal (bre X2) _), hnp1, fun r hr => HNA.out r (HPA.out r hr)⟩
    ·
     simp only [List.mem_singleton] at hq
     subst hq
     exact ⟨HQR.out.below (bal (bre X2) _), hnq1, fun r hr => HNB.out r (HQA.out r hr)⟩
   rintro e w3 ⟨Ax, cx, rfl, hox, hb3⟩
   have hxe : allL RC.X RC.W [⟨Ap, np, cp, pl⟩, ⟨Aq, nQ, cq, ql⟩] = xsE (pl ++ ql) := by simp [allL, telL, xsE]
   rw [hxe] at hox ⊢
   obtain ⟨xs, hxs⟩ : ∃ xs, risesOf (xsE (pl ++ ql)) = xs := ⟨_, rfl⟩
   rw [hxs] at hox ⊢
   obtain ⟨nx, hnx⟩ : ∃ nx, xs.length = nx := ⟨_, rfl⟩
   have hb3' : Below X2.heap.size X2 w3 := by
    refine ⟨hb3.os, hb3.tape, hb3.output, by have := hb3.size; simp at this; omega, fun i hi => (hb3.block i (by simp; omega)).trans (Below.heap_alloc X2 _ i hi)⟩
   have hVX := HJ.out.bel.size
   have hjm : JM V g16 (dropY la v) (dropY lb v) pl ql (.slice Ax xs.length cx) xs u12 (cellsY keep a b ys k ++ cellsX keep pl ql v (u - v) xs 0) w3 := by
    have hj3 := HJ.out.below hb3'
    exact ⟨by simpa [cellsX] using hj3, HP16.out.below hb3', HP17.out.below hb3', ownsRow_monoJ (by simp; omega) hox, hsz2⟩
   rw [hnx] at hjm ⊢
   have HJM := Lib.hid hjm
   have HXS := Lib.hid hxs
   have HNX := Lib.hid hnx
   have hxb : ∀ z ∈ xs, -1048576 ≤ z ∧ z ≤ 1048576 := fun z hz => by
    rw [← HXS.out] at hz
    exact xsE_bd HPA.out HQA.out HNA.out HNB.out (((rises_ok _).2 z).1 hz)
   have HXB := Lib.hid hxb
   have hxsort : xs.Pairwise (· < ·) := by rw [← HXS.out]; exact (rises_ok _).1
   have HXO := Lib.hid hxsort
   have hnx2 : nx ≤ 4000000 := by rw [← HNX.out, ← HXS.out]; refine Nat.le_trans (rises_len (fun z hz => hz)) ?_; rw [xsE_len, List.length_append, HNP.out, HNQ.out]; omega
   have hpc' : ∀ r ∈ pl, r.cnt = true := fun r hr => HNA.out r (HPA.out r hr)
   have hqc' : ∀ r ∈ ql, r.cnt = true := fun r hr => HNB.out r (HQA.out r hr)
   have HPC := Lib.hid hpc'
   have HQC := Lib.hid hqc'
   have HRP := Lib.hid (show Right pl by rw [← HPL.out]; exact row_right (canon_down HCA.out) v)
   have HRQ := Lib.hid (show Right ql by rw [← HQL.out]; exact row_right (canon_down HCB.out) v)
   clear hxe hxs hnx hox hb3 hb3' hjm hxb hxsort hpc' hqc' s16 s17 HJ HP16 HP17 HPR HQR
   go_wp2_with fail
   go_loopw [19, 12] (fun i vo wr => ∃ (j : Nat) (lp lq : List RC), i = .int .i64 j ∧ (j < nx ∨ j = 0) ∧ JM V g16 (dropY la v) (dropY lb v) lp lq (.slice Ax nx cx) xs vo (cellsY keep a b ys k ++ cellsX keep pl ql v (u - v) xs j) wr ∧ RestX (xs.take j) pl lp ∧ RestX (xs.take j) ql lq) (fun i _ _ => nx - (intOf i).toNat)
   case atStart => exact ⟨0, pl, ql, rfl, .inr rfl, HJM.out, RestX.start HPC.out, RestX.start HQC.out⟩
   case round =>
    obtain ⟨j, lp, lq, rfl, hj, hjm, hrp, hrq⟩ := hrel
    have HJM := Lib.hid hjm
    have HRPX := Lib.hid hrp
    have HRQX := Lib.hid hrq
    have j0 : (0 : Int) ≤ (j : Int) := by omega
    have hwj : IntKind.i64.wrap ((j : Int) + 1) = (j : Int) + 1 := IntWalk.i64_in _ (by omega)
    have j3 : (0 : Int) ≤ (j : Int) + 1 := by omega
    clear hjm hrp hrq
    by_cases hlt2 : j + 1 < nx
    ·
     obtain ⟨c, hc⟩ : ∃ c, xs[j]? = some c := ⟨_, List.getElem?_eq_getElem (by rw [HNX.out]; omega)⟩
     obtain ⟨d, hd⟩ : ∃ d, xs[j + 1]? = some d := ⟨_, List.getElem?_eq_getElem (by rw [HNX.out]; exact hlt2)⟩
     have hcb := HXB.out c (List.mem_of_getElem? hc)
     have hdb := HXB.out d (List.mem_of_getElem? hd)
     have hox := HJM.out.xs
     unfold OwnI at hox
     rw [HNX.out] at hox
     obtain ⟨gx, cx', hvx, hgx, _, _, _, hbx, _⟩ := own_I64' hox (by omega)
     injection hvx with hvx1 hvx2 hvx3
     subst hvx1 hvx3
     have e1 : wr.cell? ⟨gx, j, none⟩ = some (.int .i64 c) := hbx.cellV (i64_at hc)
     have e2 : wr.cell? ⟨gx, j + 1, none⟩ = some (.int .i64 d) := hbx.cellV (i64_at hd)
     have hdj : decide ((j : Int) + 1 < (nx : Int)) = true := by simp; omega
     have j1 : (j : Int) < (nx : Int) := by omega
     have j2 : (j : Int) + 1 < (nx : Int) := by omega
     have HC := Lib.hid hc
     have HD := Lib.hid hd
     clear hc hd hbx hvx2 hox
     go_wp2_with fail
     go_quiet (fail)
     replace HJM := Lib.hid (HJM.out.below (below_drewN (bre wr) nq))
     obtain ⟨D2, hD2⟩ : ∃ D2, wr.drewN nq = D2 := ⟨_, rfl⟩
     have hj := HJM.out
     rw [hD2] at hj ⊢
     replace HJM := Lib.hid hj
     clear hj hD2 e1 e2
     go_wp2_with fail
     have HB2 := Lib.hid (show Below D2.heap.size D2 D2.drew from (bre D2).drew)
     replace HJM := Lib.hid (HJM.out.below HB2.out)
     refine wp_region_noPanic ?_
     refine wp_region_held_drew (S := (fun w' => w'.cell? ⟨w.heap.size, 0, none⟩ = some (.func (.func kf) #[] #[]))) (by kernel_rfl) ?_ (fun hHeld => ?_)
     ·
      (try dsimp only)
      exact (K3.out.belowS HJM.out.o.bel).cellV (i := 0) rfl
     refine take_at 0 84 (.pointer (some ⟨w.heap.size, 0, none⟩)) rfl rfl (by kernel_rfl) (by kernel_rfl) (by kernel_rfl) (fun _ _ _ h => h) (Or.inl ⟨by rfl, ?_⟩) (by assumption) ?_
     ·
      intro W0 hSw
      (try dsimp only at hSw)
      go_simp
     simp only [List.set_cons_zero, List.set_cons_succ]
     refine take_at 1 85 (.func (.func kf) #[] #[]) rfl rfl (by kernel_rfl) (by kernel_rfl) (by kernel_rfl) (fun _ _ _ h => h) (Or.inl ⟨by rfl, ?_⟩) (by assumption) ?_
     ·
      intro W0 hSw
      (try dsimp only at hSw)
      go_simp
     simp only [List.set_cons_zero, List.set_cons_succ]
     refine take_at 2 86 (.int .i64 c) rfl rfl (by kernel_rfl) (by kernel_rfl) (by kernel_rfl) (fun _ _ _ h => h) (Or.inl ⟨by rfl, ?_⟩) (by assumption) ?_
     ·
      intro W0 hSw
      (try dsimp only at hSw)
      go_simp
     simp only [List.set_cons_zero, List.set_cons_succ]
     refine take_at 4 88 (.int .i64 c) rfl rfl (by kernel_rfl) (by kernel_rfl) (by kernel_rfl) (fun _ _ _ h => h) (Or.inl ⟨by rfl, ?_⟩) (by assumption) ?_
     ·
      intro W0 hSw
      (try dsimp only at hSw)
      go_simp
     simp only [List.set_cons_zero, List.set_cons_succ]
     refine wpAnyH_ready (rs := [3]) (by kernel_rfl) (by simp) ?_
     refine AllReadyH.cons rfl (fun K hK => ?_) AllReadyH.nil
     go_simp
     refine (across_any V.heap.size g16 lp c _ HJM.out.p HRPX.out.cnt).mono ?_
     rintro e wA ⟨rfl, hpA, hgA⟩
     rw [HRPX.out.head HRP.out HC.out HXO.out]
     replace HJM := Lib.hid (HJM.out.rowP hpA hgA)
     clear hpA hgA
     go_simp
     refine hK.out _ _ ?_ (fun hHeld => ?_)
     ·
      (try dsimp only)
      exact (K3.out.belowS HJM.out.o.bel).cellV (i := 0) rfl
     clear hK K
     refine wpAnyH_ready (rs := [5]) (by kernel_rfl) (by simp) ?_
     refine AllReadyH.cons rfl (fun K hK => ?_) AllReadyH.nil
     go_simp
     refine (across_any V.heap.size (g16 + 1) lq c _ HJM.out.q HRQX.out.cnt).mono ?_
     rintro e wB2 ⟨rfl, hpB, hgB⟩
     rw [HRQX.out.head HRQ.out HC.out HXO.out]
     replace HJM := Lib.hid (HJM.out.rowQ hpB hgB)
     clear hpB hgB
     go_simp
     refine hK.out _ _ ?_ (fun hHeld => ?_)
     ·
      (try dsimp only)
      exact (K3.out.belowS HJM.out.o.bel).cellV (i := 0) rfl
     clear hK K
     have hcf := HK.out.1
     unfold CallsF at hcf
     refine wpAnyH_ready (rs := [6]) (by kernel_rfl) (by simp) ?_
     refine AllReadyH.cons rfl (fun K hK => ?_) AllReadyH.nil
     go_simp
     refine (HK.out.2 _ _ _).mono ?_
     rintro e wC ⟨rfl, rfl⟩
     obtain ⟨kb, hkb⟩ : ∃ kb, keep (anyX pl c) (anyX ql c) = kb := ⟨_, rfl⟩
     rw [hkb]
     have HKB := Lib.hid hkb
     clear hkb
     go_simp
     refine hK.out _ _ ?_ (fun hHeld => ?_)
     ·
      (try dsimp only)
      exact (K3.out.belowS HJM.out.o.bel).cellV (i := 0) rfl
     clear hK K
     refine wpAnyH_done (by kernel_rfl) ?_ _
     refine NoPanic.normal ?_
     clear hcf hHeld HB2
     have hcl := cellsX_len keep pl ql v (u - v) xs j
     have hcy := cellsY_len (keep := keep) HE.out ys k
     have hkY : k ≤ Y.length := by
      have h1 := rises_len HE.out.ys
      rw [HYS.out, HNY.out] at h1
      omega
     have hjX : j ≤ X.length := by
      have h1 := rowx_len HE.out v
      rw [HPL.out, HQL.out, HXS.out, HNX.out] at h1
      omega
     have hkm : k * X.length ≤ Y.length * X.length := Nat.mul_le_mul_right _ hkY
     have hX1 : X.length ≤ Y.length * X.length := Nat.le_mul_of_pos_left _ (by
      have h1 := rises_len HE.out.ys
      rw [HYS.out, HNY.out] at h1
      omega)
     have hYXs := HYX.out
     have HCS := Lib.hid (cellsX_succ keep pl ql v (u - v) xs j)
     obtain ⟨cl, hcle⟩ : ∃ cl, cellsY keep a b ys k ++ cellsX keep pl ql v (u - v) xs j = cl := ⟨_, rfl⟩
     have hcn : cl.length ≤ 300000 := by
      rw [← hcle, List.length_append]
      have h1 := rowx_len HE.out v
      rw [HPL.out, HQL.out, HXS.out, HNX.out] at h1
      omega
     have hjm := HJM.out
     rw [hcle] at hjm
     replace HJM := Lib.hid hjm
     have HCLE := Lib.hid hcle
     obtain ⟨Ao, co, hvo, hco⟩ := own_form hjm.o.out
     subst hvo
     have hgd1 := getD_of HC.out
     have hgd2 := getD_of HD.out
     have HGD1 := Lib.hid hgd1
     have HGD2 := Lib.hid hgd2
     clear hcl hcy hkY hjX hkm hX1 hYXs hcle hjm hgd1 hgd2
     cases kb
     ·
      go_wp2_with fail
      go_roundw
      case rel =>
       refine ⟨j + 1, dropX lp c, dropX lq c, by go_num, by omega, ?_, HRPX.out.next HC.out HXO.out, HRQX.out.next HC.out HXO.out⟩
       rw [HCS.out, HGD1.out, HKB.out]
       rw [if_neg (by decide), List.append_nil, HCLE.out]
       exact HJM.out
      case measure => simp [intOf]; omega
     ·
      go_wp2_with (at_builtin; refine wpList_append_own _ rfl _ _ 31 rfl V.heap.size 103 i0 _ 4 32 Tryz.underlying31 hi0 hz0 hz1 hz2 rfl (by decide) _ _ _ rfl (HJM.out.o.out.alloc _) ⟨wB2.heap.size, 0, none⟩ 1 1 [.int .i64 c, .int .i64 v, .int .i64 (d - c), .int .i64 (u - v)] rfl rfl (four_new _ _ _ _ _ _) (by simp [Value.oneCell']) (by simp only [maxLen]; omega) (by omega) (by have := HJM.out.o.bel.size; simp; omega) ?_; intro v' w4 hown' hgrow _; have HO4 := Lib.hid hown'; have HG4 := Lib.hid hgrow; clear hown' hgrow)
      have hj4 := (HJM.out.below (bal (bre wB2) (.cells #[.int .i64 c, .int .i64 v, .int .i64 (d - c), .int .i64 (u - v)] 103))).outs (vo' := v') (cells' := cl ++ [⟨c, v, d - c, u - v⟩]) (by have := HO4.out; simpa [rcs, RC.cells] using this) HG4.out
      have HJ4 := Lib.hid hj4
      clear hj4
      go_roundw
      case rel =>
       refine ⟨j + 1, dropX lp c, dropX lq c, by go_num, by omega, ?_, HRPX.out.next HC.out HXO.out, HRQX.out.next HC.out HXO.out⟩
       rw [HCS.out, HGD1.out, HKB.out]
       rw [if_pos rfl, HGD2.out, ← List.append_assoc, HCLE.out]
       exact HJ4.out
      case measure => simp [intOf]; omega
    ·
     have hdj : decide ((j : Int) + 1 < (nx : Int)) = false := by simp; omega
     have j2 : ¬ (j : Int) + 1 < (nx : Int) := by omega
     have hjn : j = nx - 1 := by omega
     have HJN := Lib.hid hjn
     clear hjn
     go_wp2_with fail
     go_roundw
     case rel =>
      refine ⟨k + 1, dropY la v, dropY lb v, by go_num, by omega, ?_, HRA.out.next HV.out HSO.out, HRB.out.next HV.out HSO.out⟩
      have := HJM.out.o
      rw [HJN.out, ← HNX.out, ← HXS.out, ← HPL.out, ← HQL.out] at this
      rw [cellsY_succ, getD_of HV.out, getD_of HU.out]
      exact this
     case measure => simp [intOf]; omega
  ·
   have hdl : decide ((k : Int) + 1 < (ny : Int)) = false := by simp; omega
   have k2 : ¬ (k : Int) + 1 < (ny : Int) := by omega
   have hkn : k = ny - 1 := by omega
   have hcle : cellsY keep a b ys k = joinR keep a b := by rw [hkn, ← HNY.out, ← HYS.out]; rfl
   have hclen := (cells_edges (keep := keep) HE.out).2.1
   have hj := HJ.out
   rw [hcle] at hj
   obtain ⟨cl, hcl⟩ : ∃ cl, joinR keep a b = cl := ⟨_, rfl⟩
   rw [hcl] at hj hclen
   have HCL := Lib.hid hcl
   replace HJ := Lib.hid hj
   obtain ⟨Ao, co, hvo, hco⟩ := own_form hj.out
   subst hvo
   obtain ⟨m, hm⟩ : ∃ m, cl.length = m := ⟨_, rfl⟩
   rw [hm] at hclen hco ⊢
   have HM := Lib.hid hm
   have hm1 : m ≤ 100000 := Nat.le_trans hclen HYX.out
   have HRC := Lib.hid (RdR.of_own (n := m) (by have := HJ.out.out; rw [HM.out] at this; exact this) HM.out)
   have HCC := Lib.hid (show ∀ r ∈ cl, r.cnt = true from fun r hr => cells_cnt HNA.out HNB.out r (by rw [HCL.out]; exact hr))
   clear hkn hcle hclen hj hcl hm
   go_wp2_with fail
   refine (of_anyT Ao m co cl _ hm1 HRC.out (fun r hr => by have := cntI r (HCC.out r hr); omega)).mono ?_
   rintro e w5 ⟨out, A', c', rfl, hr5, hc5, hi5, hl5, ht5, hb5⟩
   have b6 := (K6.out.belowS HJ.out.bel).belowS hb5
   have q0 := b6.cellV (i := 0) (v := .slice none 0 0) rfl
   have f0 := b6.frozen 0
   have l6 := b6.lt
   have KR := Lib.hid b6
   have HR5 := Lib.hid hr5
   have HI5 := Lib.hid hi5
   have HC5 := Lib.hid hc5
   have HL5 := Lib.hid hl5
   have HT5 := Lib.hid ht5
   have HB5 := Lib.hid (bstep (bstep HBX.out (HJ.out.bel)) hb5)
   clear hr5 hi5 hc5 hb5 b6 hl5 ht5
   go_wp2_with fail
   have hb9 := KR.out.set_ 0 (.slice A' out.length c')
   have r0 := hb9.cellV (i := 0) (v := .slice A' out.length c') rfl
   have hfil : cl.filter RC.cnt = cl := List.filter_eq_self.2 HCC.out
   have hpl : ∀ x y, InR out x y ↔ InR (joinR keep a b) x y := fun x y => by rw [HI5.out, hfil, HCL.out]
   refine bodyPost_ret (v := .agg #[.slice A' out.length c']) (by simp [results, Tryz.results151, go_sem, r0]) rfl ⟨_, out, rfl, ⟨A', c', rfl, rdR_farS HR5.out KR.out _, HC5.out, HL5.out, canon_cnt HCC.out HC5.out (fun x y h => by rw [← HCL.out]; exact (hpl x y).1 h)⟩, fun x y => ?_, canon_edges HC5.out hpl (cells_edges HE.out).1, ⟨A', out.length, c', rfl, HT5.out.set KR.out (by decide) 0 _⟩, bset (p := ⟨w.heap.size + 1 + 1 + 1, 0, none⟩) HB5.out (by show w.heap.size ≤ w.heap.size + 1 + 1 + 1; omega) _⟩
   rw [Bool.eq_iff_iff, inB_iff, hpl]
   exact join_places HK0.out (fun r hr => by have := cntI r (HNA.out r hr); exact ⟨by omega, by omega⟩) (fun r hr => by have := cntI r (HNB.out r hr); exact ⟨by omega, by omega⟩) x y
end Go.Proofs.YtdaedkolpfkdjaaGreat
end
