/-
  The walks of a box's rect, and of a place's Area where the window isn't shaped.
  The walks of Meet and Within of regions, and of a place's Area where the window is shaped.
-/
import Derived.Test.YtdaedkolpfkdjaaGreatZT17
import Derived.Test.YtdaedkolpfkdjaaGreatZT15
import Derived.Test.YtdaedkolpfkdjaaGreatZT16
section
namespace Go.Proofs.YtdaedkolpfkdjaaGreat
open Go.RowKit Go.Maps Go.Shelf


theorem rdR_farSlice {W : World} {A B : Option Addr} {n m c g : Nat} {t : TypeId} {rs : List RC} (h : RdR W A n rs) (hB : Blk W g t #[.slice B m c]) (u : Value) : RdR (W.setCell ⟨g, 0, none⟩ u) A n rs :=
  ⟨h.1, fun hn => by
    obtain ⟨b, off, e, hb, hc⟩ := h.2 hn
    have hne : b ≠ g := fun e' => by
      subst e'
      obtain ⟨r, hr'⟩ : ∃ r, rs[0]? = some r := ⟨_, List.getElem?_eq_getElem (by rw [h.1]; exact hn)⟩
      obtain ⟨c0, _⟩ := hc 0 r hr'
      rw [hB.cell] at c0
      cases hoff : off + 0 * 4 with
      | zero => rw [hoff] at c0; simp at c0
      | succ k => rw [hoff] at c0; simp at c0
    have hk : ∀ o v, W.cell? ⟨b, o, none⟩ = some v → (W.setCell ⟨g, 0, none⟩ u).cell? ⟨b, o, none⟩ = some v := fun o v hv => (World.cell?_setCell_other W ⟨g, 0, none⟩ ⟨b, o, none⟩ u (fun e' => by cases e'; exact hne rfl)).trans hv
    exact ⟨b, off, e, by simpa [World.setCell] using hb, fun i r hi => by
      obtain ⟨c0, c1, c2, c3⟩ := hc i r hi
      exact ⟨hk _ _ c0, hk _ _ c1, hk _ _ c2, hk _ _ c3⟩⟩⟩

/-- four cells of a new block. -/
theorem rd_new4 (w : World) (a b c d : Int) (t : TypeId) : RdR (w.alloc (.cells #[.int .i64 a, .int .i64 b, .int .i64 c, .int .i64 d] t)) (some ⟨w.heap.size, 0, none⟩) 1 [⟨a, b, c, d⟩] := by
  have hb := Blk.new w t #[.int .i64 a, .int .i64 b, .int .i64 c, .int .i64 d]
  refine ⟨rfl, fun _ => ⟨w.heap.size, 0, rfl, hb.lt, fun k r hk => ?_⟩⟩
  cases k with
  | zero =>
    simp only [List.getElem?_cons_zero, Option.some.injEq] at hk
    subst hk
    exact ⟨hb.cellV (i := 0) rfl, hb.cellV (i := 1) rfl, hb.cellV (i := 2) rfl, hb.cellV (i := 3) rfl⟩
  | succ k => simp at hk

set_option maxRecDepth 100000 in
set_option maxHeartbeats 4000000 in
theorem area_plain (pv : Value) (n : Nat) (bs : Bxs) (id : Int) (b : BX) (w : World) (hid : 0 ≤ id ∧ id ≤ 4294967295) (hp : PlaceIs w pv n bs) (hb : bs id = some b) (hS : b.S = false) (hW : b.W ≤ 1000000 ∧ b.H ≤ 1000000) :
    Calls Tryz.prog 77 #[pv, .int .u32 id] w fun e w' => ∃ (out : List RC) (A' : Option Addr) (c' : Nat), e = .returned (.agg #[.slice A' out.length c']) ∧ RdR w' A' out.length out ∧ Canon out ∧ (∀ x y, InR out x y ↔ (0 ≤ x ∧ x < b.W) ∧ 0 ≤ y ∧ y < b.H) ∧ out.length ≤ 1000000000000 ∧ Below w.heap.size w w' := by
  obtain ⟨mb, rfl, hm⟩ := hp
  obtain ⟨X, Y, W, H, M, G, B, S, A, sn, c⟩ := b
  dsimp only at hS hW ⊢
  subst hS
  have HM := Lib.hid hm
  have HWF := Lib.hid (u32_wf hid)
  have HG := Lib.hid (show (bs.f id).getD zBX.v = .agg #[.int .i64 X, .int .i64 Y, .int .i64 W, .int .i64 H, .bool M, .int .i64 G, .int .i64 B, .bool false, .slice A sn c] from (bxv_getD (bs id)).trans (by rw [hb]; rfl))
  have HS := Lib.hid (show (bs.f id).isSome = true by simp [Bxs.f, hb])
  have HBE := Lib.hid (bal (bal (bal (bal (bre w) (.cells #[.map mb] 40)) (.cells #[.slice none 0 0] 57)) (.cells #[.int .i64 X, .int .i64 Y, .int .i64 W, .int .i64 H, .bool M, .int .i64 G, .int .i64 B, .bool false, .slice A sn c] 133)) (.cells #[.int .i64 0, .int .i64 0, .int .i64 W, .int .i64 H] 103))
  have H4 := Lib.hid (((blk_new2 w (.cells #[.map mb] 40) 57 #[.slice none 0 0]).alloc (.cells #[.int .i64 X, .int .i64 Y, .int .i64 W, .int .i64 H, .bool M, .int .i64 G, .int .i64 B, .bool false, .slice A sn c] 133)).alloc (.cells #[.int .i64 0, .int .i64 0, .int .i64 W, .int .i64 H] 103))
  clear hm hb
  go_enter Tryz.func77, Tryz.ntmps77
  go_wp2_with (at_lookup; refine opt_look_ok rfl _ _ 38 rfl 48 133 .u32 Tryz.underlying48 Tryz.underlying38 zBX.v (Tryz.zeroBox _) mb n bs.f rfl (HM.out.below (by repeat (first | exact bre _ | refine bal ?_ _))) id rfl HWF.out ?_; rw [HG.out, HS.out])
  obtain ⟨X4, hX4⟩ : ∃ X4, ((((w.alloc (.cells #[.map mb] 40)).alloc (.cells #[.slice none 0 0] 57)).alloc (.cells #[.int .i64 X, .int .i64 Y, .int .i64 W, .int .i64 H, .bool M, .int .i64 G, .int .i64 B, .bool false, .slice A sn c] 133)).alloc (.cells #[.int .i64 0, .int .i64 0, .int .i64 W, .int .i64 H] 103)) = X4 := ⟨_, rfl⟩
  have hs4 : X4.heap.size = w.heap.size + 1 + 1 + 1 + 1 := by rw [← hX4]; simp
  have hbe := HBE.out
  have h4 := H4.out
  rw [hX4] at hbe h4 ⊢
  rw [← hs4]
  have HX := Lib.hid hbe
  have H4 := Lib.hid h4
  have HS4 := Lib.hid hs4
  clear hbe h4 hX4 hs4 HBE
  refine (of_any _ 1 1 [⟨0, 0, W, H⟩] _ (by omega) (rd_new4 X4 0 0 W H _) (by simp)).mono ?_
  rintro e w5 ⟨out, A', c', rfl, hr5, hc5, hi5, hl5, hb5⟩
  have b5 := (H4.out.alloc (.cells #[.int .i64 0, .int .i64 0, .int .i64 W, .int .i64 H] 103)).belowS hb5
  have q0 := b5.cellV (i := 0) (v := .slice none 0 0) rfl
  have f0 := b5.frozen 0
  have l5 := b5.lt
  have K5 := Lib.hid b5
  have HR := Lib.hid hr5
  have HI := Lib.hid hi5
  have HC := Lib.hid hc5
  have HB := Lib.hid (bstep (bal HX.out (.cells #[.int .i64 0, .int .i64 0, .int .i64 W, .int .i64 H] 103)) hb5)
  have HL := Lib.hid hl5
  clear hr5 hi5 hc5 hb5 b5 hl5
  go_wp2_with fail
  have hb9 := K5.out.set_ 0 (.slice A' out.length c')
  have r0 := hb9.cellV (i := 0) (v := .slice A' out.length c') rfl
  refine bodyPost_ret (v := .agg #[.slice A' out.length c']) (by simp [results, Tryz.results77, go_sem, r0]) rfl ⟨out, A', c', rfl, rdR_farSlice HR.out K5.out _, HC.out, fun x y => ?_, HL.out, bset (p := ⟨w.heap.size + 1, 0, none⟩) HB.out (by show w.heap.size ≤ w.heap.size + 1; omega) _⟩
  rw [HI.out]
  unfold InR
  simp only [List.mem_filter, List.mem_singleton]
  constructor
  · rintro ⟨r, ⟨rfl, _⟩, h1, h2, h3, h4⟩
    dsimp only at h1 h2 h3 h4
    omega
  · rintro ⟨⟨h1, h2⟩, h3, h4⟩
    exact ⟨⟨0, 0, W, H⟩, ⟨rfl, (cnt_iff _).2 ⟨by dsimp only; omega, by dsimp only; omega⟩⟩, by dsimp only; omega, by dsimp only; omega, by dsimp only; omega, by dsimp only; omega⟩

end Go.Proofs.YtdaedkolpfkdjaaGreat
end

section
namespace Go.Proofs.YtdaedkolpfkdjaaGreat
open Go.RowKit Go.Maps Go.Shelf

theorem keepAnd : KeepFn 150 (fun a b => a && b) := by
  refine ⟨fun args W => by simp [go_sem], fun a b w => ?_⟩
  cases a <;> cases b
  all_goals
    go_enter Tryz.func150, Tryz.ntmps150
    go_wp2_with fail
    go_ret
    exact ⟨rfl, rfl⟩
theorem RegAt.farS {W : World} {v : Value} {l : List RC} (h : RegAt W v l) {g n c : Nat} {t : TypeId} {B : Option Addr} (hB : Blk W g t #[.slice B n c]) (u : Value) : RegAt (W.setCell ⟨g, 0, none⟩ u) v l := by
  obtain ⟨A, c1, e, hr, h2⟩ := h
  exact ⟨A, c1, e, rdR_farS hr hB u, h2⟩

set_option maxRecDepth 100000 in
set_option maxHeartbeats 4000000 in
theorem meet_anyT (v1 v2 : Value) (a b : List RC) (Y X : List Int) (w : World) (ha : RegAt w v1 a) (hb : RegAt w v2 b) (he : EdgeIn (a ++ b) Y X) (hYX : Y.length * X.length ≤ 100000) :
    Calls Tryz.prog 90 #[v1, v2] w fun e w' => EndT w (fun a b => a && b) a b Y X e w' := by
  have HE := Lib.hid he
  have HA := Lib.hid ha
  have HBR := Lib.hid hb
  obtain ⟨A1, c1, rfl, _⟩ := ha
  obtain ⟨A2, c2, rfl, _⟩ := hb
  obtain ⟨n1, hn1⟩ : ∃ n1, a.length = n1 := ⟨_, rfl⟩
  obtain ⟨n2, hn2⟩ : ∃ n2, b.length = n2 := ⟨_, rfl⟩
  have ha := HA.out
  have hb := HBR.out
  rw [hn1] at ha ⊢
  rw [hn2] at hb ⊢
  have hba := bal (bal (bal (bre w) (.cells #[.slice A1 n1 c1] 57)) (.cells #[.slice A2 n2 c2] 57)) (.cells #[.slice none 0 0] 57)
  have xK4 := blk_newA (w.alloc (.cells #[.slice A1 n1 c1] 57)) (.cells #[.slice A2 n2 c2] 57) 57 #[.slice none 0 0]
  have xA := ha.below hba
  have xB := hb.below hba
  clear ha hb HA HBR he
  go_enter Tryz.func90, Tryz.ntmps90
  go_wp2_with fail
  obtain ⟨X3, hX3⟩ : ∃ X3, ((w.alloc (.cells #[.slice A1 n1 c1] 57)).alloc (.cells #[.slice A2 n2 c2] 57)).alloc (.cells #[.slice none 0 0] 57) = X3 := ⟨_, rfl⟩
  rw [hX3] at hba xK4 xA xB ⊢
  rw [World.size_alloc] at xK4
  have HBZ := Lib.hid hba
  have K4 := Lib.hid xK4
  have HA := Lib.hid xA
  have HBR := Lib.hid xB
  clear hba xK4 xA xB hX3
  refine (join_anyT 150 (fun a b => a && b) _ _ a b Y X _ keepAnd rfl HA.out HBR.out HE.out hYX).mono ?_
  rintro e w5 ⟨v, out, rfl, hro, hin, hed, hty, hb5⟩
  have b5 := K4.out.belowS hb5
  have HB5 := Lib.hid (bstep HBZ.out hb5)
  have HRO := Lib.hid hro
  have HIN := Lib.hid hin
  have HED := Lib.hid hed
  have HTY := Lib.hid hty
  obtain ⟨Ao, co, rfl, _⟩ := hro
  have q0 := b5.cellV (i := 0) (v := .slice none 0 0) rfl
  have f0 := b5.frozen 0
  have l5 := b5.lt
  have K5 := Lib.hid b5
  clear hb5 b5 hin hed hty
  go_wp2_with fail
  have hb9 := K5.out.set_ 0 (.slice Ao out.length co)
  have r0 := hb9.cellV (i := 0) (v := .slice Ao out.length co) rfl
  exact bodyPost_ret (v := .agg #[.slice Ao out.length co]) (by simp [results, Tryz.results90, go_sem, r0]) rfl ⟨_, out, rfl, HRO.out.farS K5.out _, HIN.out, HED.out, HTY.out.set K5.out (by decide) 0 _, bset (p := ⟨w.heap.size + 1 + 1, 0, none⟩) HB5.out (by show w.heap.size ≤ w.heap.size + 1 + 1; omega) _⟩
theorem meet_any (v1 v2 : Value) (a b : List RC) (Y X : List Int) (w : World) (ha : RegAt w v1 a) (hb : RegAt w v2 b) (he : EdgeIn (a ++ b) Y X) (hYX : Y.length * X.length ≤ 100000) :
    Calls Tryz.prog 90 #[v1, v2] w fun e w' => EndJ w (fun a b => a && b) a b Y X e w' := (meet_anyT v1 v2 a b Y X w ha hb he hYX).mono fun _ _ h => h.plain

theorem Tryz.sizeRg : (Tryz.prog.info? 57).map (·.size) = some 1 := by kernel_rfl
theorem blk_puts1 {w : World} {g : Nat} {t : TypeId} {a0 : Value} (b0 : Value) (h : Blk w g t #[a0]) : Blk (World.setCells w g 0 (#[b0] : Array Value).toList) g t #[b0] := h.set_ 0 b0
theorem regAt_one {w : World} {A : Option Addr} {c : Nat} {r : RC} {out : List RC} (hcn : r.cnt = true) (hr : RdR w A out.length out) (hc : Canon out) (hp : ∀ x y, InR out x y ↔ InR ([r].filter RC.cnt) x y) : out = [r] ∧ RegAt w (.agg #[.slice A out.length c]) [r] := by
  have hpos := (cnt_iff r).1 hcn
  have e1 : [r].filter RC.cnt = [r] := by simp [hcn]
  rw [e1] at hp
  have e2 : out = [r] := canon_uniq hc (canon_one (by omega) (by omega)) hp
  subst e2
  exact ⟨rfl, A, c, rfl, hr, hc, by simp, fun s hs => by rw [List.mem_singleton.1 hs]; exact hcn⟩

set_option maxRecDepth 100000 in
set_option maxHeartbeats 4000000 in
theorem within_any (v1 : Value) (a : List RC) (rx ry rw' rh : Int) (Y X : List Int) (w : World) (ha : RegAt w v1 a) (hcn : (⟨rx, ry, rw', rh⟩ : RC).cnt = true) (he : EdgeIn (a ++ [⟨rx, ry, rw', rh⟩]) Y X) (hYX : Y.length * X.length ≤ 100000) :
    Calls Tryz.prog 136 #[v1, .agg #[.int .i64 rx, .int .i64 ry, .int .i64 rw', .int .i64 rh]] w fun e w' => EndJ w (fun a b => a && b) a [⟨rx, ry, rw', rh⟩] Y X e w' := by
  have HE := Lib.hid he
  have HA := Lib.hid ha
  have HCN := Lib.hid hcn
  obtain ⟨A1, c1, rfl, _⟩ := ha
  obtain ⟨n1, hn1⟩ : ∃ n1, a.length = n1 := ⟨_, rfl⟩
  have ha := HA.out
  rw [hn1] at ha ⊢
  have hba := bal (bal (bal (bre w) (.cells #[.slice A1 n1 c1] 57)) (.cells #[.int .i64 rx, .int .i64 ry, .int .i64 rw', .int .i64 rh] 103)) (.cells #[.slice none 0 0] 57)
  have xK2 := ((Blk.new w 57 #[.slice A1 n1 c1]).alloc (.cells #[.int .i64 rx, .int .i64 ry, .int .i64 rw', .int .i64 rh] 103)).alloc (.cells #[.slice none 0 0] 57)
  have xK3 := (blk_newA w (.cells #[.slice A1 n1 c1] 57) 103 #[.int .i64 rx, .int .i64 ry, .int .i64 rw', .int .i64 rh]).alloc (.cells #[.slice none 0 0] 57)
  have xK4 := blk_newA (w.alloc (.cells #[.slice A1 n1 c1] 57)) (.cells #[.int .i64 rx, .int .i64 ry, .int .i64 rw', .int .i64 rh] 103) 57 #[.slice none 0 0]
  have xA := ha.below hba
  clear ha HA he hcn
  go_enter Tryz.func136, Tryz.ntmps136
  go_upto_region 1 with fail
  obtain ⟨X3, hX3⟩ : ∃ X3, ((w.alloc (.cells #[.slice A1 n1 c1] 57)).alloc (.cells #[.int .i64 rx, .int .i64 ry, .int .i64 rw', .int .i64 rh] 103)).alloc (.cells #[.slice none 0 0] 57) = X3 := ⟨_, rfl⟩
  rw [hX3] at hba xK2 xK3 xK4 xA ⊢
  rw [World.size_alloc] at xK4
  have HBZ := Lib.hid hba
  have K2 := Lib.hid xK2
  have K3 := Lib.hid xK3
  have K4 := Lib.hid xK4
  have HA := Lib.hid xA
  have HL4 := Lib.hid (show X3.heap.size = w.heap.size + 1 + 1 + 1 by rw [← hX3]; simp)
  clear hba xK2 xK3 xK4 xA hX3
  have HBW := Lib.hid (show Below X3.heap.size X3 X3.drew from (bre X3).drew)
  refine wp_region_noPanic ?_
  refine wp_region_held_drew (S := (fun w' => w'.cell? ⟨w.heap.size, 0, none⟩ = some (.slice A1 n1 c1) ∧ w'.cell? ⟨w.heap.size + 1, 0, none⟩ = some (.int .i64 rx) ∧ w'.cell? ⟨w.heap.size + 1, 1, none⟩ = some (.int .i64 ry) ∧ w'.cell? ⟨w.heap.size + 1, 2, none⟩ = some (.int .i64 rw') ∧ w'.cell? ⟨w.heap.size + 1, 3, none⟩ = some (.int .i64 rh))) (by kernel_rfl) ?_ (fun hHeld => ?_)
  · (try dsimp only)
    exact ⟨(K2.out.belowS HBW.out).cellV (i := 0) rfl, (K3.out.belowS HBW.out).cellV (i := 0) rfl, (K3.out.belowS HBW.out).cellV (i := 1) rfl, (K3.out.belowS HBW.out).cellV (i := 2) rfl, (K3.out.belowS HBW.out).cellV (i := 3) rfl⟩
  refine Tr.take_at 0 5 (.agg #[.slice A1 n1 c1]) rfl rfl (by kernel_rfl) (by kernel_rfl) (by kernel_rfl) (fun _ _ _ h => h) (Or.inl ⟨by rfl, ?_⟩) (by assumption) ?_
  · intro W0 hSw
    (try dsimp only at hSw)
    go_simp
  simp only [List.set_cons_zero, List.set_cons_succ]
  refine Tr.take_at 1 6 (.agg #[.int .i64 rx, .int .i64 ry, .int .i64 rw', .int .i64 rh]) rfl rfl (by kernel_rfl) (by kernel_rfl) (by kernel_rfl) (fun _ _ _ h => h) (Or.inl ⟨by rfl, ?_⟩) (by assumption) ?_
  · intro W0 hSw
    (try dsimp only at hSw)
    go_simp
  simp only [List.set_cons_zero, List.set_cons_succ]
  refine wpAnyH_ready (rs := [2]) (by kernel_rfl) (by simp) ?_
  refine AllReadyH.cons rfl (fun K hK => ?_) AllReadyH.nil
  go_simp
  have hbB := bal (bre X3.drew) (.cells #[.int .i64 rx, .int .i64 ry, .int .i64 rw', .int .i64 rh] 103)
  have HR7 := Lib.hid (rd_new4 X3.drew rx ry rw' rh 103)
  replace HBW := Lib.hid (bstep HBW.out hbB)
  clear hbB
  refine hK.out _ _ ?_ (fun hHeld => ?_)
  · (try dsimp only)
    exact ⟨(K2.out.belowS HBW.out).cellV (i := 0) rfl, (K3.out.belowS HBW.out).cellV (i := 0) rfl, (K3.out.belowS HBW.out).cellV (i := 1) rfl, (K3.out.belowS HBW.out).cellV (i := 2) rfl, (K3.out.belowS HBW.out).cellV (i := 3) rfl⟩
  clear hK K
  refine wpAnyH_ready (rs := [3]) (by kernel_rfl) (by simp) ?_
  refine AllReadyH.cons rfl (fun K hK => ?_) AllReadyH.nil
  go_simp
  refine (of_any _ 1 1 [⟨rx, ry, rw', rh⟩] _ (by omega) HR7.out (fun r hr => by rw [List.mem_singleton.1 hr]; have := (cnt_iff _).1 HCN.out; dsimp only at this ⊢; omega)).mono ?_
  rintro e wA ⟨o2, A2, c2, rfl, hr2, hc2, hp2, hl2, hbA⟩
  obtain ⟨rfl, hra⟩ := regAt_one (c := c2) HCN.out hr2 hc2 hp2
  have HRA := Lib.hid hra
  replace HBW := Lib.hid (bstep HBW.out hbA)
  clear hbA hr2 hc2 hp2 hl2 hra
  go_simp
  refine hK.out _ _ ?_ (fun hHeld => ?_)
  · (try dsimp only)
    exact ⟨(K2.out.belowS HBW.out).cellV (i := 0) rfl, (K3.out.belowS HBW.out).cellV (i := 0) rfl, (K3.out.belowS HBW.out).cellV (i := 1) rfl, (K3.out.belowS HBW.out).cellV (i := 2) rfl, (K3.out.belowS HBW.out).cellV (i := 3) rfl⟩
  clear hK K
  refine wpAnyH_ready (rs := [4]) (by kernel_rfl) (by simp) ?_
  refine AllReadyH.cons rfl (fun K hK => ?_) AllReadyH.nil
  go_simp
  refine (meet_any (.agg #[.slice A1 n1 c1]) _ a [⟨rx, ry, rw', rh⟩] Y X _ (HA.out.below HBW.out) HRA.out HE.out hYX).mono ?_
  rintro e wB ⟨v, out, rfl, hro, hin, hed, hbA⟩
  have HRO := Lib.hid hro
  have HIN := Lib.hid hin
  have HED := Lib.hid hed
  obtain ⟨Ao, co, rfl, _⟩ := hro
  replace HBW := Lib.hid (bstep HBW.out hbA)
  clear hbA hin hed
  go_simp
  refine hK.out _ _ ?_ (fun hHeld => ?_)
  · (try dsimp only)
    exact ⟨(K2.out.belowS HBW.out).cellV (i := 0) rfl, (K3.out.belowS HBW.out).cellV (i := 0) rfl, (K3.out.belowS HBW.out).cellV (i := 1) rfl, (K3.out.belowS HBW.out).cellV (i := 2) rfl, (K3.out.belowS HBW.out).cellV (i := 3) rfl⟩
  clear hK K
  have K5 := Lib.hid (K4.out.belowS HBW.out)
  have HB5 := Lib.hid (bstep HBZ.out HBW.out)
  refine wpAnyH_ready (rs := [5]) (by kernel_rfl) (by simp) ?_
  refine AllReadyH.cons rfl (fun K hK => ?_) AllReadyH.nil
  refine Tr.wanted_plain rfl ?_
  refine store_mid0 rfl 57 _ _ rfl (w.heap.size + 1 + 1) 0 #[.slice Ao out.length co] (by rfl) (by rfl) (by have h := there_blk K5.out; exact h) Tryz.sizeRg (by simp [Value.oneCell']) ?_
  have K9 := Lib.hid (blk_puts1 (.slice Ao out.length co) K5.out)
  have HRO9 := Lib.hid (show RegAt (World.setCells wB (w.heap.size + 1 + 1) 0 (#[.slice Ao out.length co] : Array Value).toList) (.agg #[.slice Ao out.length co]) out from HRO.out.farS K5.out _)
  have HB9 := Lib.hid (show Below w.heap.size w (World.setCells wB (w.heap.size + 1 + 1) 0 (#[.slice Ao out.length co] : Array Value).toList) from bset (p := ⟨w.heap.size + 1 + 1, 0, none⟩) HB5.out (by show w.heap.size ≤ w.heap.size + 1 + 1; omega) _)
  have K2' := Lib.hid ((K2.out.belowS HBW.out).far (p := ⟨w.heap.size + 1 + 1, 0, none⟩) (by show w.heap.size ≠ w.heap.size + 1 + 1; omega) (.slice Ao out.length co))
  have K3' := Lib.hid ((K3.out.belowS HBW.out).far (p := ⟨w.heap.size + 1 + 1, 0, none⟩) (by show _ ≠ _; simp) (.slice Ao out.length co))
  refine hK.out _ _ ?_ (fun hHeld => ?_)
  · (try dsimp only)
    exact ⟨K2'.out.cellV (i := 0) rfl, K3'.out.cellV (i := 0) rfl, K3'.out.cellV (i := 1) rfl, K3'.out.cellV (i := 2) rfl, K3'.out.cellV (i := 3) rfl⟩
  clear hK K
  refine wpAnyH_done (by kernel_rfl) ?_ _
  refine NoPanic.normal ?_
  go_wp2_with fail
  have r0 := K9.out.cellV (i := 0) (v := .slice Ao out.length co) rfl
  exact bodyPost_ret (v := .agg #[.slice Ao out.length co]) (by simp [results, Tryz.results136, go_sem, r0]) rfl ⟨_, out, rfl, HRO9.out, HIN.out, HED.out, HB9.out⟩
  
set_option maxRecDepth 100000 in
set_option maxHeartbeats 4000000 in
theorem area_shaped (pv : Value) (n : Nat) (bs : Bxs) (id : Int) (b : BX) (a : List RC) (Ys Xs : List Int) (w : World) (hid : 0 ≤ id ∧ id ≤ 4294967295) (hp : PlaceIs w pv n bs) (hb : bs id = some b) (hS : b.S = true) (hW : (1 ≤ b.W ∧ b.W ≤ 1000000) ∧ 1 ≤ b.H ∧ b.H ≤ 1000000)
    (ha : RegAt w (.agg #[.slice b.A b.n b.c]) a) (he : EdgeIn (a ++ [⟨0, 0, b.W, b.H⟩]) Ys Xs) (hYX : Ys.length * Xs.length ≤ 100000) :
    Calls Tryz.prog 77 #[pv, .int .u32 id] w fun e w' => EndJ w (fun a b => a && b) a [⟨0, 0, b.W, b.H⟩] Ys Xs e w' := by
  obtain ⟨mb, rfl, hm⟩ := hp
  obtain ⟨X, Y, W, H, M, G, B, S, A, sn, c⟩ := b
  dsimp only at hS hW ha he ⊢
  subst hS
  have HM := Lib.hid hm
  have HWF := Lib.hid (u32_wf hid)
  have HE := Lib.hid he
  have HCN := Lib.hid (show (⟨0, 0, W, H⟩ : RC).cnt = true from (cnt_iff _).2 (by dsimp only; omega))
  have HG := Lib.hid (show (bs.f id).getD zBX.v = .agg #[.int .i64 X, .int .i64 Y, .int .i64 W, .int .i64 H, .bool M, .int .i64 G, .int .i64 B, .bool true, .slice A sn c] from (bxv_getD (bs id)).trans (by rw [hb]; rfl))
  have HS := Lib.hid (show (bs.f id).isSome = true by simp [Bxs.f, hb])
  have HBE := Lib.hid (bal (bal (bal (bal (bre w) (.cells #[.map mb] 40)) (.cells #[.slice none 0 0] 57)) (.cells #[.int .i64 X, .int .i64 Y, .int .i64 W, .int .i64 H, .bool M, .int .i64 G, .int .i64 B, .bool true, .slice A sn c] 133)) (.cells #[.int .i64 0, .int .i64 0, .int .i64 W, .int .i64 H] 103))
  have H4 := Lib.hid (((blk_new2 w (.cells #[.map mb] 40) 57 #[.slice none 0 0]).alloc (.cells #[.int .i64 X, .int .i64 Y, .int .i64 W, .int .i64 H, .bool M, .int .i64 G, .int .i64 B, .bool true, .slice A sn c] 133)).alloc (.cells #[.int .i64 0, .int .i64 0, .int .i64 W, .int .i64 H] 103))
  have HA := Lib.hid (ha.below HBE.out)
  clear hm hb ha he
  go_enter Tryz.func77, Tryz.ntmps77
  go_wp2_with (at_lookup; refine opt_look_ok rfl _ _ 38 rfl 48 133 .u32 Tryz.underlying48 Tryz.underlying38 zBX.v (Tryz.zeroBox _) mb n bs.f rfl (HM.out.below (by repeat (first | exact bre _ | refine bal ?_ _))) id rfl HWF.out ?_; rw [HG.out, HS.out])
  obtain ⟨X4, hX4⟩ : ∃ X4, (((w.alloc (.cells #[.map mb] 40)).alloc (.cells #[.slice none 0 0] 57)).alloc (.cells #[.int .i64 X, .int .i64 Y, .int .i64 W, .int .i64 H, .bool M, .int .i64 G, .int .i64 B, .bool true, .slice A sn c] 133)).alloc (.cells #[.int .i64 0, .int .i64 0, .int .i64 W, .int .i64 H] 103) = X4 := ⟨_, rfl⟩
  have hbe := HBE.out
  have h4 := H4.out
  have hA := HA.out
  rw [hX4] at hbe h4 hA ⊢
  replace HBE := Lib.hid hbe
  replace H4 := Lib.hid h4
  replace HA := Lib.hid hA
  clear hbe h4 hA hX4
  refine (within_any _ a 0 0 W H Ys Xs _ HA.out HCN.out HE.out hYX).mono ?_
  rintro e w5 ⟨v, out, rfl, hro, hin, hed, hb5⟩
  have b5 := H4.out.belowS hb5
  have HB5 := Lib.hid (bstep HBE.out hb5)
  have HRO := Lib.hid hro
  have HIN := Lib.hid hin
  have HED := Lib.hid hed
  obtain ⟨Ao, co, rfl, _⟩ := hro
  have q0 := b5.cellV (i := 0) (v := .slice none 0 0) rfl
  have f0 := b5.frozen 0
  have l5 := b5.lt
  have K5 := Lib.hid b5
  clear hb5 b5 hin hed
  go_wp2_with fail
  have hb9 := K5.out.set_ 0 (.slice Ao out.length co)
  have r0 := hb9.cellV (i := 0) (v := .slice Ao out.length co) rfl
  exact bodyPost_ret (v := .agg #[.slice Ao out.length co]) (by simp [results, Tryz.results77, go_sem, r0]) rfl ⟨_, out, rfl, HRO.out.farS K5.out _, HIN.out, HED.out, bset (p := ⟨w.heap.size + 1, 0, none⟩) HB5.out (by show w.heap.size ≤ w.heap.size + 1; omega) _⟩

end Go.Proofs.YtdaedkolpfkdjaaGreat
end
