/-
  The walks of a box's rect, and of a place's Area where the window isn't shaped.
  The walk of a tree's Parent.
-/
import Derived.Test.YtbfefkhejknmoaaGreatDoorCh32
import Derived.Test.YtbfefkhejknmoaaGreatDoorCh39
import Derived.Test.YtbfefkhejknmoaaGreatDoorCh10
namespace Go.Proofs.YtbfefkhejknmoaaGreatDoor
open Go.RowKit Go.Maps Go.Shelf


theorem rdR_farSlice {W : World} {A B : Option Addr} {n m c g : Nat} {t : TypeId} {rs : List RC} (h : RdR W A n rs) (hB : Blk W g t #[.slice B m c]) (u : Value) : RdR (W.setCell ⟨g, 0, none⟩ u) A n rs :=
  ⟨h.1, fun hn => by
    obtain ⟨b, off, e, hb, hc⟩ := h.2 hn
    have hne : b ≠ g := fun e' => by
      subst e'
      obtain ⟨r, hr'⟩ : ∃ r, rs[0]? = some r := ⟨_, List.getElem?_eq_getElem (by rw [h.1]; exact hn)⟩
      obtain ⟨c0, _⟩ := hc 0 r hr'
      rw [hB.cell] at c0
      cases hoff : off + 0 * 4 with
      | zero => rw [hoff] at c0; simp at c0
      | succ k => rw [hoff] at c0; simp at c0
    have hk : ∀ o v, W.cell? ⟨b, o, none⟩ = some v → (W.setCell ⟨g, 0, none⟩ u).cell? ⟨b, o, none⟩ = some v := fun o v hv => (World.cell?_setCell_other W ⟨g, 0, none⟩ ⟨b, o, none⟩ u (fun e' => by cases e'; exact hne rfl)).trans hv
    exact ⟨b, off, e, by simpa [World.setCell] using hb, fun i r hi => by
      obtain ⟨c0, c1, c2, c3⟩ := hc i r hi
      exact ⟨hk _ _ c0, hk _ _ c1, hk _ _ c2, hk _ _ c3⟩⟩⟩

/-- four cells of a new block. -/
theorem rd_new4 (w : World) (a b c d : Int) (t : TypeId) : RdR (w.alloc (.cells #[.int .i64 a, .int .i64 b, .int .i64 c, .int .i64 d] t)) (some ⟨w.heap.size, 0, none⟩) 1 [⟨a, b, c, d⟩] := by
  have hb := Blk.new w t #[.int .i64 a, .int .i64 b, .int .i64 c, .int .i64 d]
  refine ⟨rfl, fun _ => ⟨w.heap.size, 0, rfl, hb.lt, fun k r hk => ?_⟩⟩
  cases k with
  | zero =>
    simp only [List.getElem?_cons_zero, Option.some.injEq] at hk
    subst hk
    exact ⟨hb.cellV (i := 0) rfl, hb.cellV (i := 1) rfl, hb.cellV (i := 2) rfl, hb.cellV (i := 3) rfl⟩
  | succ k => simp at hk

set_option maxRecDepth 100000 in
set_option maxHeartbeats 4000000 in
theorem area_none (pv : Value) (n : Nat) (bs : Bxs) (id : Int) (w : World) (hid : 0 ≤ id ∧ id ≤ 4294967295) (hp : PlaceIs w pv n bs) (hb : bs id = none) :
    Calls Tryz.prog 19 #[pv, .int .u32 id] w fun e w' => e = .returned (.agg #[.slice none 0 0]) ∧ Below w.heap.size w w' := by
  obtain ⟨mb, rfl, hm⟩ := hp
  have HM := Lib.hid hm
  have HWF := Lib.hid (u32_wf hid)
  have HG := Lib.hid (show (bs.f id).getD zBX.v = zBX.v from (bxv_getD (bs id)).trans (by rw [hb]; rfl))
  have HS := Lib.hid (show (bs.f id).isSome = false by simp [Bxs.f, hb])
  clear hm hb
  go_enter Tryz.func19, Tryz.ntmps19
  go_wp2_with (at_lookup; refine opt_look_ok rfl _ _ 36 rfl 27 46 .u32 Tryz.underlying27 Tryz.underlying36 zBX.v (Tryz.zeroBox _) mb n bs.f rfl (HM.out.below (by repeat (first | exact bre _ | refine bal ?_ _))) id rfl HWF.out ?_; rw [HG.out, HS.out]; unfold BX.v zBX; dsimp only)
  exact bodyPost_ret (v := .agg #[.slice none 0 0]) (by simp [results, Tryz.results19, go_sem]) rfl ⟨rfl, (by repeat (first | exact bre _ | refine bal ?_ _ | refine bset ?_ (by simp) _ | refine bset ?_ (by simp; omega) _))⟩

set_option maxRecDepth 100000 in
set_option maxHeartbeats 4000000 in
theorem area_plain (pv : Value) (n : Nat) (bs : Bxs) (id : Int) (b : BX) (w : World) (hid : 0 ≤ id ∧ id ≤ 4294967295) (hp : PlaceIs w pv n bs) (hb : bs id = some b) (hS : b.S = false) (hW : b.W ≤ 1000000 ∧ b.H ≤ 1000000) :
    Calls Tryz.prog 19 #[pv, .int .u32 id] w fun e w' => ∃ (out : List RC) (A' : Option Addr) (c' : Nat), e = .returned (.agg #[.slice A' out.length c']) ∧ RdR w' A' out.length out ∧ Canon out ∧ (∀ x y, InR out x y ↔ (0 ≤ x ∧ x < b.W) ∧ 0 ≤ y ∧ y < b.H) ∧ out.length ≤ 1000000000000 ∧ Below w.heap.size w w' := by
  obtain ⟨mb, rfl, hm⟩ := hp
  obtain ⟨X, Y, W, H, M, G, B, S, A, sn, c⟩ := b
  dsimp only at hS hW ⊢
  subst hS
  have HM := Lib.hid hm
  have HWF := Lib.hid (u32_wf hid)
  have HG := Lib.hid (show (bs.f id).getD zBX.v = .agg #[.int .i64 X, .int .i64 Y, .int .i64 W, .int .i64 H, .bool M, .int .i64 G, .int .i64 B, .bool false, .slice A sn c] from (bxv_getD (bs id)).trans (by rw [hb]; rfl))
  have HS := Lib.hid (show (bs.f id).isSome = true by simp [Bxs.f, hb])
  have HBE := Lib.hid (bal (bal (bal (bal (bre w) (.cells #[.map mb] 38)) (.cells #[.slice none 0 0] 44)) (.cells #[.int .i64 X, .int .i64 Y, .int .i64 W, .int .i64 H, .bool M, .int .i64 G, .int .i64 B, .bool false, .slice A sn c] 46)) (.cells #[.int .i64 0, .int .i64 0, .int .i64 W, .int .i64 H] 29))
  have H4 := Lib.hid (((blk_new2 w (.cells #[.map mb] 38) 44 #[.slice none 0 0]).alloc (.cells #[.int .i64 X, .int .i64 Y, .int .i64 W, .int .i64 H, .bool M, .int .i64 G, .int .i64 B, .bool false, .slice A sn c] 46)).alloc (.cells #[.int .i64 0, .int .i64 0, .int .i64 W, .int .i64 H] 29))
  clear hm hb
  go_enter Tryz.func19, Tryz.ntmps19
  go_wp2_with (at_lookup; refine opt_look_ok rfl _ _ 36 rfl 27 46 .u32 Tryz.underlying27 Tryz.underlying36 zBX.v (Tryz.zeroBox _) mb n bs.f rfl (HM.out.below (by repeat (first | exact bre _ | refine bal ?_ _))) id rfl HWF.out ?_; rw [HG.out, HS.out])
  obtain ⟨X4, hX4⟩ : ∃ X4, ((((w.alloc (.cells #[.map mb] 38)).alloc (.cells #[.slice none 0 0] 44)).alloc (.cells #[.int .i64 X, .int .i64 Y, .int .i64 W, .int .i64 H, .bool M, .int .i64 G, .int .i64 B, .bool false, .slice A sn c] 46)).alloc (.cells #[.int .i64 0, .int .i64 0, .int .i64 W, .int .i64 H] 29)) = X4 := ⟨_, rfl⟩
  have hs4 : X4.heap.size = w.heap.size + 1 + 1 + 1 + 1 := by rw [← hX4]; simp
  have hbe := HBE.out
  have h4 := H4.out
  rw [hX4] at hbe h4 ⊢
  rw [← hs4]
  have HX := Lib.hid hbe
  have H4 := Lib.hid h4
  have HS4 := Lib.hid hs4
  clear hbe h4 hX4 hs4 HBE
  refine (of_any _ 1 1 [⟨0, 0, W, H⟩] _ (by omega) (rd_new4 X4 0 0 W H _) (by simp)).mono ?_
  rintro e w5 ⟨out, A', c', rfl, hr5, hc5, hi5, hl5, hb5⟩
  have b5 := (H4.out.alloc (.cells #[.int .i64 0, .int .i64 0, .int .i64 W, .int .i64 H] 29)).belowS hb5
  have q0 := b5.cellV (i := 0) (v := .slice none 0 0) rfl
  have f0 := b5.frozen 0
  have l5 := b5.lt
  have K5 := Lib.hid b5
  have HR := Lib.hid hr5
  have HI := Lib.hid hi5
  have HC := Lib.hid hc5
  have HB := Lib.hid (bstep (bal HX.out (.cells #[.int .i64 0, .int .i64 0, .int .i64 W, .int .i64 H] 29)) hb5)
  have HL := Lib.hid hl5
  clear hr5 hi5 hc5 hb5 b5 hl5
  go_wp2_with fail
  have hb9 := K5.out.set_ 0 (.slice A' out.length c')
  have r0 := hb9.cellV (i := 0) (v := .slice A' out.length c') rfl
  refine bodyPost_ret (v := .agg #[.slice A' out.length c']) (by simp [results, Tryz.results19, go_sem, r0]) rfl ⟨out, A', c', rfl, rdR_farSlice HR.out K5.out _, HC.out, fun x y => ?_, HL.out, bset (p := ⟨w.heap.size + 1, 0, none⟩) HB.out (by show w.heap.size ≤ w.heap.size + 1; omega) _⟩
  rw [HI.out]
  unfold InR
  simp only [List.mem_filter, List.mem_singleton]
  constructor
  · rintro ⟨r, ⟨rfl, _⟩, h1, h2, h3, h4⟩
    dsimp only at h1 h2 h3 h4
    omega
  · rintro ⟨⟨h1, h2⟩, h3, h4⟩
    exact ⟨⟨0, 0, W, H⟩, ⟨rfl, (cnt_iff _).2 ⟨by dsimp only; omega, by dsimp only; omega⟩⟩, by dsimp only; omega, by dsimp only; omega, by dsimp only; omega, by dsimp only; omega⟩

end Go.Proofs.YtbfefkhejknmoaaGreatDoor

namespace Go.Proofs.YtbfefkhejknmoaaGreatDoor
open Go.RowKit Go.Maps Go.Shelf

set_option maxRecDepth 100000 in
set_option maxHeartbeats 1000000 in
theorem parent_any (v : Value) (ns : Nodes) (mk mu : Option Nat) (nk : Nat) (fk : Int → Option Value) (id : Int) (w : World) (hid : 0 ≤ id ∧ id ≤ 4294967295) (h : TreeIs w v ns mk mu nk fk) :
    Calls Tryz.prog 52 #[v, .int .u32 id] w fun e w' => e = .returned (.tuple #[.int .u32 ((upOf ns id).getD 0), .bool (upOf ns id).isSome]) ∧ Below w.heap.size w w' := by
  have HU := Lib.hid h.up
  have HWF := Lib.hid (u32_wf hid)
  have hv := h.shape
  subst hv
  clear h
  obtain ⟨x, hx⟩ : ∃ x, (upOf ns id).getD 0 = x := ⟨_, rfl⟩
  obtain ⟨s, hs⟩ : ∃ s, (upOf ns id).isSome = s := ⟨_, rfl⟩
  have HG := Lib.hid (show ((upOf ns id).map (Value.int .u32)).getD (.int .u32 0) = .int .u32 x by rw [upv_getD, hx])
  have HS := Lib.hid (show ((upOf ns id).map (Value.int .u32)).isSome = s by simp [hs])
  rw [hs, hx]
  clear hx hs
  go_enter Tryz.func52, Tryz.ntmps52
  go_wp2_with (at_lookup; refine opt_look_ok rfl _ _ 33 rfl 27 27 .u32 Tryz.underlying27 Tryz.underlying33 (.int .u32 0) (Tryz.zeroID _) mu ns.length (fun i => (upOf ns i).map (Value.int .u32)) rfl (HU.out.below (by repeat (first | exact bre _ | refine bal ?_ _ | refine bset ?_ (by simp) _ | refine bset ?_ (by simp; omega) _))) id rfl HWF.out ?_; dsimp only; rw [HG.out, HS.out])
  exact bodyPost_ret (v := .tuple #[.int .u32 x, .bool s]) (by simp [results, Tryz.results52, go_sem]) rfl ⟨rfl, (by repeat (first | exact bre _ | refine bal ?_ _ | refine bset ?_ (by simp) _ | refine bset ?_ (by simp; omega) _))⟩

end Go.Proofs.YtbfefkhejknmoaaGreatDoor
