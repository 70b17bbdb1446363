/-
  The walks of a place's Set: what is wrong.
-/
import Derived.Test.YtbfefkhejknmoaaGreatDoorCh5
namespace Go.Proofs.YtbfefkhejknmoaaGreatDoor
open Go.RowKit Go.Maps Go.Shelf

/-- what is wrong with a box that is set. -/
def SetErr (id : Int) (b : BX) (n : Nat) (has : Bool) (code : Int) : Prop :=
  (id = 1 ∧ code = 23) ∨ (id ≠ 1 ∧ ((idC id ≠ 0 ∧ code = idC id) ∨ (idC id = 0 ∧ ((coordB b.X = false ∧ code = 1) ∨ (coordB b.X = true ∧ ((coordB b.Y = false ∧ code = 1) ∨ (coordB b.Y = true ∧ ((sideB b.W = false ∧ code = 17) ∨ (sideB b.W = true ∧ ((sideB b.H = false ∧ code = 17) ∨ (sideB b.H = true ∧ ((gravC b.G = 10 ∧ code = 10) ∨ (gravC b.G = 0 ∧ ((gravC b.B = 10 ∧ code = 10) ∨ (gravC b.B = 0 ∧ ((b.S = false ∧ decide (b.n = 0) = false ∧ code = 14) ∨ ((b.S = true ∨ (b.S = false ∧ decide (b.n = 0) = true)) ∧ ((has = false ∧ decide ((64 : Int) ≤ (n : Int)) = true ∧ code = 5) ∨ (has = false ∧ decide ((64 : Int) ≤ (n : Int)) = false ∧ ((n : Int) == 0) = true ∧ code = 9)))))))))))))))))))

set_option maxRecDepth 100000 in
set_option maxHeartbeats 4000000 in
theorem pset_err (pv : Value) (n : Nat) (bs : Bxs) (id : Int) (b : BX) (code : Int) (w : World) (hid : 0 ≤ id ∧ id ≤ 4294967295) (hn : n ≤ 1000) (hp : PlaceIs w pv n bs) (ht : SetErr id b n (bs id).isSome code) :
    Calls Tryz.prog 15 #[pv, .int .u32 id, b.v] w fun e w' => e = .returned (.tuple #[pv, .int .i64 code]) ∧ Below w.heap.size w w' := by
  obtain ⟨mb, rfl, hm⟩ := hp
  have HM := Lib.hid hm
  have HWF := Lib.hid (u32_wf hid)
  obtain ⟨b0, hb0⟩ : ∃ b0, (bs id).getD zBX = b0 := ⟨_, rfl⟩
  have HG := Lib.hid (show (bs.f id).getD zBX.v = b0.v from (bxv_getD (bs id)).trans (by rw [hb0]))
  obtain ⟨hs, hhs⟩ : ∃ hs, (bs id).isSome = hs := ⟨_, rfl⟩
  have HS := Lib.hid (show (bs.f id).isSome = hs by rw [← hhs]; simp [Bxs.f])
  rw [hhs] at ht
  obtain ⟨X, Y, W, H, M, G, B, S, A, sn, c⟩ := b
  unfold SetErr at ht
  dsimp only at ht
  unfold BX.v
  dsimp only
  clear hm hb0 hhs
  rcases ht with ⟨h1, rfl⟩ | ⟨h1, ⟨h2, rfl⟩ | ⟨h2, ht⟩⟩
  · have d1 : (id == 1) = true := by simp [h1]
    clear h1
    go_enter Tryz.func15, Tryz.ntmps15
    go_wp2_with fail
    exact bodyPost_ret (v := .tuple #[.agg #[.map mb], .int .i64 23]) (by simp [results, Tryz.results15, go_sem]) rfl ⟨rfl, (by repeat (first | exact bre _ | refine bal ?_ _ | refine bset ?_ (by simp) _ | refine bset ?_ (by simp; omega) _))⟩
  · have d1 : (id == 1) = false := by simp [h1]
    obtain ⟨cd, hcd⟩ : ∃ cd, idC id = cd := ⟨_, rfl⟩
    rw [hcd] at h2 ⊢
    have d2 : (cd != 0) = true := by simp [h2]
    have HCK := Lib.hid hcd
    clear h1 hcd h2
    go_enter Tryz.func15, Tryz.ntmps15
    go_wp2_with (go_at_call 35; refine (check_any _ _ hid).mono ?_; rintro e w' ⟨rfl, rfl⟩; rw [HCK.out])
    exact bodyPost_ret (v := .tuple #[.agg #[.map mb], .int .i64 cd]) (by simp [results, Tryz.results15, go_sem]) rfl ⟨rfl, (by repeat (first | exact bre _ | refine bal ?_ _ | refine bset ?_ (by simp) _ | refine bset ?_ (by simp; omega) _))⟩
  · have d1 : (id == 1) = false := by simp [h1]
    have HCK := Lib.hid h2
    clear h1 h2
    have HBP := Lib.hid ((((Blk.new w 38 #[.map mb]).alloc (.cells #[.int .i64 X, .int .i64 Y, .int .i64 W, .int .i64 H, .bool M, .int .i64 G, .int .i64 B, .bool S, .slice A sn c] 46)).alloc (.cells #[.map none] 38)).alloc (.cells #[.int .i64 b0.X, .int .i64 b0.Y, .int .i64 b0.W, .int .i64 b0.H, .bool b0.M, .int .i64 b0.G, .int .i64 b0.B, .bool b0.S, .slice b0.A b0.n b0.c] 46))
    have HBR := Lib.hid ((blk_new3 w (.cells #[.map mb] 38) (.cells #[.int .i64 X, .int .i64 Y, .int .i64 W, .int .i64 H, .bool M, .int .i64 G, .int .i64 B, .bool S, .slice A sn c] 46) 38 #[.map none]).alloc (.cells #[.int .i64 b0.X, .int .i64 b0.Y, .int .i64 b0.W, .int .i64 b0.H, .bool b0.M, .int .i64 b0.G, .int .i64 b0.B, .bool b0.S, .slice b0.A b0.n b0.c] 46))
    rcases ht with ⟨hx, rfl⟩ | ⟨hx, ⟨hy, rfl⟩ | ⟨hy, ⟨hw', rfl⟩ | ⟨hw', ⟨hh, rfl⟩ | ⟨hh, ⟨hg, rfl⟩ | ⟨hg, ⟨hb, rfl⟩ | ⟨hb, ⟨rfl, he, rfl⟩ | ⟨rfl | ⟨rfl, he⟩, ⟨rfl, hn64, rfl⟩ | ⟨rfl, hn64, hn0, rfl⟩⟩⟩⟩⟩⟩⟩⟩
    all_goals
      (try have HX9 := Lib.hid hx)
      (try have HY9 := Lib.hid hy)
      (try have HW9 := Lib.hid hw')
      (try have HH9 := Lib.hid hh)
      (try have HG9 := Lib.hid hg)
      (try have HB9 := Lib.hid hb)
      (try have HE9 := Lib.hid he)
      (try clear hx)
      (try clear hy)
      (try clear hw')
      (try clear hh)
      (try clear hg)
      (try clear hb)
      (try clear he)
      go_enter Tryz.func15, Tryz.ntmps15
      go_wp2_with (first
            | (go_at_call 35; refine (check_any _ _ hid).mono ?_; rintro e w' ⟨rfl, rfl⟩; rw [HCK.out])
            | (at_lookup; refine opt_look_ok rfl _ _ 36 rfl 27 46 .u32 Tryz.underlying27 Tryz.underlying36 zBX.v (Tryz.zeroBox _) mb n bs.f rfl (HM.out.below (by repeat (first | exact bre _ | refine bal ?_ _ | refine bset ?_ (by simp) _ | refine bset ?_ (by simp; omega) _))) id rfl HWF.out ?_; rw [HG.out, HS.out]; unfold BX.v)
            | (go_at_call 37; refine (coord_any _ _).mono ?_; rintro e w' ⟨rfl, rfl⟩; first | rw [HX9.out] | rw [HY9.out])
            | (go_at_call 38; refine (side_any _ _).mono ?_; rintro e w' ⟨rfl, rfl⟩; first | rw [HW9.out] | rw [HH9.out])
            | (go_at_call 43; refine (gcheck_any _ _).mono ?_; rintro e w' ⟨rfl, rfl⟩; first | rw [HG9.out] | rw [HB9.out])
            | (go_at_call 20; refine (empty_any A sn c _).mono ?_; rintro e w13 ⟨rfl, hb13⟩; rw [HE9.out]; have bP := HBP.out.belowS hb13; have bR := HBR.out.belowS hb13; have p0 := bP.cellV (i := 0) (v := .map mb) rfl; have r0 := bR.cellV (i := 0) (v := .map none) rfl; have rf := bR.frozen 0; have rl := bR.lt; have HBE := Lib.hid (bstep (bal (bal (bal (bal (bre w) _) _) _) _) hb13); have HR13 := Lib.hid bR; clear hb13 bP bR)
            | (at_len; refine opt_len rfl _ 36 rfl 27 46 .u32 Tryz.underlying36 mb n bs.f rfl (HM.out.below (by repeat (first | exact HBE.out | exact bre _ | refine bal ?_ _ | refine bset ?_ (by simp) _ | refine bset ?_ (by simp; omega) _))) ?_)
            | (at_len; refine opt_len_if _ 36 rfl 27 46 .u32 Tryz.underlying36 mb n bs.f rfl (HM.out.below (by repeat (first | exact HBE.out | exact bre _ | refine bal ?_ _ | refine bset ?_ (by simp) _ | refine bset ?_ (by simp; omega) _))) (by go_simp) ?_))
      first
        | exact bodyPost_ret (v := .tuple #[.agg #[.map mb], .int .i64 1]) (by simp [results, Tryz.results15, go_sem]) rfl ⟨rfl, (by repeat (first | exact bre _ | refine bal ?_ _ | refine bset ?_ (by simp) _ | refine bset ?_ (by simp; omega) _))⟩
        | exact bodyPost_ret (v := .tuple #[.agg #[.map mb], .int .i64 17]) (by simp [results, Tryz.results15, go_sem]) rfl ⟨rfl, (by repeat (first | exact bre _ | refine bal ?_ _ | refine bset ?_ (by simp) _ | refine bset ?_ (by simp; omega) _))⟩
        | exact bodyPost_ret (v := .tuple #[.agg #[.map mb], .int .i64 10]) (by simp [results, Tryz.results15, go_sem]) rfl ⟨rfl, (by repeat (first | exact bre _ | refine bal ?_ _ | refine bset ?_ (by simp) _ | refine bset ?_ (by simp; omega) _))⟩
        | exact bodyPost_ret (v := .tuple #[.agg #[.map mb], .int .i64 14]) (by simp [results, Tryz.results15, go_sem, (HR13.out.set_ 0 (.map mb)).cellV (i := 0) (v := .map mb) rfl]) rfl ⟨rfl, bset HBE.out (by show w.heap.size ≤ w.heap.size + 1 + 1; omega) _⟩
        | exact bodyPost_ret (v := .tuple #[.agg #[.map mb], .int .i64 5]) (by simp [results, Tryz.results15, go_sem, (HR13.out.set_ 0 (.map mb)).cellV (i := 0) (v := .map mb) rfl]) rfl ⟨rfl, bset HBE.out (by show w.heap.size ≤ w.heap.size + 1 + 1; omega) _⟩
        | exact bodyPost_ret (v := .tuple #[.agg #[.map mb], .int .i64 9]) (by simp [results, Tryz.results15, go_sem, (HR13.out.set_ 0 (.map mb)).cellV (i := 0) (v := .map mb) rfl]) rfl ⟨rfl, bset HBE.out (by show w.heap.size ≤ w.heap.size + 1 + 1; omega) _⟩
        | exact bodyPost_ret (v := .tuple #[.agg #[.map mb], .int .i64 5]) (by simp [results, Tryz.results15, go_sem]) rfl ⟨rfl, (by repeat (first | exact bre _ | refine bal ?_ _ | refine bset ?_ (by simp) _ | refine bset ?_ (by simp; omega) _))⟩
        | exact bodyPost_ret (v := .tuple #[.agg #[.map mb], .int .i64 9]) (by simp [results, Tryz.results15, go_sem]) rfl ⟨rfl, (by repeat (first | exact bre _ | refine bal ?_ _ | refine bset ?_ (by simp) _ | refine bset ?_ (by simp; omega) _))⟩

end Go.Proofs.YtbfefkhejknmoaaGreatDoor
