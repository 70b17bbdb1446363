/-
  The walks of place.New, Set, Box.
-/
import Derived.Test.YtbfefkhejknmoaaGreatDoorPlaceA
import Derived.Test.YtbfefkhejknmoaaGreatDoorBandArea
import Derived.Carry
namespace Go.Proofs.YtbfefkhejknmoaaGreatDoor
open Go.RowKit Go.Maps

/-- a window's box, its shape as it lies. -/
structure BX where
  X : Int
  Y : Int
  W : Int
  H : Int
  M : Bool
  G : Int
  B : Int
  S : Bool
  A : Option Addr
  n : Nat
  c : Nat
def BX.v (b : BX) : Value := .agg #[.int .i64 b.X, .int .i64 b.Y, .int .i64 b.W, .int .i64 b.H, .bool b.M, .int .i64 b.G, .int .i64 b.B, .bool b.S, .slice b.A b.n b.c]
def zBX : BX := ⟨0, 0, 0, 0, false, 0, 0, false, none, 0, 0⟩
theorem bxv_getD (o : Option BX) : (o.map BX.v).getD zBX.v = (o.getD zBX).v := by cases o <;> rfl
/-- boxes of windows. -/
abbrev Bxs := Int → Option BX
def Bxs.f (bs : Bxs) : Int → Option Value := fun i => (bs i).map BX.v
/-- a place: its boxes. -/
def PlaceIs (w : World) (v : Value) (n : Nat) (bs : Bxs) : Prop := ∃ mb, v = .agg #[.map mb] ∧ MapOpt Tryz.prog 27 .u32 w mb n bs.f
theorem PlaceIs.below {w w' : World} {v : Value} {n : Nat} {bs : Bxs} (h : PlaceIs w v n bs) (hb : Below w.heap.size w w') : PlaceIs w' v n bs := by
  obtain ⟨mb, e, h⟩ := h
  exact ⟨mb, e, h.below hb⟩
theorem Tryz.zeroBox (w : World) : (zeroValue 46).run Tryz.prog w = .ok zBX.v w := by kernel_rfl
theorem u32_wf {i : Int} (h : 0 ≤ i ∧ i ≤ 4294967295) : (Lit.int .u32 i).wf = true := by
  simp [Lit.wf, IntKind.min, IntKind.max, IntKind.signed, IntKind.bits]
  omega

/-- the root's box. -/
def rootBX (W H : Int) : BX := ⟨0, 0, W, H, true, 1, 1, false, none, 0, 0⟩
set_option maxRecDepth 100000 in
set_option maxHeartbeats 1000000 in
theorem pnew_any (W H : Int) (w : World) (h1 : sideB W = true) (h2 : sideB H = true) :
    Calls Tryz.prog 14 #[.int .i64 W, .int .i64 H] w fun e w' => ∃ pv, e = .returned (.tuple #[pv, .int .i64 0]) ∧ PlaceIs w' pv 1 (fun i => if i = 1 then some (rootBX W H) else none) ∧ Below w.heap.size w w' := by
  have H1 := Lib.hid h1
  have H2 := Lib.hid h2
  clear h1 h2
  have hmm := @run_makeMap Tryz.prog
  have hmade : MapIs Tryz.prog 27 .u32 (((w.alloc (.cells #[.map none] 38)).alloc (.cells #[.int .i64 0, .int .i64 0, .int .i64 W, .int .i64 H, .bool true, .int .i64 1, .int .i64 1, .bool false, .slice none 0 0] 46)).alloc (.map #[] 0)) (w.heap.size + 1 + 1) 0 (fun _ => none) := by
    have := MapIs.made (P := Tryz.prog) (k := 27) (q := .u32) ((w.alloc (.cells #[.map none] 38)).alloc (.cells #[.int .i64 0, .int .i64 0, .int .i64 W, .int .i64 H, .bool true, .int .i64 1, .int .i64 1, .bool false, .slice none 0 0] 46))
    rwa [World.size_alloc, World.size_alloc] at this
  obtain ⟨w4, hrun, hm4, hg4⟩ := hmade.run_put Tryz.underlying27 Tryz.underlying36 (by simp only [maxLen]; omega) 1 (.agg #[.int .i64 0, .int .i64 0, .int .i64 W, .int .i64 H, .bool true, .int .i64 1, .int .i64 1, .bool false, .slice none 0 0]) (by decide)
  have bres := (((Blk.new w 38 #[.map none]).alloc (.cells #[.int .i64 0, .int .i64 0, .int .i64 W, .int .i64 H, .bool true, .int .i64 1, .int .i64 1, .bool false, .slice none 0 0] 46)).alloc (.map #[] 0)).grown hg4 (by intro e; injection e with e; omega)
  have r0 := bres.cellV (i := 0) (v := .map none) rfl
  have rf := bres.frozen 0
  have HBR := Lib.hid bres
  have rl : w.heap.size < w4.heap.size := Nat.lt_of_lt_of_le (by simp; omega) hg4.size
  have hB4 : Below w.heap.size w w4 := (bal (bal (bal (bre w) _) _) _).grown hg4 (by simp; omega) (fun q e => by cases e; omega)
  have HM4 := Lib.hid hm4
  have HB4 := Lib.hid hB4
  clear hmade hm4 hg4 hB4 bres
  go_enter Tryz.func14, Tryz.ntmps14
  go_wp2_with (first
    | (go_at_call 38; refine (side_any W _).mono ?_; rintro e w' ⟨rfl, rfl⟩; rw [H1.out])
    | (go_at_call 38; refine (side_any H _).mono ?_; rintro e w' ⟨rfl, rfl⟩; rw [H2.out]))
  have hr := (HBR.out.set_ 0 (.map (some (w.heap.size + 1 + 1)))).cellV (i := 0) (v := .map (some (w.heap.size + 1 + 1))) rfl
  have ef : (fun j : Int => if j = 1 then some (Value.agg #[.int .i64 0, .int .i64 0, .int .i64 W, .int .i64 H, .bool true, .int .i64 1, .int .i64 1, .bool false, .slice none 0 0]) else none) = Bxs.f (fun i => if i = 1 then some (rootBX W H) else none) := by
    funext j
    by_cases hj : j = 1 <;> simp [Bxs.f, hj, rootBX, BX.v]
  have hm5 := (HM4.out.setCell (a := ⟨w.heap.size, 0, none⟩) (by simp; omega) (.map (some (w.heap.size + 1 + 1))))
  rw [ef] at hm5
  exact bodyPost_ret (v := .tuple #[.agg #[.map (some (w.heap.size + 1 + 1))], .int .i64 0]) (by simp [results, Tryz.results14, go_sem, hr]) rfl ⟨_, rfl, ⟨_, rfl, .inr ⟨_, rfl, hm5⟩⟩, bset HB4.out (Nat.le_refl _) _⟩
set_option maxRecDepth 100000 in
set_option maxHeartbeats 1000000 in
theorem box_any (pv : Value) (n : Nat) (bs : Bxs) (id : Int) (w : World) (hid : 0 ≤ id ∧ id ≤ 4294967295) (hp : PlaceIs w pv n bs) :
    Calls Tryz.prog 11 #[pv, .int .u32 id] w fun e w' => e = .returned (.tuple #[((bs id).getD zBX).v, .bool (bs id).isSome]) ∧ Below w.heap.size w w' := by
  obtain ⟨mb, rfl, hm⟩ := hp
  have HM := Lib.hid hm
  have HWF := Lib.hid (u32_wf hid)
  clear hm
  go_enter Tryz.func11, Tryz.ntmps11
  obtain ⟨b, hb⟩ : ∃ b, (bs id).getD zBX = b := ⟨_, rfl⟩
  have HG := Lib.hid (show (bs.f id).getD zBX.v = b.v from (bxv_getD (bs id)).trans (by rw [hb]))
  have HS := Lib.hid (show (bs.f id).isSome = (bs id).isSome by simp [Bxs.f])
  rw [hb]
  clear hb
  go_wp2_with (at_lookup; refine opt_look_ok rfl _ _ 36 rfl 27 46 .u32 Tryz.underlying27 Tryz.underlying36 zBX.v (Tryz.zeroBox _) mb n bs.f rfl (HM.out.below (by first | exact bre _ | exact bal (bre _) _ | exact bal (bal (bre _) _) _)) id rfl HWF.out ?_; rw [HG.out, HS.out]; unfold BX.v)
  refine bodyPost_ret (v := .tuple #[b.v, .bool (bs id).isSome]) (by simp [results, Tryz.results11, go_sem, BX.v]) rfl ⟨rfl, ?_⟩
  repeat (first | exact bre _ | refine bal ?_ _ | refine bset ?_ (by simp) _ | refine bset ?_ (by simp; omega) _)

end Go.Proofs.YtbfefkhejknmoaaGreatDoor
