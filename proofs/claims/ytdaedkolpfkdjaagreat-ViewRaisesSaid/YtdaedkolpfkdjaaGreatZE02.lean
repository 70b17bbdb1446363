/-
  The walks of a region's Empty and Area.
  The walks of place.New, Set, Box.
  The walks of a place's twin and Set.
  The walks of a place's Set: what is wrong.
-/
import Derived.Test.YtdaedkolpfkdjaaGreatZE01
import Derived.Carry
import Derived.Test.YtdaedkolpfkdjaaGreatShelfM
section
namespace Go.Proofs.YtdaedkolpfkdjaaGreat
open Go.RowKit

/-- how many places rectangles have, one by one. -/
def areaL (rs : List RC) : Int := rs.foldl (fun s r => s + r.W * r.H) 0
theorem areaL_snoc (rs : List RC) (r : RC) : areaL (rs ++ [r]) = areaL rs + r.W * r.H := by simp [areaL]
theorem areaL_take {rs : List RC} {k : Nat} {r : RC} (h : rs[k]? = some r) : areaL (rs.take (k + 1)) = areaL (rs.take k) + r.W * r.H := by
  rw [List.take_add_one, h]
  exact areaL_snoc _ _
theorem prod_bd {r : RC} (h : r.cnt = true) : 0 ≤ r.W * r.H ∧ r.W * r.H ≤ 4398046511104 := by
  unfold RC.cnt at h
  rw [Bool.and_eq_true, fits_iff, fits_iff] at h
  refine ⟨Int.mul_nonneg (by omega) (by omega), ?_⟩
  have h1 : r.W * r.H ≤ 2097152 * r.H := Int.mul_le_mul_of_nonneg_right (by omega) (by omega)
  omega
theorem areaL_bd {rs : List RC} (h : ∀ r ∈ rs, r.cnt = true) : ∀ k, 0 ≤ areaL (rs.take k) ∧ areaL (rs.take k) ≤ (k : Int) * 4398046511104 := by
  intro k
  induction k with
  | zero => simp [areaL]
  | succ k ih =>
    cases hr : rs[k]? with
    | none =>
      have : rs.take (k + 1) = rs.take k := by rw [List.take_add_one, hr]; simp
      rw [this]
      omega
    | some r =>
      have := prod_bd (h r (List.mem_of_getElem? hr))
      rw [areaL_take hr]
      omega

set_option maxHeartbeats 1000000 in
theorem empty_any (A : Option Addr) (n c : Nat) (w : World) :
    Calls Tryz.prog 45 #[.agg #[.slice A n c]] w fun e w' => e = .returned (.bool (decide (n = 0))) ∧ Below w.heap.size w w' := by
  have t : ((n : Int) == 0) = decide (n = 0) := by
    by_cases h : n = 0
    · subst h; rfl
    · have : ¬ ((n : Int) = 0) := by omega
      simp [h]
  have HT := Lib.hid t
  clear t
  go_enter Tryz.func45, Tryz.ntmps45
  go_wp2_with fail
  go_ret
  exact ⟨ret_bool HT.out, bal (bre w) _⟩

set_option maxRecDepth 100000 in
set_option maxHeartbeats 1000000 in
theorem area_any (A : Option Addr) (n c : Nat) (rs : List RC) (w : World) (hn : n ≤ 1000000) (hr : RdR w A n rs) (hc : ∀ r ∈ rs, r.cnt = true) :
    Calls Tryz.prog 75 #[.agg #[.slice A n c]] w fun e w' => e = .returned (.int .i64 (areaL rs)) ∧ Below w.heap.size w w' := by
  have HR := Lib.hid hr
  have HC := Lib.hid hc
  have HA := Lib.hid (areaL_bd hc)
  have HL := Lib.hid hr.1
  clear hr hc
  go_enter Tryz.func75, Tryz.ntmps75
  go_wp2_with fail
  have HB0 := Lib.hid (bal (bre w) (.cells #[.slice A n c] 57))
  go_loopw [3, 9] (fun s i wr => ∃ k : Nat, i = .int .i64 k ∧ k ≤ n ∧ s = .int .i64 (areaL (rs.take k)) ∧ Below w.heap.size w wr) (fun _ i _ => n - (intOf i).toNat)
  case atStart => exact ⟨0, rfl, by omega, by simp [areaL], HB0.out⟩
  case round =>
    obtain ⟨k, rfl, hk, rfl, hB⟩ := hrel
    have HB := Lib.hid hB
    have ha := HA.out k
    by_cases hlt : k < n
    · obtain ⟨r, hr⟩ : ∃ r, rs[k]? = some r := ⟨_, List.getElem?_eq_getElem (by have := HL.out; omega)⟩
      have hp := prod_bd (HC.out r (List.mem_of_getElem? hr))
      obtain ⟨b, off, rfl, hb, hcl⟩ := (HR.out.below hB).2 (by omega)
      obtain ⟨c0, c1, c2, c3⟩ := hcl k r hr
      have HT := Lib.hid (areaL_take hr)
      obtain ⟨s, hs⟩ : ∃ s, areaL (rs.take k) = s := ⟨_, rfl⟩
      obtain ⟨p, hpp⟩ : ∃ p, r.W * r.H = p := ⟨_, rfl⟩
      have HP := Lib.hid hpp
      rw [hs] at HT ha
      rw [hpp] at HT hp
      rw [hs]
      have k1 : (k : Int) < (n : Int) := by omega
      have k0 : (0 : Int) ≤ (k : Int) := by omega
      have hw : IntKind.i64.wrap (r.W * r.H) = p := by rw [hpp]; exact IntWalk.i64_in _ (by omega)
      clear hB hr hcl hs hpp
      go_wp2_with fail
      go_roundw
      case rel =>
        refine ⟨k + 1, by go_num, by omega, ?_, bal HB.out _⟩
        rw [HT.out]
      case measure => simp [intOf]; omega
    · obtain rfl : k = n := by omega
      go_wp2_with fail
      go_ret
      exact ⟨ret_int (by rw [List.take_of_length_le (by rw [HL.out]; exact Nat.le_refl _)]), HB.out⟩

end Go.Proofs.YtdaedkolpfkdjaaGreat
end

section
namespace Go.Proofs.YtdaedkolpfkdjaaGreat
open Go.RowKit Go.Maps

/-- a window's box, its shape as it lies. -/
structure BX where
  X : Int
  Y : Int
  W : Int
  H : Int
  M : Bool
  G : Int
  B : Int
  S : Bool
  A : Option Addr
  n : Nat
  c : Nat
def BX.v (b : BX) : Value := .agg #[.int .i64 b.X, .int .i64 b.Y, .int .i64 b.W, .int .i64 b.H, .bool b.M, .int .i64 b.G, .int .i64 b.B, .bool b.S, .slice b.A b.n b.c]
def zBX : BX := ⟨0, 0, 0, 0, false, 0, 0, false, none, 0, 0⟩
theorem bxv_getD (o : Option BX) : (o.map BX.v).getD zBX.v = (o.getD zBX).v := by cases o <;> rfl
/-- boxes of windows. -/
abbrev Bxs := Int → Option BX
def Bxs.f (bs : Bxs) : Int → Option Value := fun i => (bs i).map BX.v
/-- a place: its boxes. -/
def PlaceIs (w : World) (v : Value) (n : Nat) (bs : Bxs) : Prop := ∃ mb, v = .agg #[.map mb] ∧ MapOpt Tryz.prog 48 .u32 w mb n bs.f
theorem PlaceIs.below {w w' : World} {v : Value} {n : Nat} {bs : Bxs} (h : PlaceIs w v n bs) (hb : Below w.heap.size w w') : PlaceIs w' v n bs := by
  obtain ⟨mb, e, h⟩ := h
  exact ⟨mb, e, h.below hb⟩
theorem Tryz.zeroBox (w : World) : (zeroValue 133).run Tryz.prog w = .ok zBX.v w := by kernel_rfl
theorem u32_wf {i : Int} (h : 0 ≤ i ∧ i ≤ 4294967295) : (Lit.int .u32 i).wf = true := by
  simp [Lit.wf, IntKind.min, IntKind.max, IntKind.signed, IntKind.bits]
  omega

/-- the root's box. -/
def rootBX (W H : Int) : BX := ⟨0, 0, W, H, true, 1, 1, false, none, 0, 0⟩
set_option maxRecDepth 100000 in
set_option maxHeartbeats 1000000 in
theorem pnew_any (W H : Int) (w : World) (h1 : sideB W = true) (h2 : sideB H = true) :
    Calls Tryz.prog 79 #[.int .i64 W, .int .i64 H] w fun e w' => ∃ pv, e = .returned (.tuple #[pv, .int .i64 0]) ∧ PlaceIs w' pv 1 (fun i => if i = 1 then some (rootBX W H) else none) ∧ Below w.heap.size w w' := by
  have H1 := Lib.hid h1
  have H2 := Lib.hid h2
  clear h1 h2
  have hmm := @run_makeMap Tryz.prog
  have hmade : MapIs Tryz.prog 48 .u32 (((w.alloc (.cells #[.map none] 40)).alloc (.cells #[.int .i64 0, .int .i64 0, .int .i64 W, .int .i64 H, .bool true, .int .i64 1, .int .i64 1, .bool false, .slice none 0 0] 133)).alloc (.map #[] 0)) (w.heap.size + 1 + 1) 0 (fun _ => none) := by
    have := MapIs.made (P := Tryz.prog) (k := 48) (q := .u32) ((w.alloc (.cells #[.map none] 40)).alloc (.cells #[.int .i64 0, .int .i64 0, .int .i64 W, .int .i64 H, .bool true, .int .i64 1, .int .i64 1, .bool false, .slice none 0 0] 133))
    rwa [World.size_alloc, World.size_alloc] at this
  obtain ⟨w4, hrun, hm4, hg4⟩ := hmade.run_put Tryz.underlying48 Tryz.underlying38 (by simp only [maxLen]; omega) 1 (.agg #[.int .i64 0, .int .i64 0, .int .i64 W, .int .i64 H, .bool true, .int .i64 1, .int .i64 1, .bool false, .slice none 0 0]) (by decide)
  have bres := (((Blk.new w 40 #[.map none]).alloc (.cells #[.int .i64 0, .int .i64 0, .int .i64 W, .int .i64 H, .bool true, .int .i64 1, .int .i64 1, .bool false, .slice none 0 0] 133)).alloc (.map #[] 0)).grown hg4 (by intro e; injection e with e; omega)
  have r0 := bres.cellV (i := 0) (v := .map none) rfl
  have rf := bres.frozen 0
  have HBR := Lib.hid bres
  have rl : w.heap.size < w4.heap.size := Nat.lt_of_lt_of_le (by simp; omega) hg4.size
  have hB4 : Below w.heap.size w w4 := (bal (bal (bal (bre w) _) _) _).grown hg4 (by simp; omega) (fun q e => by cases e; omega)
  have HM4 := Lib.hid hm4
  have HB4 := Lib.hid hB4
  clear hmade hm4 hg4 hB4 bres
  go_enter Tryz.func79, Tryz.ntmps79
  go_wp2_with (first
    | (go_at_call 137; refine (side_any W _).mono ?_; rintro e w' ⟨rfl, rfl⟩; rw [H1.out])
    | (go_at_call 137; refine (side_any H _).mono ?_; rintro e w' ⟨rfl, rfl⟩; rw [H2.out]))
  have hr := (HBR.out.set_ 0 (.map (some (w.heap.size + 1 + 1)))).cellV (i := 0) (v := .map (some (w.heap.size + 1 + 1))) rfl
  have ef : (fun j : Int => if j = 1 then some (Value.agg #[.int .i64 0, .int .i64 0, .int .i64 W, .int .i64 H, .bool true, .int .i64 1, .int .i64 1, .bool false, .slice none 0 0]) else none) = Bxs.f (fun i => if i = 1 then some (rootBX W H) else none) := by
    funext j
    by_cases hj : j = 1 <;> simp [Bxs.f, hj, rootBX, BX.v]
  have hm5 := (HM4.out.setCell (a := ⟨w.heap.size, 0, none⟩) (by simp; omega) (.map (some (w.heap.size + 1 + 1))))
  rw [ef] at hm5
  exact bodyPost_ret (v := .tuple #[.agg #[.map (some (w.heap.size + 1 + 1))], .int .i64 0]) (by simp [results, Tryz.results79, go_sem, hr]) rfl ⟨_, rfl, ⟨_, rfl, .inr ⟨_, rfl, hm5⟩⟩, bset HB4.out (Nat.le_refl _) _⟩
set_option maxRecDepth 100000 in
set_option maxHeartbeats 1000000 in
theorem box_any (pv : Value) (n : Nat) (bs : Bxs) (id : Int) (w : World) (hid : 0 ≤ id ∧ id ≤ 4294967295) (hp : PlaceIs w pv n bs) :
    Calls Tryz.prog 60 #[pv, .int .u32 id] w fun e w' => e = .returned (.tuple #[((bs id).getD zBX).v, .bool (bs id).isSome]) ∧ Below w.heap.size w w' := by
  obtain ⟨mb, rfl, hm⟩ := hp
  have HM := Lib.hid hm
  have HWF := Lib.hid (u32_wf hid)
  clear hm
  go_enter Tryz.func60, Tryz.ntmps60
  obtain ⟨b, hb⟩ : ∃ b, (bs id).getD zBX = b := ⟨_, rfl⟩
  have HG := Lib.hid (show (bs.f id).getD zBX.v = b.v from (bxv_getD (bs id)).trans (by rw [hb]))
  have HS := Lib.hid (show (bs.f id).isSome = (bs id).isSome by simp [Bxs.f])
  rw [hb]
  clear hb
  go_wp2_with (at_lookup; refine opt_look_ok rfl _ _ 38 rfl 48 133 .u32 Tryz.underlying48 Tryz.underlying38 zBX.v (Tryz.zeroBox _) mb n bs.f rfl (HM.out.below (by first | exact bre _ | exact bal (bre _) _ | exact bal (bal (bre _) _) _)) id rfl HWF.out ?_; rw [HG.out, HS.out]; unfold BX.v)
  refine bodyPost_ret (v := .tuple #[b.v, .bool (bs id).isSome]) (by simp [results, Tryz.results60, go_sem, BX.v]) rfl ⟨rfl, ?_⟩
  repeat (first | exact bre _ | refine bal ?_ _ | refine bset ?_ (by simp) _ | refine bset ?_ (by simp; omega) _)

end Go.Proofs.YtdaedkolpfkdjaaGreat
end

section
namespace Go.Proofs.YtdaedkolpfkdjaaGreat
open Go.RowKit Go.Maps Go.Shelf

theorem clone_boxes (b n : Nat) (f : Int → Option Value) (w : World) (h : MapIs Tryz.prog 48 .u32 w b n f) :
    Calls Tryz.prog 179 #[.map (some b)] w fun e w' => e = .returned (.map (some w.heap.size)) ∧ MapIs Tryz.prog 48 .u32 w' w.heap.size n f ∧ Below w.heap.size w w' := by
  obtain ⟨D, hD, h2⟩ := h
  exact (AnyW.maps_Clone_owns Tryz.cloneBoxes 48 rawR b n D w hD).mono fun e w' ⟨he, h1, _, hB⟩ => ⟨he, ⟨D, h1, h2⟩, hB⟩

theorem blk_new3 (w : World) (o o' : Obj) (t : TypeId) (cs : Array Value) : Blk (((w.alloc o).alloc o').alloc (.cells cs t)) (w.heap.size + 1 + 1) t cs := by
  have := Blk.new ((w.alloc o).alloc o') t cs
  rwa [show ((w.alloc o).alloc o').heap.size = w.heap.size + 1 + 1 from by simp] at this
theorem blk_new2 (w : World) (o : Obj) (t : TypeId) (cs : Array Value) : Blk ((w.alloc o).alloc (.cells cs t)) (w.heap.size + 1) t cs := by
  have := Blk.new (w.alloc o) t cs
  rwa [show (w.alloc o).heap.size = w.heap.size + 1 from by simp] at this

set_option maxRecDepth 100000 in
set_option maxHeartbeats 1000000 in
theorem ptwin_any (b n : Nat) (bs : Bxs) (w : World) (h : MapIs Tryz.prog 48 .u32 w b n bs.f) :
    Calls Tryz.prog 142 #[.agg #[.map (some b)]] w fun e w' => ∃ b', e = .returned (.agg #[.map (some b')]) ∧ w.heap.size ≤ b' ∧ MapIs Tryz.prog 48 .u32 w' b' n bs.f ∧ Below w.heap.size w w' := by
  have HM := Lib.hid h
  clear h
  go_enter Tryz.func142, Tryz.ntmps142
  have bres := blk_new2 w (.cells #[.map (some b)] 40) 40 #[.map none]
  have HBR := Lib.hid bres
  clear bres
  go_wp2_with (go_at_call 179; refine (clone_boxes b n _ _ ((HM.out.alloc _).alloc _)).mono ?_; rintro e w1 ⟨rfl, hm1, hb1⟩; have bR := HBR.out.belowS hb1; have r0 := bR.cellV (i := 0) (v := .map none) rfl; have rf := bR.frozen 0; have rl := bR.lt; have HB1 := Lib.hid hb1; rw [World.size_alloc, World.size_alloc] at hm1; have HM1 := Lib.hid hm1; have HBR1 := Lib.hid bR; clear hb1 hm1 bR)
  have hr := (HBR1.out.set_ 0 (.map (some (w.heap.size + 1 + 1)))).cellV (i := 0) (v := .map (some (w.heap.size + 1 + 1))) rfl
  have hm2 := HM1.out.setCell (a := ⟨w.heap.size + 1, 0, none⟩) (by simp) (.map (some (w.heap.size + 1 + 1)))
  exact bodyPost_ret (v := .agg #[.map (some (w.heap.size + 1 + 1))]) (by simp [results, Tryz.results142, go_sem, hr]) rfl ⟨_, rfl, by omega, hm2, bset (bstep (bal (bal (bre w) _) _) HB1.out) (by simp) _⟩

end Go.Proofs.YtdaedkolpfkdjaaGreat
end

section
namespace Go.Proofs.YtdaedkolpfkdjaaGreat
open Go.RowKit Go.Maps Go.Shelf

/-- what is wrong with a box that is set. -/
def SetErr (id : Int) (b : BX) (n : Nat) (has : Bool) (code : Int) : Prop :=
  (id = 1 ∧ code = 23) ∨ (id ≠ 1 ∧ ((idC id ≠ 0 ∧ code = idC id) ∨ (idC id = 0 ∧ ((coordB b.X = false ∧ code = 1) ∨ (coordB b.X = true ∧ ((coordB b.Y = false ∧ code = 1) ∨ (coordB b.Y = true ∧ ((sideB b.W = false ∧ code = 17) ∨ (sideB b.W = true ∧ ((sideB b.H = false ∧ code = 17) ∨ (sideB b.H = true ∧ ((gravC b.G = 10 ∧ code = 10) ∨ (gravC b.G = 0 ∧ ((gravC b.B = 10 ∧ code = 10) ∨ (gravC b.B = 0 ∧ ((b.S = false ∧ decide (b.n = 0) = false ∧ code = 14) ∨ ((b.S = true ∨ (b.S = false ∧ decide (b.n = 0) = true)) ∧ ((has = false ∧ decide ((64 : Int) ≤ (n : Int)) = true ∧ code = 5) ∨ (has = false ∧ decide ((64 : Int) ≤ (n : Int)) = false ∧ ((n : Int) == 0) = true ∧ code = 9)))))))))))))))))))

set_option maxRecDepth 100000 in
set_option maxHeartbeats 4000000 in
theorem pset_err (pv : Value) (n : Nat) (bs : Bxs) (id : Int) (b : BX) (code : Int) (w : World) (hid : 0 ≤ id ∧ id ≤ 4294967295) (_hn : n ≤ 1000) (hp : PlaceIs w pv n bs) (ht : SetErr id b n (bs id).isSome code) :
    Calls Tryz.prog 81 #[pv, .int .u32 id, b.v] w fun e w' => e = .returned (.tuple #[pv, .int .i64 code]) ∧ Below w.heap.size w w' := by
  obtain ⟨mb, rfl, hm⟩ := hp
  have HM := Lib.hid hm
  have HWF := Lib.hid (u32_wf hid)
  obtain ⟨b0, hb0⟩ : ∃ b0, (bs id).getD zBX = b0 := ⟨_, rfl⟩
  have HG := Lib.hid (show (bs.f id).getD zBX.v = b0.v from (bxv_getD (bs id)).trans (by rw [hb0]))
  obtain ⟨hs, hhs⟩ : ∃ hs, (bs id).isSome = hs := ⟨_, rfl⟩
  have HS := Lib.hid (show (bs.f id).isSome = hs by rw [← hhs]; simp [Bxs.f])
  rw [hhs] at ht
  obtain ⟨X, Y, W, H, M, G, B, S, A, sn, c⟩ := b
  unfold SetErr at ht
  dsimp only at ht
  unfold BX.v
  dsimp only
  clear hm hb0 hhs
  rcases ht with ⟨h1, rfl⟩ | ⟨h1, ⟨h2, rfl⟩ | ⟨h2, ht⟩⟩
  · have d1 : (id == 1) = true := by simp [h1]
    clear h1
    go_enter Tryz.func81, Tryz.ntmps81
    go_wp2_with fail
    exact bodyPost_ret (v := .tuple #[.agg #[.map mb], .int .i64 23]) (by simp [results, Tryz.results81, go_sem]) rfl ⟨rfl, (by repeat (first | exact bre _ | refine bal ?_ _ | refine bset ?_ (by simp) _ | refine bset ?_ (by simp; omega) _))⟩
  · have d1 : (id == 1) = false := by simp [h1]
    obtain ⟨cd, hcd⟩ : ∃ cd, idC id = cd := ⟨_, rfl⟩
    rw [hcd] at h2 ⊢
    have d2 : (cd != 0) = true := by simp [h2]
    have HCK := Lib.hid hcd
    clear h1 hcd h2
    go_enter Tryz.func81, Tryz.ntmps81
    go_wp2_with (go_at_call 64; refine (check_any _ _ hid).mono ?_; rintro e w' ⟨rfl, rfl⟩; rw [HCK.out])
    exact bodyPost_ret (v := .tuple #[.agg #[.map mb], .int .i64 cd]) (by simp [results, Tryz.results81, go_sem]) rfl ⟨rfl, (by repeat (first | exact bre _ | refine bal ?_ _ | refine bset ?_ (by simp) _ | refine bset ?_ (by simp; omega) _))⟩
  · have d1 : (id == 1) = false := by simp [h1]
    have HCK := Lib.hid h2
    clear h1 h2
    have HBP := Lib.hid ((((Blk.new w 40 #[.map mb]).alloc (.cells #[.int .i64 X, .int .i64 Y, .int .i64 W, .int .i64 H, .bool M, .int .i64 G, .int .i64 B, .bool S, .slice A sn c] 133)).alloc (.cells #[.map none] 40)).alloc (.cells #[.int .i64 b0.X, .int .i64 b0.Y, .int .i64 b0.W, .int .i64 b0.H, .bool b0.M, .int .i64 b0.G, .int .i64 b0.B, .bool b0.S, .slice b0.A b0.n b0.c] 133))
    have HBR := Lib.hid ((blk_new3 w (.cells #[.map mb] 40) (.cells #[.int .i64 X, .int .i64 Y, .int .i64 W, .int .i64 H, .bool M, .int .i64 G, .int .i64 B, .bool S, .slice A sn c] 133) 40 #[.map none]).alloc (.cells #[.int .i64 b0.X, .int .i64 b0.Y, .int .i64 b0.W, .int .i64 b0.H, .bool b0.M, .int .i64 b0.G, .int .i64 b0.B, .bool b0.S, .slice b0.A b0.n b0.c] 133))
    rcases ht with ⟨hx, rfl⟩ | ⟨hx, ⟨hy, rfl⟩ | ⟨hy, ⟨hw', rfl⟩ | ⟨hw', ⟨hh, rfl⟩ | ⟨hh, ⟨hg, rfl⟩ | ⟨hg, ⟨hb, rfl⟩ | ⟨hb, ⟨rfl, he, rfl⟩ | ⟨rfl | ⟨rfl, he⟩, ⟨rfl, hn64, rfl⟩ | ⟨rfl, hn64, hn0, rfl⟩⟩⟩⟩⟩⟩⟩⟩
    all_goals
      (try have HX9 := Lib.hid hx)
      (try have HY9 := Lib.hid hy)
      (try have HW9 := Lib.hid hw')
      (try have HH9 := Lib.hid hh)
      (try have HG9 := Lib.hid hg)
      (try have HB9 := Lib.hid hb)
      (try have HE9 := Lib.hid he)
      (try clear hx)
      (try clear hy)
      (try clear hw')
      (try clear hh)
      (try clear hg)
      (try clear hb)
      (try clear he)
      go_enter Tryz.func81, Tryz.ntmps81
      go_wp2_with (first
            | (go_at_call 64; refine (check_any _ _ hid).mono ?_; rintro e w' ⟨rfl, rfl⟩; rw [HCK.out])
            | (at_lookup; refine opt_look_ok rfl _ _ 38 rfl 48 133 .u32 Tryz.underlying48 Tryz.underlying38 zBX.v (Tryz.zeroBox _) mb n bs.f rfl (HM.out.below (by repeat (first | exact bre _ | refine bal ?_ _ | refine bset ?_ (by simp) _ | refine bset ?_ (by simp; omega) _))) id rfl HWF.out ?_; rw [HG.out, HS.out]; unfold BX.v)
            | (go_at_call 140; refine (coord_any _ _).mono ?_; rintro e w' ⟨rfl, rfl⟩; first | rw [HX9.out] | rw [HY9.out])
            | (go_at_call 137; refine (side_any _ _).mono ?_; rintro e w' ⟨rfl, rfl⟩; first | rw [HW9.out] | rw [HH9.out])
            | (go_at_call 141; refine (gcheck_any _ _).mono ?_; rintro e w' ⟨rfl, rfl⟩; first | rw [HG9.out] | rw [HB9.out])
            | (go_at_call 45; refine (empty_any A sn c _).mono ?_; rintro e w13 ⟨rfl, hb13⟩; rw [HE9.out]; have bP := HBP.out.belowS hb13; have bR := HBR.out.belowS hb13; have p0 := bP.cellV (i := 0) (v := .map mb) rfl; have r0 := bR.cellV (i := 0) (v := .map none) rfl; have rf := bR.frozen 0; have rl := bR.lt; have HBE := Lib.hid (bstep (bal (bal (bal (bal (bre w) _) _) _) _) hb13); have HR13 := Lib.hid bR; clear hb13 bP bR)
            | (at_len; refine opt_len rfl _ 38 rfl 48 133 .u32 Tryz.underlying38 mb n bs.f rfl (HM.out.below (by repeat (first | exact HBE.out | exact bre _ | refine bal ?_ _ | refine bset ?_ (by simp) _ | refine bset ?_ (by simp; omega) _))) ?_)
            | (at_len; refine opt_len_if _ 38 rfl 48 133 .u32 Tryz.underlying38 mb n bs.f rfl (HM.out.below (by repeat (first | exact HBE.out | exact bre _ | refine bal ?_ _ | refine bset ?_ (by simp) _ | refine bset ?_ (by simp; omega) _))) (by go_simp) ?_))
      first
        | exact bodyPost_ret (v := .tuple #[.agg #[.map mb], .int .i64 1]) (by simp [results, Tryz.results81, go_sem]) rfl ⟨rfl, (by repeat (first | exact bre _ | refine bal ?_ _ | refine bset ?_ (by simp) _ | refine bset ?_ (by simp; omega) _))⟩
        | exact bodyPost_ret (v := .tuple #[.agg #[.map mb], .int .i64 17]) (by simp [results, Tryz.results81, go_sem]) rfl ⟨rfl, (by repeat (first | exact bre _ | refine bal ?_ _ | refine bset ?_ (by simp) _ | refine bset ?_ (by simp; omega) _))⟩
        | exact bodyPost_ret (v := .tuple #[.agg #[.map mb], .int .i64 10]) (by simp [results, Tryz.results81, go_sem]) rfl ⟨rfl, (by repeat (first | exact bre _ | refine bal ?_ _ | refine bset ?_ (by simp) _ | refine bset ?_ (by simp; omega) _))⟩
        | exact bodyPost_ret (v := .tuple #[.agg #[.map mb], .int .i64 14]) (by simp [results, Tryz.results81, go_sem, (HR13.out.set_ 0 (.map mb)).cellV (i := 0) (v := .map mb) rfl]) rfl ⟨rfl, bset HBE.out (by show w.heap.size ≤ w.heap.size + 1 + 1; omega) _⟩
        | exact bodyPost_ret (v := .tuple #[.agg #[.map mb], .int .i64 5]) (by simp [results, Tryz.results81, go_sem, (HR13.out.set_ 0 (.map mb)).cellV (i := 0) (v := .map mb) rfl]) rfl ⟨rfl, bset HBE.out (by show w.heap.size ≤ w.heap.size + 1 + 1; omega) _⟩
        | exact bodyPost_ret (v := .tuple #[.agg #[.map mb], .int .i64 9]) (by simp [results, Tryz.results81, go_sem, (HR13.out.set_ 0 (.map mb)).cellV (i := 0) (v := .map mb) rfl]) rfl ⟨rfl, bset HBE.out (by show w.heap.size ≤ w.heap.size + 1 + 1; omega) _⟩
        | exact bodyPost_ret (v := .tuple #[.agg #[.map mb], .int .i64 5]) (by simp [results, Tryz.results81, go_sem]) rfl ⟨rfl, (by repeat (first | exact bre _ | refine bal ?_ _ | refine bset ?_ (by simp) _ | refine bset ?_ (by simp; omega) _))⟩
        | exact bodyPost_ret (v := .tuple #[.agg #[.map mb], .int .i64 9]) (by simp [results, Tryz.results81, go_sem]) rfl ⟨rfl, (by repeat (first | exact bre _ | refine bal ?_ _ | refine bset ?_ (by simp) _ | refine bset ?_ (by simp; omega) _))⟩

end Go.Proofs.YtdaedkolpfkdjaaGreat
end
