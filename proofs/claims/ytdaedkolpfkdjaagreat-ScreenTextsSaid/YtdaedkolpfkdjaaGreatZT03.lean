/-
  The walk of a place's Set, where nothing is wrong.
  The walks of a tree's Has, Parent, Kids, of slices.Clone and maps.Copy at ids.
  The walk of maps.Copy at a tree's parents.
-/
import Derived.Test.YtdaedkolpfkdjaaGreatZT02
import Derived.Handy
section
namespace Go.Proofs.YtdaedkolpfkdjaaGreat
open Go.RowKit Go.Maps Go.Shelf

theorem bs_put (bs : Bxs) (id : Int) (b : BX) : (fun j => if j = id then some b.v else bs.f j) = Bxs.f (fun j => if j = id then some b else bs j) := by
  funext j
  by_cases h : j = id <;> simp [Bxs.f, h]

set_option maxRecDepth 100000 in
set_option maxHeartbeats 4000000 in
theorem pset_ok (pv : Value) (n : Nat) (bs : Bxs) (id : Int) (b : BX) (w : World) (hid : 0 ≤ id ∧ id ≤ 4294967295) (hn : n ≤ 1000) (hp : PlaceIs w pv n bs)
    (h1 : id ≠ 1) (h2 : idC id = 0) (hx : coordB b.X = true) (hy : coordB b.Y = true) (hw : sideB b.W = true) (hh : sideB b.H = true) (hg : gravC b.G = 0) (hb : gravC b.B = 0)
    (hS : b.S = true ∨ (b.S = false ∧ decide (b.n = 0) = true)) (hm : (bs id).isSome = true ∨ ((bs id).isSome = false ∧ decide ((64 : Int) ≤ (n : Int)) = false)) (hn0 : ((n : Int) == 0) = false) :
    Calls Tryz.prog 81 #[pv, .int .u32 id, b.v] w fun e w' => ∃ pv', e = .returned (.tuple #[pv', .int .i64 0]) ∧ PlaceIs w' pv' (if (bs id).isSome then n else n + 1) (fun j => if j = id then some b else bs j) ∧ Below w.heap.size w w' := by
  obtain ⟨mb0, rfl, hmo⟩ := hp
  obtain ⟨mb, rfl, hmi⟩ : ∃ mb, mb0 = some mb ∧ MapIs Tryz.prog 48 .u32 w mb n bs.f := by
    rcases hmo with ⟨_, rfl, _⟩ | ⟨mb, rfl, h⟩
    · simp at hn0
    · exact ⟨mb, rfl, h⟩
  have HM := Lib.hid hmo
  have HMI := Lib.hid hmi
  have HWF := Lib.hid (u32_wf hid)
  have HMX := Lib.hid (show n < maxLen by simp only [maxLen]; omega)
  obtain ⟨b0, hb0⟩ : ∃ b0, (bs id).getD zBX = b0 := ⟨_, rfl⟩
  have HG := Lib.hid (show (bs.f id).getD zBX.v = b0.v from (bxv_getD (bs id)).trans (by rw [hb0]))
  have hsf : (bs.f id).isSome = (bs id).isSome := by simp [Bxs.f]
  have HPUT := Lib.hid (bs_put bs id b)
  obtain ⟨bs', hbs'⟩ : ∃ bs' : Bxs, (fun j => if j = id then some b else bs j) = bs' := ⟨_, rfl⟩
  rw [hbs'] at HPUT ⊢
  obtain ⟨hs, hhs⟩ : ∃ hs, (bs id).isSome = hs := ⟨_, rfl⟩
  rw [hhs] at hm hsf ⊢
  have HS := Lib.hid hsf
  obtain ⟨n', hn'⟩ : ∃ n', (if hs = true then n else n + 1) = n' := ⟨_, rfl⟩
  have HN := Lib.hid hn'
  rw [hn']
  obtain ⟨X, Y, W, H, M, G, B, S, A, sn, c⟩ := b
  unfold BX.v at HPUT ⊢
  dsimp only at HPUT hx hy hw hh hg hb hS ⊢
  have d1 : (id == 1) = false := by simp [h1]
  have HCK := Lib.hid h2
  have HX9 := Lib.hid hx
  have HY9 := Lib.hid hy
  have HW9 := Lib.hid hw
  have HH9 := Lib.hid hh
  have HG9 := Lib.hid hg
  have HB9 := Lib.hid hb
  have HBP := Lib.hid ((((Blk.new w 40 #[.map (some mb)]).alloc (.cells #[.int .i64 X, .int .i64 Y, .int .i64 W, .int .i64 H, .bool M, .int .i64 G, .int .i64 B, .bool S, .slice A sn c] 133)).alloc (.cells #[.map none] 40)).alloc (.cells #[.int .i64 b0.X, .int .i64 b0.Y, .int .i64 b0.W, .int .i64 b0.H, .bool b0.M, .int .i64 b0.G, .int .i64 b0.B, .bool b0.S, .slice b0.A b0.n b0.c] 133))
  have HBB := Lib.hid (((blk_new2 w (.cells #[.map (some mb)] 40) 133 #[.int .i64 X, .int .i64 Y, .int .i64 W, .int .i64 H, .bool M, .int .i64 G, .int .i64 B, .bool S, .slice A sn c]).alloc (.cells #[.map none] 40)).alloc (.cells #[.int .i64 b0.X, .int .i64 b0.Y, .int .i64 b0.W, .int .i64 b0.H, .bool b0.M, .int .i64 b0.G, .int .i64 b0.B, .bool b0.S, .slice b0.A b0.n b0.c] 133))
  have HBR := Lib.hid ((blk_new3 w (.cells #[.map (some mb)] 40) (.cells #[.int .i64 X, .int .i64 Y, .int .i64 W, .int .i64 H, .bool M, .int .i64 G, .int .i64 B, .bool S, .slice A sn c] 133) 40 #[.map none]).alloc (.cells #[.int .i64 b0.X, .int .i64 b0.Y, .int .i64 b0.W, .int .i64 b0.H, .bool b0.M, .int .i64 b0.G, .int .i64 b0.B, .bool b0.S, .slice b0.A b0.n b0.c] 133))
  have HBE := Lib.hid (bal (bal (bal (bal (bre w) (.cells #[.map (some mb)] 40)) (.cells #[.int .i64 X, .int .i64 Y, .int .i64 W, .int .i64 H, .bool M, .int .i64 G, .int .i64 B, .bool S, .slice A sn c] 133)) (.cells #[.map none] 40)) (.cells #[.int .i64 b0.X, .int .i64 b0.Y, .int .i64 b0.W, .int .i64 b0.H, .bool b0.M, .int .i64 b0.G, .int .i64 b0.B, .bool b0.S, .slice b0.A b0.n b0.c] 133))
  clear hmo hmi hb0 hhs h1 h2 hx hy hw hh hg hb hsf hn' hbs'
  rcases hS with rfl | ⟨rfl, he⟩
  rotate_left
  have HE9 := Lib.hid he
  clear he
  all_goals rcases hm with rfl | ⟨rfl, hn64⟩
  · go_enter Tryz.func81, Tryz.ntmps81
    go_wp2_with (first
      | (go_at_call 64; refine (check_any _ _ hid).mono ?_; rintro e w' ⟨rfl, rfl⟩; rw [HCK.out])
      | (at_lookup; refine opt_look_ok rfl _ _ 38 rfl 48 133 .u32 Tryz.underlying48 Tryz.underlying38 zBX.v (Tryz.zeroBox _) (some mb) n bs.f rfl (HM.out.below (by repeat (first | exact bre _ | refine bal ?_ _))) id rfl HWF.out ?_; rw [HG.out, HS.out]; unfold BX.v)
      | (go_at_call 140; refine (coord_any _ _).mono ?_; rintro e w' ⟨rfl, rfl⟩; first | rw [HX9.out] | rw [HY9.out])
      | (go_at_call 137; refine (side_any _ _).mono ?_; rintro e w' ⟨rfl, rfl⟩; first | rw [HW9.out] | rw [HH9.out])
      | (go_at_call 141; refine (gcheck_any _ _).mono ?_; rintro e w' ⟨rfl, rfl⟩; first | rw [HG9.out] | rw [HB9.out])
      | (go_at_call 45; refine (empty_any A sn c _).mono ?_; rintro e w13 ⟨rfl, hb13⟩; rw [HE9.out]; have bP := HBP.out.belowS hb13; have bR := HBR.out.belowS hb13; have bB := HBB.out.belowS hb13; have p0 := bP.cellV (i := 0) (v := .map (some mb)) rfl; have HBE := Lib.hid (bstep HBE.out hb13); have HBR := Lib.hid bR; have HBB := Lib.hid bB; clear hb13 bP bR bB)
      | (at_len; refine opt_len rfl _ 38 rfl 48 133 .u32 Tryz.underlying38 (some mb) n bs.f rfl (HM.out.below (by repeat (first | exact HBE.out | exact bre _ | refine bal ?_ _ | refine bset ?_ (by simp) _ | refine bset ?_ (by simp; omega) _))) ?_)
      | (at_len; refine opt_len_if _ 38 rfl 48 133 .u32 Tryz.underlying38 (some mb) n bs.f rfl (HM.out.below (by repeat (first | exact HBE.out | exact bre _ | refine bal ?_ _ | refine bset ?_ (by simp) _ | refine bset ?_ (by simp; omega) _))) (by go_simp) ?_)
      | (go_at_call 142; refine (ptwin_any mb n bs _ (HMI.out.below HBE.out)).mono ?_; rintro e w14 ⟨mb', rfl, hlb, hm', hb'⟩; have bR := HBR.out.belowS hb'; have bB := HBB.out.belowS hb'; have q0 := bB.cellV (i := 0) (v := .int .i64 X) rfl; have q1 := bB.cellV (i := 1) (v := .int .i64 Y) rfl; have q2 := bB.cellV (i := 2) (v := .int .i64 W) rfl; have q3 := bB.cellV (i := 3) (v := .int .i64 H) rfl; have q4 := bB.cellV (i := 4) (v := .bool M) rfl; have q5 := bB.cellV (i := 5) (v := .int .i64 G) rfl; have q6 := bB.cellV (i := 6) (v := .int .i64 B) rfl; have q7 := bB.cellV (i := 7) (v := .bool false) rfl; have q8 := bB.cellV (i := 8) (v := .slice A sn c) rfl; have rl := bR.lt; have hne : w.heap.size + 1 + 1 < mb' := Nat.lt_of_lt_of_le HBR.out.lt hlb; have hlt : mb' < w14.heap.size := hm'.lt; have rl1 : w.heap.size + 1 < w14.heap.size := by omega
         have bO := Blk.new w14 40 #[.map (some mb')]; have HBO := Lib.hid bO; have HBE := Lib.hid (bstep HBE.out hb'); have HMI := Lib.hid (hm'.alloc (.cells #[.map (some mb')] 40)); have HBR := Lib.hid (bR.alloc (.cells #[.map (some mb')] 40)); clear hb' bO bB bR hm')
      | (at_mapUpdate; refine map_put rfl _ _ _ 38 rfl 48 133 .u32 Tryz.underlying48 Tryz.underlying38 mb' n bs.f rfl HMI.out HMX.out id (.agg #[.int .i64 X, .int .i64 Y, .int .i64 W, .int .i64 H, .bool M, .int .i64 G, .int .i64 B, .bool false, .slice A sn c]) rfl rfl HWF.out ?_; rw [HPUT.out, HS.out]; (first | rw [HN.out] | rw [show (if true = true then n else n + 1) = n' from (if_pos rfl).trans ((if_pos trivial).symm.trans HN.out)]); intro w16 hm16 hg16; have bR := HBR.out.grown hg16 (by intro e; injection e with e; omega); have bO := HBO.out.grown hg16 (by intro e; injection e with e; omega); have o0 := bO.cellV (i := 0) (v := .map (some mb')) rfl; have r0 := bR.cellV (i := 0) (v := .map none) rfl; have rf := bR.frozen 0; have rl := bR.lt; have HBE := Lib.hid ((bal HBE.out _).grown hg16 (bal HBE.out _).size (fun q e => by cases e; omega)); have HMI := Lib.hid hm16; have HBR := Lib.hid bR; clear hm16 hg16 bR bO))
    have hr := (HBR.out.set_ 0 (.map (some mb'))).cellV (i := 0) (v := .map (some mb')) rfl
    have hmz := HMI.out.setCell (a := ⟨w.heap.size + 1 + 1, 0, none⟩) (by show mb' ≠ w.heap.size + 1 + 1; omega) (.map (some mb'))
    exact bodyPost_ret (v := .tuple #[.agg #[.map (some mb')], .int .i64 0]) (by simp [results, Tryz.results81, go_sem, hr]) rfl ⟨_, rfl, ⟨_, rfl, .inr ⟨_, rfl, hmz⟩⟩, bset HBE.out (by show w.heap.size ≤ w.heap.size + 1 + 1; omega) _⟩
  · go_enter Tryz.func81, Tryz.ntmps81
    go_wp2_with (first
      | (go_at_call 64; refine (check_any _ _ hid).mono ?_; rintro e w' ⟨rfl, rfl⟩; rw [HCK.out])
      | (at_lookup; refine opt_look_ok rfl _ _ 38 rfl 48 133 .u32 Tryz.underlying48 Tryz.underlying38 zBX.v (Tryz.zeroBox _) (some mb) n bs.f rfl (HM.out.below (by repeat (first | exact bre _ | refine bal ?_ _))) id rfl HWF.out ?_; rw [HG.out, HS.out]; unfold BX.v)
      | (go_at_call 140; refine (coord_any _ _).mono ?_; rintro e w' ⟨rfl, rfl⟩; first | rw [HX9.out] | rw [HY9.out])
      | (go_at_call 137; refine (side_any _ _).mono ?_; rintro e w' ⟨rfl, rfl⟩; first | rw [HW9.out] | rw [HH9.out])
      | (go_at_call 141; refine (gcheck_any _ _).mono ?_; rintro e w' ⟨rfl, rfl⟩; first | rw [HG9.out] | rw [HB9.out])
      | (go_at_call 45; refine (empty_any A sn c _).mono ?_; rintro e w13 ⟨rfl, hb13⟩; rw [HE9.out]; have bP := HBP.out.belowS hb13; have bR := HBR.out.belowS hb13; have bB := HBB.out.belowS hb13; have p0 := bP.cellV (i := 0) (v := .map (some mb)) rfl; have HBE := Lib.hid (bstep HBE.out hb13); have HBR := Lib.hid bR; have HBB := Lib.hid bB; clear hb13 bP bR bB)
      | (at_len; refine opt_len rfl _ 38 rfl 48 133 .u32 Tryz.underlying38 (some mb) n bs.f rfl (HM.out.below (by repeat (first | exact HBE.out | exact bre _ | refine bal ?_ _ | refine bset ?_ (by simp) _ | refine bset ?_ (by simp; omega) _))) ?_)
      | (at_len; refine opt_len_if _ 38 rfl 48 133 .u32 Tryz.underlying38 (some mb) n bs.f rfl (HM.out.below (by repeat (first | exact HBE.out | exact bre _ | refine bal ?_ _ | refine bset ?_ (by simp) _ | refine bset ?_ (by simp; omega) _))) (by go_simp) ?_)
      | (go_at_call 142; refine (ptwin_any mb n bs _ (HMI.out.below HBE.out)).mono ?_; rintro e w14 ⟨mb', rfl, hlb, hm', hb'⟩; have bR := HBR.out.belowS hb'; have bB := HBB.out.belowS hb'; have q0 := bB.cellV (i := 0) (v := .int .i64 X) rfl; have q1 := bB.cellV (i := 1) (v := .int .i64 Y) rfl; have q2 := bB.cellV (i := 2) (v := .int .i64 W) rfl; have q3 := bB.cellV (i := 3) (v := .int .i64 H) rfl; have q4 := bB.cellV (i := 4) (v := .bool M) rfl; have q5 := bB.cellV (i := 5) (v := .int .i64 G) rfl; have q6 := bB.cellV (i := 6) (v := .int .i64 B) rfl; have q7 := bB.cellV (i := 7) (v := .bool false) rfl; have q8 := bB.cellV (i := 8) (v := .slice A sn c) rfl; have rl := bR.lt; have hne : w.heap.size + 1 + 1 < mb' := Nat.lt_of_lt_of_le HBR.out.lt hlb; have hlt : mb' < w14.heap.size := hm'.lt; have rl1 : w.heap.size + 1 < w14.heap.size := by omega
         have bO := Blk.new w14 40 #[.map (some mb')]; have HBO := Lib.hid bO; have HBE := Lib.hid (bstep HBE.out hb'); have HMI := Lib.hid (hm'.alloc (.cells #[.map (some mb')] 40)); have HBR := Lib.hid (bR.alloc (.cells #[.map (some mb')] 40)); clear hb' bO bB bR hm')
      | (at_mapUpdate; refine map_put rfl _ _ _ 38 rfl 48 133 .u32 Tryz.underlying48 Tryz.underlying38 mb' n bs.f rfl HMI.out HMX.out id (.agg #[.int .i64 X, .int .i64 Y, .int .i64 W, .int .i64 H, .bool M, .int .i64 G, .int .i64 B, .bool false, .slice A sn c]) rfl rfl HWF.out ?_; rw [HPUT.out, HS.out]; (first | rw [HN.out] | rw [show (if true = true then n else n + 1) = n' from (if_pos rfl).trans ((if_pos trivial).symm.trans HN.out)]); intro w16 hm16 hg16; have bR := HBR.out.grown hg16 (by intro e; injection e with e; omega); have bO := HBO.out.grown hg16 (by intro e; injection e with e; omega); have o0 := bO.cellV (i := 0) (v := .map (some mb')) rfl; have r0 := bR.cellV (i := 0) (v := .map none) rfl; have rf := bR.frozen 0; have rl := bR.lt; have HBE := Lib.hid ((bal HBE.out _).grown hg16 (bal HBE.out _).size (fun q e => by cases e; omega)); have HMI := Lib.hid hm16; have HBR := Lib.hid bR; clear hm16 hg16 bR bO))
    have hr := (HBR.out.set_ 0 (.map (some mb'))).cellV (i := 0) (v := .map (some mb')) rfl
    have hmz := HMI.out.setCell (a := ⟨w.heap.size + 1 + 1, 0, none⟩) (by show mb' ≠ w.heap.size + 1 + 1; omega) (.map (some mb'))
    exact bodyPost_ret (v := .tuple #[.agg #[.map (some mb')], .int .i64 0]) (by simp [results, Tryz.results81, go_sem, hr]) rfl ⟨_, rfl, ⟨_, rfl, .inr ⟨_, rfl, hmz⟩⟩, bset HBE.out (by show w.heap.size ≤ w.heap.size + 1 + 1; omega) _⟩
  · go_enter Tryz.func81, Tryz.ntmps81
    go_wp2_with (first
      | (go_at_call 64; refine (check_any _ _ hid).mono ?_; rintro e w' ⟨rfl, rfl⟩; rw [HCK.out])
      | (at_lookup; refine opt_look_ok rfl _ _ 38 rfl 48 133 .u32 Tryz.underlying48 Tryz.underlying38 zBX.v (Tryz.zeroBox _) (some mb) n bs.f rfl (HM.out.below (by repeat (first | exact bre _ | refine bal ?_ _))) id rfl HWF.out ?_; rw [HG.out, HS.out]; unfold BX.v)
      | (go_at_call 140; refine (coord_any _ _).mono ?_; rintro e w' ⟨rfl, rfl⟩; first | rw [HX9.out] | rw [HY9.out])
      | (go_at_call 137; refine (side_any _ _).mono ?_; rintro e w' ⟨rfl, rfl⟩; first | rw [HW9.out] | rw [HH9.out])
      | (go_at_call 141; refine (gcheck_any _ _).mono ?_; rintro e w' ⟨rfl, rfl⟩; first | rw [HG9.out] | rw [HB9.out])
      | (at_len; refine opt_len rfl _ 38 rfl 48 133 .u32 Tryz.underlying38 (some mb) n bs.f rfl (HM.out.below (by repeat (first | exact HBE.out | exact bre _ | refine bal ?_ _ | refine bset ?_ (by simp) _ | refine bset ?_ (by simp; omega) _))) ?_)
      | (at_len; refine opt_len_if _ 38 rfl 48 133 .u32 Tryz.underlying38 (some mb) n bs.f rfl (HM.out.below (by repeat (first | exact HBE.out | exact bre _ | refine bal ?_ _ | refine bset ?_ (by simp) _ | refine bset ?_ (by simp; omega) _))) (by go_simp) ?_)
      | (go_at_call 142; refine (ptwin_any mb n bs _ (HMI.out.below HBE.out)).mono ?_; rintro e w14 ⟨mb', rfl, hlb, hm', hb'⟩; have bR := HBR.out.belowS hb'; have bB := HBB.out.belowS hb'; have q0 := bB.cellV (i := 0) (v := .int .i64 X) rfl; have q1 := bB.cellV (i := 1) (v := .int .i64 Y) rfl; have q2 := bB.cellV (i := 2) (v := .int .i64 W) rfl; have q3 := bB.cellV (i := 3) (v := .int .i64 H) rfl; have q4 := bB.cellV (i := 4) (v := .bool M) rfl; have q5 := bB.cellV (i := 5) (v := .int .i64 G) rfl; have q6 := bB.cellV (i := 6) (v := .int .i64 B) rfl; have q7 := bB.cellV (i := 7) (v := .bool true) rfl; have q8 := bB.cellV (i := 8) (v := .slice A sn c) rfl; have rl := bR.lt; have hne : w.heap.size + 1 + 1 < mb' := Nat.lt_of_lt_of_le HBR.out.lt hlb; have hlt : mb' < w14.heap.size := hm'.lt; have rl1 : w.heap.size + 1 < w14.heap.size := by omega
         have bO := Blk.new w14 40 #[.map (some mb')]; have HBO := Lib.hid bO; have HBE := Lib.hid (bstep HBE.out hb'); have HMI := Lib.hid (hm'.alloc (.cells #[.map (some mb')] 40)); have HBR := Lib.hid (bR.alloc (.cells #[.map (some mb')] 40)); clear hb' bO bB bR hm')
      | (at_mapUpdate; refine map_put rfl _ _ _ 38 rfl 48 133 .u32 Tryz.underlying48 Tryz.underlying38 mb' n bs.f rfl HMI.out HMX.out id (.agg #[.int .i64 X, .int .i64 Y, .int .i64 W, .int .i64 H, .bool M, .int .i64 G, .int .i64 B, .bool true, .slice A sn c]) rfl rfl HWF.out ?_; rw [HPUT.out, HS.out]; (first | rw [HN.out] | rw [show (if true = true then n else n + 1) = n' from (if_pos rfl).trans ((if_pos trivial).symm.trans HN.out)]); intro w16 hm16 hg16; have bR := HBR.out.grown hg16 (by intro e; injection e with e; omega); have bO := HBO.out.grown hg16 (by intro e; injection e with e; omega); have o0 := bO.cellV (i := 0) (v := .map (some mb')) rfl; have r0 := bR.cellV (i := 0) (v := .map none) rfl; have rf := bR.frozen 0; have rl := bR.lt; have HBE := Lib.hid ((bal HBE.out _).grown hg16 (bal HBE.out _).size (fun q e => by cases e; omega)); have HMI := Lib.hid hm16; have HBR := Lib.hid bR; clear hm16 hg16 bR bO))
    have hr := (HBR.out.set_ 0 (.map (some mb'))).cellV (i := 0) (v := .map (some mb')) rfl
    have hmz := HMI.out.setCell (a := ⟨w.heap.size + 1 + 1, 0, none⟩) (by show mb' ≠ w.heap.size + 1 + 1; omega) (.map (some mb'))
    exact bodyPost_ret (v := .tuple #[.agg #[.map (some mb')], .int .i64 0]) (by simp [results, Tryz.results81, go_sem, hr]) rfl ⟨_, rfl, ⟨_, rfl, .inr ⟨_, rfl, hmz⟩⟩, bset HBE.out (by show w.heap.size ≤ w.heap.size + 1 + 1; omega) _⟩
  · go_enter Tryz.func81, Tryz.ntmps81
    go_wp2_with (first
      | (go_at_call 64; refine (check_any _ _ hid).mono ?_; rintro e w' ⟨rfl, rfl⟩; rw [HCK.out])
      | (at_lookup; refine opt_look_ok rfl _ _ 38 rfl 48 133 .u32 Tryz.underlying48 Tryz.underlying38 zBX.v (Tryz.zeroBox _) (some mb) n bs.f rfl (HM.out.below (by repeat (first | exact bre _ | refine bal ?_ _))) id rfl HWF.out ?_; rw [HG.out, HS.out]; unfold BX.v)
      | (go_at_call 140; refine (coord_any _ _).mono ?_; rintro e w' ⟨rfl, rfl⟩; first | rw [HX9.out] | rw [HY9.out])
      | (go_at_call 137; refine (side_any _ _).mono ?_; rintro e w' ⟨rfl, rfl⟩; first | rw [HW9.out] | rw [HH9.out])
      | (go_at_call 141; refine (gcheck_any _ _).mono ?_; rintro e w' ⟨rfl, rfl⟩; first | rw [HG9.out] | rw [HB9.out])
      | (at_len; refine opt_len rfl _ 38 rfl 48 133 .u32 Tryz.underlying38 (some mb) n bs.f rfl (HM.out.below (by repeat (first | exact HBE.out | exact bre _ | refine bal ?_ _ | refine bset ?_ (by simp) _ | refine bset ?_ (by simp; omega) _))) ?_)
      | (at_len; refine opt_len_if _ 38 rfl 48 133 .u32 Tryz.underlying38 (some mb) n bs.f rfl (HM.out.below (by repeat (first | exact HBE.out | exact bre _ | refine bal ?_ _ | refine bset ?_ (by simp) _ | refine bset ?_ (by simp; omega) _))) (by go_simp) ?_)
      | (go_at_call 142; refine (ptwin_any mb n bs _ (HMI.out.below HBE.out)).mono ?_; rintro e w14 ⟨mb', rfl, hlb, hm', hb'⟩; have bR := HBR.out.belowS hb'; have bB := HBB.out.belowS hb'; have q0 := bB.cellV (i := 0) (v := .int .i64 X) rfl; have q1 := bB.cellV (i := 1) (v := .int .i64 Y) rfl; have q2 := bB.cellV (i := 2) (v := .int .i64 W) rfl; have q3 := bB.cellV (i := 3) (v := .int .i64 H) rfl; have q4 := bB.cellV (i := 4) (v := .bool M) rfl; have q5 := bB.cellV (i := 5) (v := .int .i64 G) rfl; have q6 := bB.cellV (i := 6) (v := .int .i64 B) rfl; have q7 := bB.cellV (i := 7) (v := .bool true) rfl; have q8 := bB.cellV (i := 8) (v := .slice A sn c) rfl; have rl := bR.lt; have hne : w.heap.size + 1 + 1 < mb' := Nat.lt_of_lt_of_le HBR.out.lt hlb; have hlt : mb' < w14.heap.size := hm'.lt; have rl1 : w.heap.size + 1 < w14.heap.size := by omega
         have bO := Blk.new w14 40 #[.map (some mb')]; have HBO := Lib.hid bO; have HBE := Lib.hid (bstep HBE.out hb'); have HMI := Lib.hid (hm'.alloc (.cells #[.map (some mb')] 40)); have HBR := Lib.hid (bR.alloc (.cells #[.map (some mb')] 40)); clear hb' bO bB bR hm')
      | (at_mapUpdate; refine map_put rfl _ _ _ 38 rfl 48 133 .u32 Tryz.underlying48 Tryz.underlying38 mb' n bs.f rfl HMI.out HMX.out id (.agg #[.int .i64 X, .int .i64 Y, .int .i64 W, .int .i64 H, .bool M, .int .i64 G, .int .i64 B, .bool true, .slice A sn c]) rfl rfl HWF.out ?_; rw [HPUT.out, HS.out]; (first | rw [HN.out] | rw [show (if true = true then n else n + 1) = n' from (if_pos rfl).trans ((if_pos trivial).symm.trans HN.out)]); intro w16 hm16 hg16; have bR := HBR.out.grown hg16 (by intro e; injection e with e; omega); have bO := HBO.out.grown hg16 (by intro e; injection e with e; omega); have o0 := bO.cellV (i := 0) (v := .map (some mb')) rfl; have r0 := bR.cellV (i := 0) (v := .map none) rfl; have rf := bR.frozen 0; have rl := bR.lt; have HBE := Lib.hid ((bal HBE.out _).grown hg16 (bal HBE.out _).size (fun q e => by cases e; omega)); have HMI := Lib.hid hm16; have HBR := Lib.hid bR; clear hm16 hg16 bR bO))
    have hr := (HBR.out.set_ 0 (.map (some mb'))).cellV (i := 0) (v := .map (some mb')) rfl
    have hmz := HMI.out.setCell (a := ⟨w.heap.size + 1 + 1, 0, none⟩) (by show mb' ≠ w.heap.size + 1 + 1; omega) (.map (some mb'))
    exact bodyPost_ret (v := .tuple #[.agg #[.map (some mb')], .int .i64 0]) (by simp [results, Tryz.results81, go_sem, hr]) rfl ⟨_, rfl, ⟨_, rfl, .inr ⟨_, rfl, hmz⟩⟩, bset HBE.out (by show w.heap.size ≤ w.heap.size + 1 + 1; omega) _⟩

end Go.Proofs.YtdaedkolpfkdjaaGreat
end

section
namespace Go.Proofs.YtdaedkolpfkdjaaGreat
open Go.RowKit Go.Maps Go.Shelf

/-- numbers of windows as values. -/
def U32 (l : List Int) : List Value := l.map (Value.int .u32)
theorem U32_at {l : List Int} {k : Nat} {v : Int} (h : l[k]? = some v) : (U32 l)[k]? = some (.int .u32 v) := by simp [U32, h]
theorem U32_len (l : List Int) : (U32 l).length = l.length := by simp [U32]
theorem U32_one (l : List Int) : ∀ u ∈ U32 l, u.oneCell' = true := by
  intro u hu
  simp only [U32, List.mem_map] at hu
  obtain ⟨x, _, rfl⟩ := hu
  rfl
/-- windows, and their parents. -/
abbrev Nodes := List (Int × Int)
def upOf (ns : Nodes) (i : Int) : Option Int := (ns.find? (fun p => p.1 == i)).map (·.2)
def kidsOf (ns : Nodes) (i : Int) : List Int := (ns.filter (fun p => p.2 == i)).map (·.1)
def hasN (ns : Nodes) (i : Int) : Bool := (upOf ns i).isSome || decide (i = 1)
/-- a map's element reads as these kids. -/
def KidsV (w : World) (o : Option Value) (l : List Int) : Prop := ∃ A c, o.getD (.slice none 0 0) = .slice A l.length c ∧ l.length ≤ c ∧ Rd w A l.length (U32 l)
theorem KidsV.below {w w' : World} {o : Option Value} {l : List Int} (h : KidsV w o l) (hb : Below w.heap.size w w') : KidsV w' o l := by
  obtain ⟨A, c, e, hc, h⟩ := h
  exact ⟨A, c, e, hc, h.below hb⟩
/-- numbers that may be ids. -/
def okN (ns : Nodes) : Prop := ∀ p ∈ ns, (0 ≤ p.1 ∧ p.1 ≤ 4294967295) ∧ 0 ≤ p.2 ∧ p.2 ≤ 4294967295
/-- a tree: its windows. -/
structure TreeIs (w : World) (v : Value) (ns : Nodes) (mk mu : Option Nat) (nk : Nat) (fk : Int → Option Value) : Prop where
  shape : v = .agg #[.map mk, .map mu]
  kids : MapOpt Tryz.prog 48 .u32 w mk nk fk
  up : MapOpt Tryz.prog 48 .u32 w mu ns.length (fun i => (upOf ns i).map (Value.int .u32))
  each : ∀ i, KidsV w (fk i) (kidsOf ns i)
  room : nk ≤ ns.length + 1
  few : ns.length ≤ 1000
  ok : okN ns
  keys : ∀ i, (fk i).isSome = true → hasN ns i = true
theorem TreeIs.below {w w' : World} {v : Value} {ns : Nodes} {mk mu : Option Nat} {nk : Nat} {fk : Int → Option Value} (h : TreeIs w v ns mk mu nk fk) (hb : Below w.heap.size w w') : TreeIs w' v ns mk mu nk fk :=
  ⟨h.shape, h.kids.below hb, h.up.below hb, fun i => (h.each i).below hb, h.room, h.few, h.ok, h.keys⟩

theorem Tryz.zeroID (w : World) : (zeroValue 48).run Tryz.prog w = .ok (.int .u32 0) w := by kernel_rfl
theorem Tryz.zeroIDs (w : World) : (zeroValue 43).run Tryz.prog w = .ok (.slice none 0 0) w := by kernel_rfl

theorem own_lower {w : World} {base base' e size n : Nat} {v : Value} {xs : List Value} (h : w.ownsRow base e size v n xs) (hb : base' ≤ base) : w.ownsRow base' e size v n xs :=
  ⟨h.1, h.2.imp id (fun ⟨g, cap, cur, e1, h1, h2⟩ => ⟨g, cap, cur, e1, Nat.le_trans hb h1, h2⟩)⟩
theorem upv_getD (o : Option Int) : (o.map (Value.int .u32)).getD (.int .u32 0) = .int .u32 (o.getD 0) := by cases o <;> rfl
set_option maxRecDepth 100000 in
set_option maxHeartbeats 1000000 in
theorem has_any (v : Value) (ns : Nodes) (mk mu : Option Nat) (nk : Nat) (fk : Int → Option Value) (id : Int) (w : World) (hid : 0 ≤ id ∧ id ≤ 4294967295) (h : TreeIs w v ns mk mu nk fk) :
    Calls Tryz.prog 138 #[v, .int .u32 id] w fun e w' => e = .returned (.bool (hasN ns id)) ∧ Below w.heap.size w w' := by
  have HU := Lib.hid h.up
  have HWF := Lib.hid (u32_wf hid)
  have hv := h.shape
  subst hv
  clear h
  unfold hasN
  obtain ⟨x, hx⟩ : ∃ x, (upOf ns id).getD 0 = x := ⟨_, rfl⟩
  obtain ⟨s, hs⟩ : ∃ s, (upOf ns id).isSome = s := ⟨_, rfl⟩
  have HG := Lib.hid (show ((upOf ns id).map (Value.int .u32)).getD (.int .u32 0) = .int .u32 x by rw [upv_getD, hx])
  have HS := Lib.hid (show ((upOf ns id).map (Value.int .u32)).isSome = s by simp [hs])
  rw [hs]
  obtain ⟨d, hd⟩ : ∃ d, decide (id = 1) = d := ⟨_, rfl⟩
  have d1 : (id == 1) = d := by
    rw [← hd]
    by_cases h1 : id = 1 <;> simp [h1]
  rw [hd]
  clear hx hs hd
  cases s <;> cases d
  all_goals
    go_enter Tryz.func138, Tryz.ntmps138
    go_wp2_with (at_lookup; refine opt_look_ok rfl _ _ 35 rfl 48 48 .u32 Tryz.underlying48 Tryz.underlying35 (.int .u32 0) (Tryz.zeroID _) mu ns.length (fun i => (upOf ns i).map (Value.int .u32)) rfl (HU.out.below (by repeat (first | exact bre _ | refine bal ?_ _ | refine bset ?_ (by simp) _ | refine bset ?_ (by simp; omega) _))) id rfl HWF.out ?_; dsimp only; rw [HG.out, HS.out])
    exact bodyPost_ret (v := .bool _) (by simp [results, Tryz.results138, go_sem]) rfl ⟨rfl, (by repeat (first | exact bre _ | refine bal ?_ _ | refine bset ?_ (by simp) _ | refine bset ?_ (by simp; omega) _))⟩

theorem Tryz.infoU : (Tryz.prog.info? 48).map (fun i => (i.zero, i.size, i.bytes)) = some (some (.int .u32 0), 1, 4) := by kernel_rfl
theorem blk_own0 (w : World) : (w.alloc (.cells #[] 48)).ownsRow w.heap.size 48 1 (.slice (some ⟨w.heap.size, 0, none⟩) 0 0) 0 [] :=
  blk_own (Blk.new w 48 #[]) (Nat.le_refl _) rfl (Nat.zero_le _)
set_option maxRecDepth 100000 in
set_option maxHeartbeats 1000000 in
theorem cloneI_any (A : Option Addr) (n c : Nat) (l : List Int) (w : World) (hn : n ≤ 1000000) (hr : Rd w A n (U32 l)) :
    Calls Tryz.prog 93 #[.slice A n c] w fun e w' => ∃ v, e = .returned v ∧ w'.ownsRow w.heap.size 48 1 v n (U32 l) ∧ Below w.heap.size w w' := by
  obtain ⟨i0, hi0, hz0, hz1, hz2⟩ := info_parts Tryz.infoU
  have qn : ∀ (w : World) (a : Option Addr) (n c n' c' : Nat), (binOp .eql 43 (.slice a n c) (.slice none n' c')).run Tryz.prog w = .ok (.bool a.isNone) w := fun w a n c n' c' => Lib.run_eql_slice_nil w _ _ a n c n' c' Tryz.underlying43
  have HR := Lib.hid hr
  clear hr
  cases A with
  | none =>
    have h0 : n = 0 := by
      rcases Nat.eq_zero_or_pos n with h0 | hp
      · exact h0
      · obtain ⟨b, off, e, _⟩ := HR.out.2 hp
        cases e
    subst h0
    have hl : U32 l = [] := List.eq_nil_of_length_eq_zero HR.out.1
    rw [hl]
    go_enter Tryz.func93, Tryz.ntmps93
    go_wp2_with fail
    go_ret
    exact ⟨.slice none 0 0, rfl, ⟨rfl, .inl ⟨rfl, rfl⟩⟩, bre _⟩
  | some a =>
    go_enter Tryz.func93, Tryz.ntmps93
    have HOWN := Lib.hid (blk_own0 w)
    have hnews : ∀ j u, (U32 l)[j]? = some u → (w.alloc (.cells #[] 48)).cell? (a.add j) = some u := fun j u hj => by
      have hl := (List.getElem?_eq_some_iff.1 hj).1
      rw [HR.out.1] at hl
      obtain ⟨b, off, e, hb, hc⟩ := HR.out.2 (by omega)
      injection e with e
      subst e
      have h2 := (World.cell?_alloc_lt w (.cells #[] 48) ⟨b, off + j, none⟩ hb).trans (hc j u hj)
      unfold Addr.add
      split
      · rename_i e0; subst e0; exact h2
      · exact h2
    have HNEW := Lib.hid hnews
    have hrl : (U32 l).length = n * 1 := by rw [HR.out.1]; omega
    have HRL := Lib.hid hrl
    clear hnews hrl
    go_wp2_with (at_builtin; refine wpList_append_own _ rfl _ _ 43 rfl w.heap.size 48 i0 _ 1 4 Tryz.underlying43 hi0 hz0 hz1 hz2 rfl (by decide) _ _ _ rfl HOWN.out a n c (U32 l) rfl HRL.out HNEW.out (U32_one l) (by simp only [maxLen]; omega) (by omega) (by simp) ?_; intro v' w4 hown' hgrow _; have HO' := Lib.hid hown'; have HG := Lib.hid hgrow; clear hown' hgrow)
    have ho : w4.ownsRow w.heap.size 48 1 v' n (U32 l) := by
      have := HO'.out
      rwa [Nat.zero_add, List.nil_append] at this
    have hB : Below w.heap.size w w4 := (bal (bre w) _).grown HG.out (by simp) (fun g e => by cases e; exact Nat.le_refl _)
    go_ret
    exact ⟨v', rfl, ho, hB⟩

set_option maxRecDepth 100000 in
set_option maxHeartbeats 1000000 in
theorem kids_any (v : Value) (ns : Nodes) (mk mu : Option Nat) (nk : Nat) (fk : Int → Option Value) (id : Int) (w : World) (hid : 0 ≤ id ∧ id ≤ 4294967295) (h : TreeIs w v ns mk mu nk fk) :
    Calls Tryz.prog 30 #[v, .int .u32 id] w fun e w' => ∃ u, e = .returned u ∧ w'.ownsRow w.heap.size 48 1 u (kidsOf ns id).length (U32 (kidsOf ns id)) ∧ Below w.heap.size w w' := by
  have HK := Lib.hid h.kids
  have HWF := Lib.hid (u32_wf hid)
  obtain ⟨A, c, hg, hc, hr⟩ := h.each id
  have hl : (kidsOf ns id).length ≤ 1000 := by
    refine Nat.le_trans ?_ h.few
    unfold kidsOf
    rw [List.length_map]
    exact List.length_filter_le _ _
  have hv := h.shape
  subst hv
  have HG := Lib.hid hg
  have HR := Lib.hid hr
  clear h hg hr
  go_enter Tryz.func30, Tryz.ntmps30
  go_wp2_with (first
    | (at_lookup; refine opt_look rfl _ _ 34 rfl 48 43 .u32 Tryz.underlying48 Tryz.underlying34 (.slice none 0 0) (Tryz.zeroIDs _) mk nk fk rfl (HK.out.below (by repeat (first | exact bre _ | refine bal ?_ _ | refine bset ?_ (by simp) _ | refine bset ?_ (by simp; omega) _))) id rfl HWF.out ?_; rw [HG.out])
    | (go_at_call 93; refine (cloneI_any _ _ _ (kidsOf ns id) _ (by omega) (HR.out.below (by repeat (first | exact bre _ | refine bal ?_ _ | refine bset ?_ (by simp) _ | refine bset ?_ (by simp; omega) _)))).mono ?_; rintro e w1 ⟨u, rfl, ho, hb⟩; have HO := Lib.hid ho; have HB := Lib.hid hb; clear ho hb))
  exact bodyPost_ret (v := u) (by simp [results, Tryz.results30, go_sem]) rfl ⟨u, rfl, own_lower HO.out (by simp), bstep (by repeat (first | exact bre _ | refine bal ?_ _ | refine bset ?_ (by simp) _ | refine bset ?_ (by simp; omega) _)) HB.out⟩

end Go.Proofs.YtdaedkolpfkdjaaGreat
end

section
namespace Go.Proofs.YtdaedkolpfkdjaaGreat
open Go.RowKit Go.Maps Go.Shelf

set_option maxRecDepth 100000 in
set_option maxHeartbeats 1000000 in
theorem copyup_nil (bd : Nat) (w : World) :
    Calls Tryz.prog 143 #[.map (some bd), .map none] w fun e w' => e = .returned (.tuple #[]) ∧ w' = w.alloc (.mapIter none 0 #[] 0) := by
  have hrg := run_range_nilMap (P := Tryz.prog) w 35 _ _ Tryz.underlying35
  have hnx : ∀ ty, (Instr.next (.pointer (some ⟨w.heap.size, 0, none⟩)) false ty).run Tryz.prog (w.alloc (.mapIter none 0 #[] 0)) = _ := fun ty => run_next_nilMap _ ty 0 0 #[]
  go_enter Tryz.func143, Tryz.ntmps143
  go_wp2
  refine wp_loop_rounds 1 ?_
  rw [rounds_succ]
  go_wp2
  go_end0
  exact ⟨rfl, rfl⟩

set_option maxRecDepth 100000 in
set_option maxHeartbeats 1000000 in
theorem copyup_some (bd bs n : Nat) (f : Int → Option Value) (w : World) (hd : MapIs Tryz.prog 48 .u32 w bd 0 (fun _ => none)) (hs : MapIs Tryz.prog 48 .u32 w bs n f) (hn : n ≤ 1000) (hne : bd ≠ bs) :
    Calls Tryz.prog 143 #[.map (some bd), .map (some bs)] w fun e w' => e = .returned (.tuple #[]) ∧ MapIs Tryz.prog 48 .u32 w' bd n f ∧ w.grownBy w' (some bd) := by
  have hbd := hd.lt
  have hbs := hs.lt
  go_enter Tryz.func143, Tryz.ntmps143
  go_wp2_with (first
    | (at_range; refine map_range rfl _ 35 rfl 48 48 .u32 Tryz.underlying48 Tryz.underlying35 bs n f rfl hs ?_; intro w0 hrg0 hg0 hs0))
  go_frame
  go_loopw [8] (fun _ wr => ∃ (left : Int → Bool) (cnt m : Nat) (fo : Int → Option Value), MapRange Tryz.prog 48 .u32 wr bs w.heap.size n f left cnt ∧ m + cnt ≤ n ∧
      MapIs Tryz.prog 48 .u32 wr bd m fo ∧ (∀ i, left i = false → fo i = f i) ∧ (∀ i, left i = true → fo i = none) ∧ w.grownBy wr (some bd))
    (fun _ wr => wr.rangeLeft bs w.heap.size)
  case atStart =>
    exact ⟨_, _, 0, _, hrg0, by omega, hd.kept hg0 (by simp), (fun i hi => by cases h : f i <;> simp [h] at hi ⊢), (fun i _ => rfl), hg0.but _⟩
  case round =>
    obtain ⟨left, cnt, m, fo, hrg, hcs, hout, hL0, hL1, hgw⟩ := hrel
    go_wp2_with (first
      | (at_next; refine map_next rfl _ rfl 48 .u32 Tryz.underlying48 bs w.heap.size n f left cnt rfl hrg ?_ ?_))
    · intro hc0 hl0
      go_wp2
      go_end0
      have e : fo = f := funext fun i => hL0 i (hl0 i)
      subst e
      have e2 := hout.size_uniq Tryz.underlying48 hrg.is
      subst e2
      exact ⟨rfl, hout, hgw⟩
    · intro i v w1 cnt1 hwf hli hfi hrg1 hlt hg1 hs1 hen
      have hout1 := hout.kept hg1 (fun e => by have := Option.some.inj e; omega)
      have hno : (fo i).isSome = false := by rw [hL1 i hli]; rfl
      go_wp2_with (first
        | (at_mapUpdate; refine map_put rfl _ _ _ 35 rfl 48 48 .u32 Tryz.underlying48 Tryz.underlying35 bd m fo rfl hout1 (by simp only [maxLen]; omega) i v rfl rfl hwf ?_; intro w2 hout2 hg2; rw [hno] at hout2; go_frame))
      have hrg2 := hrg1.kept hg2 (fun e => hne (Option.some.inj e).symm) (fun e => by have := Option.some.inj e; omega)
      go_roundw
      case rel =>
        refine ⟨_, cnt1, m + 1, _, hrg2, by omega, hout2, ?_, ?_, (hgw.andThen hg1 (fun j hj => .inl (by cases hj; exact Nat.le_refl _))).andThen hg2 (fun j hj => .inr hj)⟩
        · intro j hj
          by_cases e : j = i
          · subst e
            simp [hfi]
          · simp only [e, if_false]
            exact hL0 j (by simpa [e] using hj)
        · intro j hj
          simp only [Bool.and_eq_true, Bool.not_eq_true', decide_eq_false_iff_not] at hj
          simp only [hj.2, if_false]
          exact hL1 j hj.1
      case measure => rw [hrg2.left_eq, hrg.left_eq]; exact hlt

theorem copyup_any (bd n : Nat) (mu : Option Nat) (f : Int → Option Value) (w : World) (hd : MapIs Tryz.prog 48 .u32 w bd 0 (fun _ => none)) (hs : MapOpt Tryz.prog 48 .u32 w mu n f) (hn : n ≤ 1000) (hne : mu ≠ some bd) :
    Calls Tryz.prog 143 #[.map (some bd), .map mu] w fun e w' => e = .returned (.tuple #[]) ∧ MapIs Tryz.prog 48 .u32 w' bd n f ∧ w.grownBy w' (some bd) := by
  rcases hs with ⟨rfl, rfl, hf⟩ | ⟨bs, rfl, h⟩
  · refine (copyup_nil bd w).mono fun e w' ⟨he, hw⟩ => ?_
    subst hw
    have e : f = fun _ => none := funext hf
    rw [e]
    exact ⟨he, hd.alloc _, World.grownBy_alloc w _ _⟩
  · exact copyup_some bd bs n f w hd h hn (fun e => hne (by rw [e]))

end Go.Proofs.YtdaedkolpfkdjaaGreat
end
