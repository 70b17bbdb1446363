/-
  The walk of a place's Set, where nothing is wrong.
-/
import Derived.Test.YtbkkecijcijhdaaGreatZA02
section
namespace Go.Proofs.YtbkkecijcijhdaaGreat
open Go.RowKit Go.Maps Go.Shelf

theorem bs_put (bs : Bxs) (id : Int) (b : BX) : (fun j => if j = id then some b.v else bs.f j) = Bxs.f (fun j => if j = id then some b else bs j) := by
  funext j
  by_cases h : j = id <;> simp [Bxs.f, h]

set_option maxRecDepth 100000 in
set_option maxHeartbeats 4000000 in
theorem pset_ok (pv : Value) (n : Nat) (bs : Bxs) (id : Int) (b : BX) (w : World) (hid : 0 ≤ id ∧ id ≤ 4294967295) (hn : n ≤ 1000) (hp : PlaceIs w pv n bs)
    (h1 : id ≠ 1) (h2 : idC id = 0) (hx : coordB b.X = true) (hy : coordB b.Y = true) (hw : sideB b.W = true) (hh : sideB b.H = true) (hg : gravC b.G = 0) (hb : gravC b.B = 0)
    (hS : b.S = true ∨ (b.S = false ∧ decide (b.n = 0) = true)) (hm : (bs id).isSome = true ∨ ((bs id).isSome = false ∧ decide ((64 : Int) ≤ (n : Int)) = false)) (hn0 : ((n : Int) == 0) = false) :
    Calls Tryz.prog 79 #[pv, .int .u32 id, b.v] w fun e w' => ∃ pv', e = .returned (.tuple #[pv', .int .i64 0]) ∧ PlaceIs w' pv' (if (bs id).isSome then n else n + 1) (fun j => if j = id then some b else bs j) ∧ Below w.heap.size w w' := by
  obtain ⟨mb0, rfl, hmo⟩ := hp
  obtain ⟨mb, rfl, hmi⟩ : ∃ mb, mb0 = some mb ∧ MapIs Tryz.prog 49 .u32 w mb n bs.f := by
    rcases hmo with ⟨_, rfl, _⟩ | ⟨mb, rfl, h⟩
    · simp at hn0
    · exact ⟨mb, rfl, h⟩
  have HM := Lib.hid hmo
  have HMI := Lib.hid hmi
  have HWF := Lib.hid (u32_wf hid)
  have HMX := Lib.hid (show n < maxLen by simp only [maxLen]; omega)
  obtain ⟨b0, hb0⟩ : ∃ b0, (bs id).getD zBX = b0 := ⟨_, rfl⟩
  have HG := Lib.hid (show (bs.f id).getD zBX.v = b0.v from (bxv_getD (bs id)).trans (by rw [hb0]))
  have hsf : (bs.f id).isSome = (bs id).isSome := by simp [Bxs.f]
  have HPUT := Lib.hid (bs_put bs id b)
  obtain ⟨bs', hbs'⟩ : ∃ bs' : Bxs, (fun j => if j = id then some b else bs j) = bs' := ⟨_, rfl⟩
  rw [hbs'] at HPUT ⊢
  obtain ⟨hs, hhs⟩ : ∃ hs, (bs id).isSome = hs := ⟨_, rfl⟩
  rw [hhs] at hm hsf ⊢
  have HS := Lib.hid hsf
  obtain ⟨n', hn'⟩ : ∃ n', (if hs = true then n else n + 1) = n' := ⟨_, rfl⟩
  have HN := Lib.hid hn'
  rw [hn']
  obtain ⟨X, Y, W, H, M, G, B, S, A, sn, c⟩ := b
  unfold BX.v at HPUT ⊢
  dsimp only at HPUT hx hy hw hh hg hb hS ⊢
  have d1 : (id == 1) = false := by simp [h1]
  have HCK := Lib.hid h2
  have HX9 := Lib.hid hx
  have HY9 := Lib.hid hy
  have HW9 := Lib.hid hw
  have HH9 := Lib.hid hh
  have HG9 := Lib.hid hg
  have HB9 := Lib.hid hb
  have HBP := Lib.hid ((((Blk.new w 37 #[.map (some mb)]).alloc (.cells #[.int .i64 X, .int .i64 Y, .int .i64 W, .int .i64 H, .bool M, .int .i64 G, .int .i64 B, .bool S, .slice A sn c] 156)).alloc (.cells #[.map none] 37)).alloc (.cells #[.int .i64 b0.X, .int .i64 b0.Y, .int .i64 b0.W, .int .i64 b0.H, .bool b0.M, .int .i64 b0.G, .int .i64 b0.B, .bool b0.S, .slice b0.A b0.n b0.c] 156))
  have HBB := Lib.hid (((blk_new2 w (.cells #[.map (some mb)] 37) 156 #[.int .i64 X, .int .i64 Y, .int .i64 W, .int .i64 H, .bool M, .int .i64 G, .int .i64 B, .bool S, .slice A sn c]).alloc (.cells #[.map none] 37)).alloc (.cells #[.int .i64 b0.X, .int .i64 b0.Y, .int .i64 b0.W, .int .i64 b0.H, .bool b0.M, .int .i64 b0.G, .int .i64 b0.B, .bool b0.S, .slice b0.A b0.n b0.c] 156))
  have HBR := Lib.hid ((blk_new3 w (.cells #[.map (some mb)] 37) (.cells #[.int .i64 X, .int .i64 Y, .int .i64 W, .int .i64 H, .bool M, .int .i64 G, .int .i64 B, .bool S, .slice A sn c] 156) 37 #[.map none]).alloc (.cells #[.int .i64 b0.X, .int .i64 b0.Y, .int .i64 b0.W, .int .i64 b0.H, .bool b0.M, .int .i64 b0.G, .int .i64 b0.B, .bool b0.S, .slice b0.A b0.n b0.c] 156))
  have HBE := Lib.hid (bal (bal (bal (bal (bre w) (.cells #[.map (some mb)] 37)) (.cells #[.int .i64 X, .int .i64 Y, .int .i64 W, .int .i64 H, .bool M, .int .i64 G, .int .i64 B, .bool S, .slice A sn c] 156)) (.cells #[.map none] 37)) (.cells #[.int .i64 b0.X, .int .i64 b0.Y, .int .i64 b0.W, .int .i64 b0.H, .bool b0.M, .int .i64 b0.G, .int .i64 b0.B, .bool b0.S, .slice b0.A b0.n b0.c] 156))
  clear hmo hmi hb0 hhs h1 h2 hx hy hw hh hg hb hsf hn' hbs'
  rcases hS with rfl | ⟨rfl, he⟩
  rotate_left
  have HE9 := Lib.hid he
  clear he
  all_goals rcases hm with rfl | ⟨rfl, hn64⟩
  · go_enter Tryz.func79, Tryz.ntmps79
    go_wp2_with (first
      | (go_at_call 123; refine (check_any _ _ hid).mono ?_; rintro e w' ⟨rfl, rfl⟩; rw [HCK.out])
      | (at_lookup; refine opt_look_ok rfl _ _ 35 rfl 49 156 .u32 Tryz.underlying49 Tryz.underlying35 zBX.v (Tryz.zeroBox _) (some mb) n bs.f rfl (HM.out.below (by repeat (first | exact bre _ | refine bal ?_ _))) id rfl HWF.out ?_; rw [HG.out, HS.out]; unfold BX.v)
      | (go_at_call 125; refine (coord_any _ _).mono ?_; rintro e w' ⟨rfl, rfl⟩; first | rw [HX9.out] | rw [HY9.out])
      | (go_at_call 122; refine (side_any _ _).mono ?_; rintro e w' ⟨rfl, rfl⟩; first | rw [HW9.out] | rw [HH9.out])
      | (go_at_call 126; refine (gcheck_any _ _).mono ?_; rintro e w' ⟨rfl, rfl⟩; first | rw [HG9.out] | rw [HB9.out])
      | (go_at_call 34; refine (empty_any A sn c _).mono ?_; rintro e w13 ⟨rfl, hb13⟩; rw [HE9.out]; have bP := HBP.out.belowS hb13; have bR := HBR.out.belowS hb13; have bB := HBB.out.belowS hb13; have p0 := bP.cellV (i := 0) (v := .map (some mb)) rfl; have HBE := Lib.hid (bstep HBE.out hb13); have HBR := Lib.hid bR; have HBB := Lib.hid bB; clear hb13 bP bR bB)
      | (at_len; refine opt_len rfl _ 35 rfl 49 156 .u32 Tryz.underlying35 (some mb) n bs.f rfl (HM.out.below (by repeat (first | exact HBE.out | exact bre _ | refine bal ?_ _ | refine bset ?_ (by simp) _ | refine bset ?_ (by simp; omega) _))) ?_)
      | (at_len; refine opt_len_if _ 35 rfl 49 156 .u32 Tryz.underlying35 (some mb) n bs.f rfl (HM.out.below (by repeat (first | exact HBE.out | exact bre _ | refine bal ?_ _ | refine bset ?_ (by simp) _ | refine bset ?_ (by simp; omega) _))) (by go_simp) ?_)
      | (go_at_call 127; refine (ptwin_any mb n bs _ (HMI.out.below HBE.out)).mono ?_; rintro e w14 ⟨mb', rfl, hlb, hm', hb'⟩; have bR := HBR.out.belowS hb'; have bB := HBB.out.belowS hb'; have q0 := bB.cellV (i := 0) (v := .int .i64 X) rfl; have q1 := bB.cellV (i := 1) (v := .int .i64 Y) rfl; have q2 := bB.cellV (i := 2) (v := .int .i64 W) rfl; have q3 := bB.cellV (i := 3) (v := .int .i64 H) rfl; have q4 := bB.cellV (i := 4) (v := .bool M) rfl; have q5 := bB.cellV (i := 5) (v := .int .i64 G) rfl; have q6 := bB.cellV (i := 6) (v := .int .i64 B) rfl; have q7 := bB.cellV (i := 7) (v := .bool false) rfl; have q8 := bB.cellV (i := 8) (v := .slice A sn c) rfl; have rl := bR.lt; have hne : w.heap.size + 1 + 1 < mb' := Nat.lt_of_lt_of_le HBR.out.lt hlb; have hlt : mb' < w14.heap.size := hm'.lt; have rl1 : w.heap.size + 1 < w14.heap.size := by omega
         have bO := Blk.new w14 37 #[.map (some mb')]; have HBO := Lib.hid bO; have HBE := Lib.hid (bstep HBE.out hb'); have HMI := Lib.hid (hm'.alloc (.cells #[.map (some mb')] 37)); have HBR := Lib.hid (bR.alloc (.cells #[.map (some mb')] 37)); clear hb' bO bB bR hm')
      | (at_mapUpdate; refine map_put rfl _ _ _ 35 rfl 49 156 .u32 Tryz.underlying49 Tryz.underlying35 mb' n bs.f rfl HMI.out HMX.out id (.agg #[.int .i64 X, .int .i64 Y, .int .i64 W, .int .i64 H, .bool M, .int .i64 G, .int .i64 B, .bool false, .slice A sn c]) rfl rfl HWF.out ?_; rw [HPUT.out, HS.out]; (first | rw [HN.out] | rw [show (if true = true then n else n + 1) = n' from (if_pos rfl).trans ((if_pos trivial).symm.trans HN.out)]); intro w16 hm16 hg16; have bR := HBR.out.grown hg16 (by intro e; injection e with e; omega); have bO := HBO.out.grown hg16 (by intro e; injection e with e; omega); have o0 := bO.cellV (i := 0) (v := .map (some mb')) rfl; have r0 := bR.cellV (i := 0) (v := .map none) rfl; have rf := bR.frozen 0; have rl := bR.lt; have HBE := Lib.hid ((bal HBE.out _).grown hg16 (bal HBE.out _).size (fun q e => by cases e; omega)); have HMI := Lib.hid hm16; have HBR := Lib.hid bR; clear hm16 hg16 bR bO))
    have hr := (HBR.out.set_ 0 (.map (some mb'))).cellV (i := 0) (v := .map (some mb')) rfl
    have hmz := HMI.out.setCell (a := ⟨w.heap.size + 1 + 1, 0, none⟩) (by show mb' ≠ w.heap.size + 1 + 1; omega) (.map (some mb'))
    exact bodyPost_ret (v := .tuple #[.agg #[.map (some mb')], .int .i64 0]) (by simp [results, Tryz.results79, go_sem, hr]) rfl ⟨_, rfl, ⟨_, rfl, .inr ⟨_, rfl, hmz⟩⟩, bset HBE.out (by show w.heap.size ≤ w.heap.size + 1 + 1; omega) _⟩
  · go_enter Tryz.func79, Tryz.ntmps79
    go_wp2_with (first
      | (go_at_call 123; refine (check_any _ _ hid).mono ?_; rintro e w' ⟨rfl, rfl⟩; rw [HCK.out])
      | (at_lookup; refine opt_look_ok rfl _ _ 35 rfl 49 156 .u32 Tryz.underlying49 Tryz.underlying35 zBX.v (Tryz.zeroBox _) (some mb) n bs.f rfl (HM.out.below (by repeat (first | exact bre _ | refine bal ?_ _))) id rfl HWF.out ?_; rw [HG.out, HS.out]; unfold BX.v)
      | (go_at_call 125; refine (coord_any _ _).mono ?_; rintro e w' ⟨rfl, rfl⟩; first | rw [HX9.out] | rw [HY9.out])
      | (go_at_call 122; refine (side_any _ _).mono ?_; rintro e w' ⟨rfl, rfl⟩; first | rw [HW9.out] | rw [HH9.out])
      | (go_at_call 126; refine (gcheck_any _ _).mono ?_; rintro e w' ⟨rfl, rfl⟩; first | rw [HG9.out] | rw [HB9.out])
      | (go_at_call 34; refine (empty_any A sn c _).mono ?_; rintro e w13 ⟨rfl, hb13⟩; rw [HE9.out]; have bP := HBP.out.belowS hb13; have bR := HBR.out.belowS hb13; have bB := HBB.out.belowS hb13; have p0 := bP.cellV (i := 0) (v := .map (some mb)) rfl; have HBE := Lib.hid (bstep HBE.out hb13); have HBR := Lib.hid bR; have HBB := Lib.hid bB; clear hb13 bP bR bB)
      | (at_len; refine opt_len rfl _ 35 rfl 49 156 .u32 Tryz.underlying35 (some mb) n bs.f rfl (HM.out.below (by repeat (first | exact HBE.out | exact bre _ | refine bal ?_ _ | refine bset ?_ (by simp) _ | refine bset ?_ (by simp; omega) _))) ?_)
      | (at_len; refine opt_len_if _ 35 rfl 49 156 .u32 Tryz.underlying35 (some mb) n bs.f rfl (HM.out.below (by repeat (first | exact HBE.out | exact bre _ | refine bal ?_ _ | refine bset ?_ (by simp) _ | refine bset ?_ (by simp; omega) _))) (by go_simp) ?_)
      | (go_at_call 127; refine (ptwin_any mb n bs _ (HMI.out.below HBE.out)).mono ?_; rintro e w14 ⟨mb', rfl, hlb, hm', hb'⟩; have bR := HBR.out.belowS hb'; have bB := HBB.out.belowS hb'; have q0 := bB.cellV (i := 0) (v := .int .i64 X) rfl; have q1 := bB.cellV (i := 1) (v := .int .i64 Y) rfl; have q2 := bB.cellV (i := 2) (v := .int .i64 W) rfl; have q3 := bB.cellV (i := 3) (v := .int .i64 H) rfl; have q4 := bB.cellV (i := 4) (v := .bool M) rfl; have q5 := bB.cellV (i := 5) (v := .int .i64 G) rfl; have q6 := bB.cellV (i := 6) (v := .int .i64 B) rfl; have q7 := bB.cellV (i := 7) (v := .bool false) rfl; have q8 := bB.cellV (i := 8) (v := .slice A sn c) rfl; have rl := bR.lt; have hne : w.heap.size + 1 + 1 < mb' := Nat.lt_of_lt_of_le HBR.out.lt hlb; have hlt : mb' < w14.heap.size := hm'.lt; have rl1 : w.heap.size + 1 < w14.heap.size := by omega
         have bO := Blk.new w14 37 #[.map (some mb')]; have HBO := Lib.hid bO; have HBE := Lib.hid (bstep HBE.out hb'); have HMI := Lib.hid (hm'.alloc (.cells #[.map (some mb')] 37)); have HBR := Lib.hid (bR.alloc (.cells #[.map (some mb')] 37)); clear hb' bO bB bR hm')
      | (at_mapUpdate; refine map_put rfl _ _ _ 35 rfl 49 156 .u32 Tryz.underlying49 Tryz.underlying35 mb' n bs.f rfl HMI.out HMX.out id (.agg #[.int .i64 X, .int .i64 Y, .int .i64 W, .int .i64 H, .bool M, .int .i64 G, .int .i64 B, .bool false, .slice A sn c]) rfl rfl HWF.out ?_; rw [HPUT.out, HS.out]; (first | rw [HN.out] | rw [show (if true = true then n else n + 1) = n' from (if_pos rfl).trans ((if_pos trivial).symm.trans HN.out)]); intro w16 hm16 hg16; have bR := HBR.out.grown hg16 (by intro e; injection e with e; omega); have bO := HBO.out.grown hg16 (by intro e; injection e with e; omega); have o0 := bO.cellV (i := 0) (v := .map (some mb')) rfl; have r0 := bR.cellV (i := 0) (v := .map none) rfl; have rf := bR.frozen 0; have rl := bR.lt; have HBE := Lib.hid ((bal HBE.out _).grown hg16 (bal HBE.out _).size (fun q e => by cases e; omega)); have HMI := Lib.hid hm16; have HBR := Lib.hid bR; clear hm16 hg16 bR bO))
    have hr := (HBR.out.set_ 0 (.map (some mb'))).cellV (i := 0) (v := .map (some mb')) rfl
    have hmz := HMI.out.setCell (a := ⟨w.heap.size + 1 + 1, 0, none⟩) (by show mb' ≠ w.heap.size + 1 + 1; omega) (.map (some mb'))
    exact bodyPost_ret (v := .tuple #[.agg #[.map (some mb')], .int .i64 0]) (by simp [results, Tryz.results79, go_sem, hr]) rfl ⟨_, rfl, ⟨_, rfl, .inr ⟨_, rfl, hmz⟩⟩, bset HBE.out (by show w.heap.size ≤ w.heap.size + 1 + 1; omega) _⟩
  · go_enter Tryz.func79, Tryz.ntmps79
    go_wp2_with (first
      | (go_at_call 123; refine (check_any _ _ hid).mono ?_; rintro e w' ⟨rfl, rfl⟩; rw [HCK.out])
      | (at_lookup; refine opt_look_ok rfl _ _ 35 rfl 49 156 .u32 Tryz.underlying49 Tryz.underlying35 zBX.v (Tryz.zeroBox _) (some mb) n bs.f rfl (HM.out.below (by repeat (first | exact bre _ | refine bal ?_ _))) id rfl HWF.out ?_; rw [HG.out, HS.out]; unfold BX.v)
      | (go_at_call 125; refine (coord_any _ _).mono ?_; rintro e w' ⟨rfl, rfl⟩; first | rw [HX9.out] | rw [HY9.out])
      | (go_at_call 122; refine (side_any _ _).mono ?_; rintro e w' ⟨rfl, rfl⟩; first | rw [HW9.out] | rw [HH9.out])
      | (go_at_call 126; refine (gcheck_any _ _).mono ?_; rintro e w' ⟨rfl, rfl⟩; first | rw [HG9.out] | rw [HB9.out])
      | (at_len; refine opt_len rfl _ 35 rfl 49 156 .u32 Tryz.underlying35 (some mb) n bs.f rfl (HM.out.below (by repeat (first | exact HBE.out | exact bre _ | refine bal ?_ _ | refine bset ?_ (by simp) _ | refine bset ?_ (by simp; omega) _))) ?_)
      | (at_len; refine opt_len_if _ 35 rfl 49 156 .u32 Tryz.underlying35 (some mb) n bs.f rfl (HM.out.below (by repeat (first | exact HBE.out | exact bre _ | refine bal ?_ _ | refine bset ?_ (by simp) _ | refine bset ?_ (by simp; omega) _))) (by go_simp) ?_)
      | (go_at_call 127; refine (ptwin_any mb n bs _ (HMI.out.below HBE.out)).mono ?_; rintro e w14 ⟨mb', rfl, hlb, hm', hb'⟩; have bR := HBR.out.belowS hb'; have bB := HBB.out.belowS hb'; have q0 := bB.cellV (i := 0) (v := .int .i64 X) rfl; have q1 := bB.cellV (i := 1) (v := .int .i64 Y) rfl; have q2 := bB.cellV (i := 2) (v := .int .i64 W) rfl; have q3 := bB.cellV (i := 3) (v := .int .i64 H) rfl; have q4 := bB.cellV (i := 4) (v := .bool M) rfl; have q5 := bB.cellV (i := 5) (v := .int .i64 G) rfl; have q6 := bB.cellV (i := 6) (v := .int .i64 B) rfl; have q7 := bB.cellV (i := 7) (v := .bool true) rfl; have q8 := bB.cellV (i := 8) (v := .slice A sn c) rfl; have rl := bR.lt; have hne : w.heap.size + 1 + 1 < mb' := Nat.lt_of_lt_of_le HBR.out.lt hlb; have hlt : mb' < w14.heap.size := hm'.lt; have rl1 : w.heap.size + 1 < w14.heap.size := by omega
         have bO := Blk.new w14 37 #[.map (some mb')]; have HBO := Lib.hid bO; have HBE := Lib.hid (bstep HBE.out hb'); have HMI := Lib.hid (hm'.alloc (.cells #[.map (some mb')] 37)); have HBR := Lib.hid (bR.alloc (.cells #[.map (some mb')] 37)); clear hb' bO bB bR hm')
      | (at_mapUpdate; refine map_put rfl _ _ _ 35 rfl 49 156 .u32 Tryz.underlying49 Tryz.underlying35 mb' n bs.f rfl HMI.out HMX.out id (.agg #[.int .i64 X, .int .i64 Y, .int .i64 W, .int .i64 H, .bool M, .int .i64 G, .int .i64 B, .bool true, .slice A sn c]) rfl rfl HWF.out ?_; rw [HPUT.out, HS.out]; (first | rw [HN.out] | rw [show (if true = true then n else n + 1) = n' from (if_pos rfl).trans ((if_pos trivial).symm.trans HN.out)]); intro w16 hm16 hg16; have bR := HBR.out.grown hg16 (by intro e; injection e with e; omega); have bO := HBO.out.grown hg16 (by intro e; injection e with e; omega); have o0 := bO.cellV (i := 0) (v := .map (some mb')) rfl; have r0 := bR.cellV (i := 0) (v := .map none) rfl; have rf := bR.frozen 0; have rl := bR.lt; have HBE := Lib.hid ((bal HBE.out _).grown hg16 (bal HBE.out _).size (fun q e => by cases e; omega)); have HMI := Lib.hid hm16; have HBR := Lib.hid bR; clear hm16 hg16 bR bO))
    have hr := (HBR.out.set_ 0 (.map (some mb'))).cellV (i := 0) (v := .map (some mb')) rfl
    have hmz := HMI.out.setCell (a := ⟨w.heap.size + 1 + 1, 0, none⟩) (by show mb' ≠ w.heap.size + 1 + 1; omega) (.map (some mb'))
    exact bodyPost_ret (v := .tuple #[.agg #[.map (some mb')], .int .i64 0]) (by simp [results, Tryz.results79, go_sem, hr]) rfl ⟨_, rfl, ⟨_, rfl, .inr ⟨_, rfl, hmz⟩⟩, bset HBE.out (by show w.heap.size ≤ w.heap.size + 1 + 1; omega) _⟩
  · go_enter Tryz.func79, Tryz.ntmps79
    go_wp2_with (first
      | (go_at_call 123; refine (check_any _ _ hid).mono ?_; rintro e w' ⟨rfl, rfl⟩; rw [HCK.out])
      | (at_lookup; refine opt_look_ok rfl _ _ 35 rfl 49 156 .u32 Tryz.underlying49 Tryz.underlying35 zBX.v (Tryz.zeroBox _) (some mb) n bs.f rfl (HM.out.below (by repeat (first | exact bre _ | refine bal ?_ _))) id rfl HWF.out ?_; rw [HG.out, HS.out]; unfold BX.v)
      | (go_at_call 125; refine (coord_any _ _).mono ?_; rintro e w' ⟨rfl, rfl⟩; first | rw [HX9.out] | rw [HY9.out])
      | (go_at_call 122; refine (side_any _ _).mono ?_; rintro e w' ⟨rfl, rfl⟩; first | rw [HW9.out] | rw [HH9.out])
      | (go_at_call 126; refine (gcheck_any _ _).mono ?_; rintro e w' ⟨rfl, rfl⟩; first | rw [HG9.out] | rw [HB9.out])
      | (at_len; refine opt_len rfl _ 35 rfl 49 156 .u32 Tryz.underlying35 (some mb) n bs.f rfl (HM.out.below (by repeat (first | exact HBE.out | exact bre _ | refine bal ?_ _ | refine bset ?_ (by simp) _ | refine bset ?_ (by simp; omega) _))) ?_)
      | (at_len; refine opt_len_if _ 35 rfl 49 156 .u32 Tryz.underlying35 (some mb) n bs.f rfl (HM.out.below (by repeat (first | exact HBE.out | exact bre _ | refine bal ?_ _ | refine bset ?_ (by simp) _ | refine bset ?_ (by simp; omega) _))) (by go_simp) ?_)
      | (go_at_call 127; refine (ptwin_any mb n bs _ (HMI.out.below HBE.out)).mono ?_; rintro e w14 ⟨mb', rfl, hlb, hm', hb'⟩; have bR := HBR.out.belowS hb'; have bB := HBB.out.belowS hb'; have q0 := bB.cellV (i := 0) (v := .int .i64 X) rfl; have q1 := bB.cellV (i := 1) (v := .int .i64 Y) rfl; have q2 := bB.cellV (i := 2) (v := .int .i64 W) rfl; have q3 := bB.cellV (i := 3) (v := .int .i64 H) rfl; have q4 := bB.cellV (i := 4) (v := .bool M) rfl; have q5 := bB.cellV (i := 5) (v := .int .i64 G) rfl; have q6 := bB.cellV (i := 6) (v := .int .i64 B) rfl; have q7 := bB.cellV (i := 7) (v := .bool true) rfl; have q8 := bB.cellV (i := 8) (v := .slice A sn c) rfl; have rl := bR.lt; have hne : w.heap.size + 1 + 1 < mb' := Nat.lt_of_lt_of_le HBR.out.lt hlb; have hlt : mb' < w14.heap.size := hm'.lt; have rl1 : w.heap.size + 1 < w14.heap.size := by omega
         have bO := Blk.new w14 37 #[.map (some mb')]; have HBO := Lib.hid bO; have HBE := Lib.hid (bstep HBE.out hb'); have HMI := Lib.hid (hm'.alloc (.cells #[.map (some mb')] 37)); have HBR := Lib.hid (bR.alloc (.cells #[.map (some mb')] 37)); clear hb' bO bB bR hm')
      | (at_mapUpdate; refine map_put rfl _ _ _ 35 rfl 49 156 .u32 Tryz.underlying49 Tryz.underlying35 mb' n bs.f rfl HMI.out HMX.out id (.agg #[.int .i64 X, .int .i64 Y, .int .i64 W, .int .i64 H, .bool M, .int .i64 G, .int .i64 B, .bool true, .slice A sn c]) rfl rfl HWF.out ?_; rw [HPUT.out, HS.out]; (first | rw [HN.out] | rw [show (if true = true then n else n + 1) = n' from (if_pos rfl).trans ((if_pos trivial).symm.trans HN.out)]); intro w16 hm16 hg16; have bR := HBR.out.grown hg16 (by intro e; injection e with e; omega); have bO := HBO.out.grown hg16 (by intro e; injection e with e; omega); have o0 := bO.cellV (i := 0) (v := .map (some mb')) rfl; have r0 := bR.cellV (i := 0) (v := .map none) rfl; have rf := bR.frozen 0; have rl := bR.lt; have HBE := Lib.hid ((bal HBE.out _).grown hg16 (bal HBE.out _).size (fun q e => by cases e; omega)); have HMI := Lib.hid hm16; have HBR := Lib.hid bR; clear hm16 hg16 bR bO))
    have hr := (HBR.out.set_ 0 (.map (some mb'))).cellV (i := 0) (v := .map (some mb')) rfl
    have hmz := HMI.out.setCell (a := ⟨w.heap.size + 1 + 1, 0, none⟩) (by show mb' ≠ w.heap.size + 1 + 1; omega) (.map (some mb'))
    exact bodyPost_ret (v := .tuple #[.agg #[.map (some mb')], .int .i64 0]) (by simp [results, Tryz.results79, go_sem, hr]) rfl ⟨_, rfl, ⟨_, rfl, .inr ⟨_, rfl, hmz⟩⟩, bset HBE.out (by show w.heap.size ≤ w.heap.size + 1 + 1; omega) _⟩

end Go.Proofs.YtbkkecijcijhdaaGreat
end
