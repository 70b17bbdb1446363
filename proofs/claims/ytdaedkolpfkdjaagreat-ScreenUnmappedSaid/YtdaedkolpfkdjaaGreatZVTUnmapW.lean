/-
  The walk of ScreenUnmapped.
-/
import Derived.Test.YtdaedkolpfkdjaaGreatZV30
import Derived.Test.YtdaedkolpfkdjaaGreatZV35
section
namespace Go.Proofs.YtdaedkolpfkdjaaGreat
open Go.RowKit Go.Maps Go.Shelf
set_option maxRecDepth 100000 in
set_option maxHeartbeats 8000000 in
theorem screenUnmapped_any (A : Option Addr) (n c : Nat) (ps : List PN34) (p q : PN34) (w : World) (hn : n ≤ maxLen) (hsz : n * 40 ≤ 140737488351232) (hr : RdP34 w A n ps) (hok : ∀ p ∈ ps, p.ok) (hp : p.ok) (hq : q.ok) (hrp : RdR w p.A p.n p.sh) (hrq : RdR w q.A q.n q.sh) :
 Calls Tryz.prog 6 #[.slice A n c, .agg #[.int .u8 p.U, .int .i8 p.X, .int .i8 p.Y, .int .u8 p.W, .int .u8 p.H, .bool p.M, .bool p.S, .slice p.A p.n p.c, .int .u8 p.I], .agg #[.int .u8 q.U, .int .i8 q.X, .int .i8 q.Y, .int .u8 q.W, .int .u8 q.H, .bool q.M, .bool q.S, .slice q.A q.n q.c, .int .u8 q.I]] w fun e w' => e = .returned (.bool true) ∧ Below w.heap.size w w' := by
 have xb := bal (bal (bre w) (.cells #[.int .u8 p.U, .int .i8 p.X, .int .i8 p.Y, .int .u8 p.W, .int .u8 p.H, .bool p.M, .bool p.S, .slice p.A p.n p.c, .int .u8 p.I] 85)) (.cells #[.int .u8 q.U, .int .i8 q.X, .int .i8 q.Y, .int .u8 q.W, .int .u8 q.H, .bool q.M, .bool q.S, .slice q.A q.n q.c, .int .u8 q.I] 85)
 have x4 := (Blk.new w 85 #[.int .u8 p.U, .int .i8 p.X, .int .i8 p.Y, .int .u8 p.W, .int .u8 p.H, .bool p.M, .bool p.S, .slice p.A p.n p.c, .int .u8 p.I]).alloc (.cells #[.int .u8 q.U, .int .i8 q.X, .int .i8 q.Y, .int .u8 q.W, .int .u8 q.H, .bool q.M, .bool q.S, .slice q.A q.n q.c, .int .u8 q.I] 85)
 have x5 := blk_new2 w (.cells #[.int .u8 p.U, .int .i8 p.X, .int .i8 p.Y, .int .u8 p.W, .int .u8 p.H, .bool p.M, .bool p.S, .slice p.A p.n p.c, .int .u8 p.I] 85) 85 #[.int .u8 q.U, .int .i8 q.X, .int .i8 q.Y, .int .u8 q.W, .int .u8 q.H, .bool q.M, .bool q.S, .slice q.A q.n q.c, .int .u8 q.I]
 have hlen := hr.recs.1
 go_enter Tryz.func6, Tryz.ntmps6
 go_upto_region 1 with fail
 obtain ⟨X0, hX⟩ : ∃ X, (w.alloc (.cells #[.int .u8 p.U, .int .i8 p.X, .int .i8 p.Y, .int .u8 p.W, .int .u8 p.H, .bool p.M, .bool p.S, .slice p.A p.n p.c, .int .u8 p.I] 85)).alloc (.cells #[.int .u8 q.U, .int .i8 q.X, .int .i8 q.Y, .int .u8 q.W, .int .u8 q.H, .bool q.M, .bool q.S, .slice q.A q.n q.c, .int .u8 q.I] 85) = X := ⟨_, rfl⟩
 rw [hX] at xb x4 x5 ⊢
 obtain ⟨g4, hg4⟩ : ∃ g, w.heap.size = g := ⟨_, rfl⟩
 obtain ⟨g5, hg5⟩ : ∃ g, w.heap.size + 1 = g := ⟨_, rfl⟩
 rw [hg5] at x5 ⊢
 have HG := Lib.hid (show w.heap.size ≤ g4 ∧ w.heap.size ≤ g5 ∧ g4 ≠ g5 by omega)
 rw [hg4] at x4 ⊢
 have h0 := x4.set_ 5 (.bool false)
 have y5 := x5.far (p := ⟨g4, 5, none⟩) HG.out.2.2.symm (.bool false)
 have y4 := h0.far (p := ⟨g5, 5, none⟩) HG.out.2.2 (.bool false)
 have h1 := y5.set_ 5 (.bool false)
 have yb := bset (p := ⟨g5, 5, none⟩) (bset (p := ⟨g4, 5, none⟩) xb HG.out.1 (.bool false)) HG.out.2.1 (.bool false)
 have c0 := x4.cellV (i := 5) (v := .bool p.M) rfl
 have c1 := x5.cellV (i := 5) (v := .bool q.M) rfl
 have f0 := x4.frozen 5
 have f1 := x5.frozen 5
 have l0 := x4.lt
 have l1 := x5.lt
 have ne := HG.out.2.2
 go_upto_region 2 with fail
 clear c0 c1 f0 f1 l0 l1 x4 x5 xb y5 h0
 obtain ⟨X1, hX1⟩ : ∃ X, (X0.setCell ⟨g4, 5, none⟩ (.bool false)).setCell ⟨g5, 5, none⟩ (.bool false) = X := ⟨_, rfl⟩
 rw [hX1] at y4 h1 yb ⊢
 have y4 : Blk X1 g4 85 #[.int .u8 p.U, .int .i8 p.X, .int .i8 p.Y, .int .u8 p.W, .int .u8 p.H, .bool false, .bool p.S, .slice p.A p.n p.c, .int .u8 p.I] := y4
 have h1 : Blk X1 g5 85 #[.int .u8 q.U, .int .i8 q.X, .int .i8 q.Y, .int .u8 q.W, .int .u8 q.H, .bool false, .bool q.S, .slice q.A q.n q.c, .int .u8 q.I] := h1
 have c0 := y4.cellV (i := 0) (v := .int .u8 p.U) rfl
 have c1 := h1.cellV (i := 0) (v := .int .u8 q.U) rfl
 have f1 := h1.frozen 0
 have l0 := y4.lt
 have l1 := h1.lt
 have z4 := y4.far (p := ⟨g5, 0, none⟩) HG.out.2.2 (.int .u8 p.U)
 have z5 := h1.set_ 0 (.int .u8 p.U)
 have zb := bset (p := ⟨g5, 0, none⟩) yb HG.out.2.1 (.int .u8 p.U)
 go_upto_region 3 with fail
 obtain ⟨X2, hX2⟩ : ∃ X, X1.setCell ⟨g5, 0, none⟩ (.int .u8 p.U) = X := ⟨_, rfl⟩
 rw [hX2] at z4 z5 zb ⊢
 have z5 : Blk X2 g5 85 #[.int .u8 p.U, .int .i8 q.X, .int .i8 q.Y, .int .u8 q.W, .int .u8 q.H, .bool false, .bool q.S, .slice q.A q.n q.c, .int .u8 q.I] := z5
 have HB := Lib.hid zb
 have K4 := Lib.hid z4
 have K5 := Lib.hid z5
 have HR := Lib.hid (hr.below zb)
 have HP := Lib.hid (hrp.below zb)
 have HQ := Lib.hid (hrq.below zb)
 have HLN := Lib.hid hlen
 clear hX hX1 hX2 hg4 hg5 ne c0 c1 f1 l0 l1 z4 z5 zb y4 h1 yb hr hrp hrq hlen
 by_cases h0 : n = 0
 ·
  have i0 : (n : Int) = 0 := by omega
  as_aux_lemma =>
   go_wp2_with (go_at_call 34; refine (awake34_any _).mono ?_; rintro e w9 ⟨rfl, hb9⟩; have HB9 := Lib.hid (bstep HB.out hb9); clear hb9)
   go_ret
   exact ⟨rfl, HB9.out⟩
 have i0 : ¬ (n : Int) = 0 := by omega
 have n40 : (n + 1) * 40 ≤ 140737488355328 ∧ n + 1 ≤ maxLen := by simp only [maxLen]; omega
 have HOK2 := Lib.hid (show ∀ d ∈ ps ++ [p.off p.U], d.ok from fun d hd => by
  rcases List.mem_append.1 hd with h | h
  ·
   exact hok d h
  ·
   rw [List.mem_singleton] at h
   subst h
   exact PN34.off_ok hp hp.u)
 have HOK3 := Lib.hid (show ∀ d ∈ ps ++ [q.off p.U], d.ok from fun d hd => by
  rcases List.mem_append.1 hd with h | h
  ·
   exact hok d h
  ·
   rw [List.mem_singleton] at h
   subst h
   exact PN34.off_ok hq hp.u)
 obtain ⟨bl, off, rfl, _, _⟩ := HR.out.recs.2 (by omega)
 go_wp2_with fail
 refine (make34_any (some ⟨bl, off, none⟩) n c ps _ hn HR.out hok).mono ?_
 rintro e w1 ⟨ok1, m1, m2, m3, m4, A1, n1, c1, rfl, hm, hb1⟩
 have HM1 := Lib.hid (show MadeIf ok1 w1 m1 m2 m3 m4 A1 n1 c1 ps from hm)
 clear hm
 replace HR := Lib.hid (HR.out.below hb1)
 replace HP := Lib.hid (HP.out.below hb1)
 replace HQ := Lib.hid (HQ.out.below hb1)
 replace K4 := Lib.hid (K4.out.belowS hb1)
 replace K5 := Lib.hid (K5.out.belowS hb1)
 replace HB := Lib.hid (bstep HB.out hb1)
 clear hb1
 have ha := bal (bre w1) (.cells #[.map m1, .map m2, .map m3, .map m4, .slice A1 n1 c1] 70)
 have xk := Blk.new w1 70 #[.map m1, .map m2, .map m3, .map m4, .slice A1 n1 c1]
 have z := bstep HB.out ha
 have z0 := HR.out.below ha
 have z1 := HP.out.below ha
 have z2 := HQ.out.below ha
 have z3 := K4.out.belowS ha
 have z4 := K5.out.belowS ha
 have z5 := HM1.out.below ha
 clear ha
 go_upto_region 6 with fail
 obtain ⟨g7, hg⟩ : ∃ g, w1.heap.size = g := ⟨_, rfl⟩
 obtain ⟨V1, hX⟩ : ∃ X, w1.alloc (.cells #[.map m1, .map m2, .map m3, .map m4, .slice A1 n1 c1] 70) = X := ⟨_, rfl⟩
 rw [hX] at z xk z0 z1 z2 z3 z4 z5 ⊢
 rw [hg] at xk ⊢
 replace HB := Lib.hid z
 have KM1 := Lib.hid xk
 replace HR := Lib.hid z0
 replace HP := Lib.hid z1
 replace HQ := Lib.hid z2
 replace K4 := Lib.hid z3
 replace K5 := Lib.hid z4
 replace HM1 := Lib.hid z5
 clear z xk hX hg z0 z1 z2 z3 z4 z5
 obtain ⟨ie, hie, hz0, hz1, hz2⟩ := info_parts Tryz.infoP34
 obtain ⟨je, hje, hj0⟩ := zero_parts Tryz.zeroM34
 obtain ⟨ge0, hge, hk0⟩ := zero_parts Tryz.zeroG34
 go_cut [9, 10] from 35 to 44 (fun s9 s10 wx => ∃ (b : Bool) (m1 m2 m3 m4 : Option Nat) (A0 : Option Addr) (n0 c0 g : Nat), s9 = .pointer (some ⟨g, 0, none⟩) ∧ s10 = .bool b ∧ MadeIf b wx m1 m2 m3 m4 A0 n0 c0 (ps ++ [p.off p.U]) ∧ Blk wx g 70 #[.map m1, .map m2, .map m3, .map m4, .slice A0 n0 c0] ∧ Below V1.heap.size V1 wx)
 case first =>
  as_aux_lemma =>
   have HBW0 : Below V1.heap.size V1 V1.drew := (bre V1).drew
   have KW := Lib.hid (fun (W' : World) (h : Below V1.heap.size V1 W') => show (fun w' => w'.cell? ⟨g4, 0, none⟩ = some (.int .u8 p.U) ∧ w'.cell? ⟨g4, 1, none⟩ = some (.int .i8 p.X) ∧ w'.cell? ⟨g4, 2, none⟩ = some (.int .i8 p.Y) ∧ w'.cell? ⟨g4, 3, none⟩ = some (.int .u8 p.W) ∧ w'.cell? ⟨g4, 4, none⟩ = some (.int .u8 p.H) ∧ w'.cell? ⟨g4, 5, none⟩ = some (.bool false) ∧ w'.cell? ⟨g4, 6, none⟩ = some (.bool p.S) ∧ w'.cell? ⟨g4, 7, none⟩ = some (.slice p.A p.n p.c) ∧ w'.cell? ⟨g4, 8, none⟩ = some (.int .u8 p.I)) W' from ⟨(K4.out.belowS h).cellV (i := 0) rfl, (K4.out.belowS h).cellV (i := 1) rfl, (K4.out.belowS h).cellV (i := 2) rfl, (K4.out.belowS h).cellV (i := 3) rfl, (K4.out.belowS h).cellV (i := 4) rfl, (K4.out.belowS h).cellV (i := 5) rfl, (K4.out.belowS h).cellV (i := 6) rfl, (K4.out.belowS h).cellV (i := 7) rfl, (K4.out.belowS h).cellV (i := 8) rfl⟩)
   refine wp_region_noPanic ?_
   refine wp_region_held_drew (S := (fun w' => w'.cell? ⟨g4, 0, none⟩ = some (.int .u8 p.U) ∧ w'.cell? ⟨g4, 1, none⟩ = some (.int .i8 p.X) ∧ w'.cell? ⟨g4, 2, none⟩ = some (.int .i8 p.Y) ∧ w'.cell? ⟨g4, 3, none⟩ = some (.int .u8 p.W) ∧ w'.cell? ⟨g4, 4, none⟩ = some (.int .u8 p.H) ∧ w'.cell? ⟨g4, 5, none⟩ = some (.bool false) ∧ w'.cell? ⟨g4, 6, none⟩ = some (.bool p.S) ∧ w'.cell? ⟨g4, 7, none⟩ = some (.slice p.A p.n p.c) ∧ w'.cell? ⟨g4, 8, none⟩ = some (.int .u8 p.I))) (by kernel_rfl) (KW.out _ HBW0) (fun hHeld => ?_)
   have HBW := Lib.hid HBW0
   clear HBW0
   generalize V1.drew = wn at HBW hHeld ⊢
   iterate 7 (all_goals (repeat (first
    | (refine Tr.take_at 1 37 (.slice (some ⟨bl, off, none⟩) n c) rfl rfl (by kernel_rfl) (by kernel_rfl) (by decide +kernel) (fun _ _ _ h => h) (Or.inl ⟨by rfl, ?_⟩) (by assumption) ?_; (focus (intro W0 hSw; (try dsimp only at hSw); go_simp)); simp only [List.set_cons_zero, List.set_cons_succ])
    | (refine Tr.take_at 3 39 (.agg #[.int .u8 p.U, .int .i8 p.X, .int .i8 p.Y, .int .u8 p.W, .int .u8 p.H, .bool false, .bool p.S, .slice p.A p.n p.c, .int .u8 p.I]) rfl rfl (by kernel_rfl) (by kernel_rfl) (by decide +kernel) (fun _ _ _ h => h) (Or.inl ⟨by rfl, ?_⟩) (by assumption) ?_; (focus (intro W0 hSw; (try dsimp only at hSw); go_simp)); simp only [List.set_cons_zero, List.set_cons_succ])
    | (refine Tr.take_at 7 35 (.tuple #[.agg #[.map m5, .map m6, .map m7, .map m8, .slice A2 n2 c2], .bool b2]) rfl rfl (by kernel_rfl) (by kernel_rfl) (by decide +kernel) (fun _ _ _ h => h) (Or.inl ⟨by rfl, ?_⟩) (by assumption) ?_; (focus (intro W0 hSw; (try dsimp only at hSw); go_simp)); simp only [List.set_cons_zero, List.set_cons_succ])
    | (refine Tr.take_at 8 43 (.agg #[.map m5, .map m6, .map m7, .map m8, .slice A2 n2 c2]) rfl rfl (by kernel_rfl) (by kernel_rfl) (by decide +kernel) (fun _ _ _ h => h) (Or.inl ⟨by rfl, ?_⟩) (by assumption) ?_; (focus (intro W0 hSw; (try dsimp only at hSw); go_simp)); simp only [List.set_cons_zero, List.set_cons_succ])
    | (refine Tr.take_at 9 44 (.bool b2) rfl rfl (by kernel_rfl) (by kernel_rfl) (by decide +kernel) (fun _ _ _ h => h) (Or.inl ⟨by rfl, ?_⟩) (by assumption) ?_; (focus (intro W0 hSw; (try dsimp only at hSw); go_simp)); simp only [List.set_cons_zero, List.set_cons_succ])
    | (refine Tr.take_at 12 10 (.bool b2) rfl rfl (by kernel_rfl) (by kernel_rfl) (by decide +kernel) (fun _ _ _ h => h) (Or.inl ⟨by rfl, ?_⟩) (by assumption) ?_; (focus (intro W0 hSw; (try dsimp only at hSw); go_simp)); simp only [List.set_cons_zero, List.set_cons_succ])))); (all_goals (first
    | (refine wpAnyH_ready (rs := [0, 4, 10]) (by decide +kernel) (by simp) ?_; refine AllReadyH.cons rfl (fun K hK => ?_) (AllReadyH.cons rfl (fun K hK => ?_) (AllReadyH.cons rfl (fun K hK => ?_) AllReadyH.nil)))
    | (refine wpAnyH_ready (rs := [0, 4]) (by decide +kernel) (by simp) ?_; refine AllReadyH.cons rfl (fun K hK => ?_) (AllReadyH.cons rfl (fun K hK => ?_) AllReadyH.nil))
    | (refine wpAnyH_ready (rs := [2, 4, 10]) (by decide +kernel) (by simp) ?_; refine AllReadyH.cons rfl (fun K hK => ?_) (AllReadyH.cons rfl (fun K hK => ?_) (AllReadyH.cons rfl (fun K hK => ?_) AllReadyH.nil)))
    | (refine wpAnyH_ready (rs := [0, 10]) (by decide +kernel) (by simp) ?_; refine AllReadyH.cons rfl (fun K hK => ?_) (AllReadyH.cons rfl (fun K hK => ?_) AllReadyH.nil))
    | (refine wpAnyH_ready (rs := [4, 10]) (by decide +kernel) (by simp) ?_; refine AllReadyH.cons rfl (fun K hK => ?_) (AllReadyH.cons rfl (fun K hK => ?_) AllReadyH.nil))
    | (refine wpAnyH_ready (rs := [0]) (by decide +kernel) (by simp) ?_; refine AllReadyH.cons rfl (fun K hK => ?_) AllReadyH.nil)
    | (refine wpAnyH_ready (rs := [2, 4]) (by decide +kernel) (by simp) ?_; refine AllReadyH.cons rfl (fun K hK => ?_) (AllReadyH.cons rfl (fun K hK => ?_) AllReadyH.nil))
    | (refine wpAnyH_ready (rs := [2, 10]) (by decide +kernel) (by simp) ?_; refine AllReadyH.cons rfl (fun K hK => ?_) (AllReadyH.cons rfl (fun K hK => ?_) AllReadyH.nil))
    | (refine wpAnyH_ready (rs := [2]) (by decide +kernel) (by simp) ?_; refine AllReadyH.cons rfl (fun K hK => ?_) AllReadyH.nil)
    | (refine wpAnyH_ready (rs := [5, 10]) (by decide +kernel) (by simp) ?_; refine AllReadyH.cons rfl (fun K hK => ?_) (AllReadyH.cons rfl (fun K hK => ?_) AllReadyH.nil))
    | (refine wpAnyH_ready (rs := [4]) (by decide +kernel) (by simp) ?_; refine AllReadyH.cons rfl (fun K hK => ?_) AllReadyH.nil)
    | (refine wpAnyH_ready (rs := [5]) (by decide +kernel) (by simp) ?_; refine AllReadyH.cons rfl (fun K hK => ?_) AllReadyH.nil)
    | (refine wpAnyH_ready (rs := [6, 10]) (by decide +kernel) (by simp) ?_; refine AllReadyH.cons rfl (fun K hK => ?_) (AllReadyH.cons rfl (fun K hK => ?_) AllReadyH.nil))
    | (refine wpAnyH_ready (rs := [10]) (by decide +kernel) (by simp) ?_; refine AllReadyH.cons rfl (fun K hK => ?_) AllReadyH.nil)
    | (refine wpAnyH_ready (rs := [6]) (by decide +kernel) (by simp) ?_; refine AllReadyH.cons rfl (fun K hK => ?_) AllReadyH.nil)
    | (refine wpAnyH_ready (rs := [11]) (by decide +kernel) (by simp) ?_; refine AllReadyH.cons rfl (fun K hK => ?_) AllReadyH.nil))); (all_goals (first
    | (refine Tr.wanted_plain rfl ?_; refine wpU_empty 36 rfl 64 85 rfl ie Tryz.underlying64 hie ?_; intro go wn xo hg hbA; simp only [List.set_cons_zero, List.set_cons_succ]; (try have HNE := Lib.hid (new_ne (n := 0) (c := 0) KE.out.lt hg)); have HO := Lib.hid (xo V1.heap.size 9 HBW.out.size); (try replace KA := Lib.hid (KA.out.belowS hbA)); (try replace KE := Lib.hid (KE.out.belowS hbA)); replace HBW := Lib.hid (bstep HBW.out hbA); clear xo hg hbA; refine hK.out _ _ (KW.out _ HBW.out) (fun _ => ?_); clear hK K)
    | (refine Tr.wanted_plain rfl ?_; refine wpU_append 38 rfl _ _ 64 rfl V1.heap.size 85 ie _ 9 40 Tryz.underlying64 hie hz0 hz1 hz2 rfl (by decide) (.slice (some ⟨go, 0, none⟩) 0 0) 0 [] rfl HO.out ⟨bl, off, none⟩ n c (ps.flatMap PN34.cells) rfl (by rw [flat_len PN34.cells 9 PN34.cells_len, HLN.out]) (RdF.flat PN34.cells_len (HR.out.recs.below HBW.out)) (ps_one ps) (by omega) (by omega) HBW.out.size ?_; intro Aa ca wn hown hgr hat; simp only [List.set_cons_zero, List.set_cons_succ]; rw [Nat.zero_add] at hown hat ⊢; rw [List.nil_append] at hown; (try replace KA := Lib.hid (KA.out.grown hgr (fun e => own_other HO.out KA.out (by decide) e.symm))); (try (have hne9 := HNE.out; have hlt9 := KE.out.lt; replace KE := Lib.hid (KE.out.grown hgr (fun e => hne9 e.symm)); replace HNE := Lib.hid (ne_at hat hne9 hlt9); clear hne9 hlt9)); replace HBW := Lib.hid (HBW.out.grown hgr HBW.out.size (fun q e => own_ge HO.out q e)); replace HO := Lib.hid hown; clear hown hgr hat; refine hK.out _ _ (KW.out _ HBW.out) (fun _ => ?_); clear hK K)
    | (refine Tr.wanted_plain rfl ?_; refine wpU_one 40 rfl 64 85 _ rfl 9 _ ie Tryz.underlying64 hie hz0 hz1 rfl (by decide) (by decide) (.agg #[.int .u8 p.U, .int .i8 p.X, .int .i8 p.Y, .int .u8 p.W, .int .u8 p.H, .bool false, .bool p.S, .slice p.A p.n p.c, .int .u8 p.I]) rfl #[.int .u8 p.U, .int .i8 p.X, .int .i8 p.Y, .int .u8 p.W, .int .u8 p.H, .bool false, .bool p.S, .slice p.A p.n p.c, .int .u8 p.I] rfl rfl ?_; intro ge wn xk hg hbA; simp only [List.set_cons_zero, List.set_cons_succ]; (try have HNE := Lib.hid (own_ne_of HO.out hg)); (try replace KA := Lib.hid (KA.out.belowS hbA)); (try replace KE := Lib.hid (KE.out.belowS hbA)); (try replace HO := Lib.hid (ownsRow_below HO.out hbA)); (try replace HM2 := Lib.hid (HM2.out.below hbA)); replace HBW := Lib.hid (bstep HBW.out hbA); have KE := Lib.hid xk; clear xk hg hbA; refine hK.out _ _ (KW.out _ HBW.out) (fun _ => ?_); clear hK K)
    | (refine Tr.wanted_plain rfl ?_; refine wpU_append 41 rfl _ _ 64 rfl V1.heap.size 85 ie _ 9 40 Tryz.underlying64 hie hz0 hz1 hz2 rfl (by decide) (.slice Aa n ca) n (ps.flatMap PN34.cells) rfl HO.out ⟨ge, 0, none⟩ 1 1 (p.off p.U).cells rfl rfl (news_blk KE.out) (p_one _) n40.2 n40.1 HBW.out.size ?_; intro Ab cb wn hown hgr hat; simp only [List.set_cons_zero, List.set_cons_succ]; (try replace KA := Lib.hid (KA.out.grown hgr (fun e => own_other HO.out KA.out (by decide) e.symm))); (try (have hne9 := HNE.out; have hlt9 := KE.out.lt; replace KE := Lib.hid (KE.out.grown hgr (fun e => hne9 e.symm)); replace HNE := Lib.hid (ne_at hat hne9 hlt9); clear hne9 hlt9)); replace HBW := Lib.hid (HBW.out.grown hgr HBW.out.size (fun q e => own_ge HO.out q e)); replace HO := Lib.hid hown; clear hown hgr hat; refine hK.out _ _ (KW.out _ HBW.out) (fun _ => ?_); clear hK K)
    | (refine Tr.wanted_plain rfl ?_; refine wpU_alloc 9 rfl 70 rfl je _ hje hj0 #[.map none, .map none, .map none, .map none, .slice none 0 0] rfl ?_; intro ga wn xk hg hbA; simp only [List.set_cons_zero, List.set_cons_succ]; have HLA := Lib.hid (show V1.heap.size ≤ ga by rw [hg]; exact HBW.out.size); (try replace KA := Lib.hid (KA.out.belowS hbA)); (try replace KE := Lib.hid (KE.out.belowS hbA)); (try replace HO := Lib.hid (ownsRow_below HO.out hbA)); (try replace HM2 := Lib.hid (HM2.out.below hbA)); replace HBW := Lib.hid (bstep HBW.out hbA); have KA := Lib.hid xk; clear xk hg hbA; refine hK.out _ _ (KW.out _ HBW.out) (fun _ => ?_); clear hK K)
    | (refine Tr.wanted_plain rfl ?_; refine wpU_store rfl 70 _ _ rfl KA.out #[.map m5, .map m6, .map m7, .map m8, .slice A2 n2 c2] rfl rfl rfl Tryz.sizeM34 (by simp [Value.oneCell']) ?_; intro wn hwn xk xB _ _; have xm := HM2.out.store KA.out m5 m6 m7 m8 A2 n2 c2; rw [← hwn] at xm; replace HM2 := Lib.hid xm; replace KA := Lib.hid xk; replace HBW := Lib.hid (xB _ HLA.out HBW.out); clear xm xk xB hwn; refine hK.out _ _ (KW.out _ HBW.out) (fun _ => ?_); clear hK K)
    | (go_simp; first
     | (refine (make34_any Ab (n + 1) cb (ps ++ [p.off p.U]) _ n40.2 (rdp_more HO.out HLN.out (fun d hd => (HR.out.shapes d hd).below HBW.out) (HP.out.below HBW.out)) HOK2.out).mono ?_; rintro e wn ⟨b2, m5, m6, m7, m8, A2, n2, c2, rfl, hm, hbA⟩; (try replace KA := Lib.hid (KA.out.belowS hbA)); replace HBW := Lib.hid (bstep HBW.out hbA); have HM2 := Lib.hid (show MadeIf b2 wn m5 m6 m7 m8 A2 n2 c2 (ps ++ [p.off p.U]) from hm); clear hm hbA; go_simp; refine hK.out _ _ (KW.out _ HBW.out) (fun _ => ?_); clear hK K))))
   all_goals (repeat (first
    | (refine Tr.take_at 1 37 (.slice (some ⟨bl, off, none⟩) n c) rfl rfl (by kernel_rfl) (by kernel_rfl) (by decide +kernel) (fun _ _ _ h => h) (Or.inl ⟨by rfl, ?_⟩) (by assumption) ?_; (focus (intro W0 hSw; (try dsimp only at hSw); go_simp)); simp only [List.set_cons_zero, List.set_cons_succ])
    | (refine Tr.take_at 3 39 (.agg #[.int .u8 p.U, .int .i8 p.X, .int .i8 p.Y, .int .u8 p.W, .int .u8 p.H, .bool false, .bool p.S, .slice p.A p.n p.c, .int .u8 p.I]) rfl rfl (by kernel_rfl) (by kernel_rfl) (by decide +kernel) (fun _ _ _ h => h) (Or.inl ⟨by rfl, ?_⟩) (by assumption) ?_; (focus (intro W0 hSw; (try dsimp only at hSw); go_simp)); simp only [List.set_cons_zero, List.set_cons_succ])
    | (refine Tr.take_at 7 35 (.tuple #[.agg #[.map m5, .map m6, .map m7, .map m8, .slice A2 n2 c2], .bool b2]) rfl rfl (by kernel_rfl) (by kernel_rfl) (by decide +kernel) (fun _ _ _ h => h) (Or.inl ⟨by rfl, ?_⟩) (by assumption) ?_; (focus (intro W0 hSw; (try dsimp only at hSw); go_simp)); simp only [List.set_cons_zero, List.set_cons_succ])
    | (refine Tr.take_at 8 43 (.agg #[.map m5, .map m6, .map m7, .map m8, .slice A2 n2 c2]) rfl rfl (by kernel_rfl) (by kernel_rfl) (by decide +kernel) (fun _ _ _ h => h) (Or.inl ⟨by rfl, ?_⟩) (by assumption) ?_; (focus (intro W0 hSw; (try dsimp only at hSw); go_simp)); simp only [List.set_cons_zero, List.set_cons_succ])
    | (refine Tr.take_at 9 44 (.bool b2) rfl rfl (by kernel_rfl) (by kernel_rfl) (by decide +kernel) (fun _ _ _ h => h) (Or.inl ⟨by rfl, ?_⟩) (by assumption) ?_; (focus (intro W0 hSw; (try dsimp only at hSw); go_simp)); simp only [List.set_cons_zero, List.set_cons_succ])
    | (refine Tr.take_at 12 10 (.bool b2) rfl rfl (by kernel_rfl) (by kernel_rfl) (by decide +kernel) (fun _ _ _ h => h) (Or.inl ⟨by rfl, ?_⟩) (by assumption) ?_; (focus (intro W0 hSw; (try dsimp only at hSw); go_simp)); simp only [List.set_cons_zero, List.set_cons_succ])))
   all_goals (refine wpAnyH_done (by kernel_rfl) ?_ _; refine NoPanic.normal ?_; go_wp2_with fail; go_meet; exact ⟨b2, m5, m6, m7, m8, A2, n2, c2, ga, rfl, rfl, HM2.out, KA.out, HBW.out⟩)
 obtain ⟨ok2, m5, m6, m7, m8, A2, n2, c2, g9, rfl, rfl, hm2, hk2, hb2⟩ := hcut
 have HM2 := Lib.hid hm2
 have KM2 := Lib.hid hk2
 replace HR := Lib.hid (HR.out.below hb2)
 replace HP := Lib.hid (HP.out.below hb2)
 replace HQ := Lib.hid (HQ.out.below hb2)
 replace K4 := Lib.hid (K4.out.belowS hb2)
 replace K5 := Lib.hid (K5.out.belowS hb2)
 replace HM1 := Lib.hid (HM1.out.below hb2)
 replace KM1 := Lib.hid (KM1.out.belowS hb2)
 replace HB := Lib.hid (bstep HB.out hb2)
 clear hm2 hk2 hb2
 go_upto_region 7 with fail
 go_cut [11, 12] from 45 to 54 (fun s11 s12 wx => ∃ (b : Bool) (m1 m2 m3 m4 : Option Nat) (A0 : Option Addr) (n0 c0 g : Nat), s11 = .pointer (some ⟨g, 0, none⟩) ∧ s12 = .bool b ∧ MadeIf b wx m1 m2 m3 m4 A0 n0 c0 (ps ++ [q.off p.U]) ∧ Blk wx g 70 #[.map m1, .map m2, .map m3, .map m4, .slice A0 n0 c0] ∧ Below wc.heap.size wc wx)
 case first =>
  as_aux_lemma =>
   have HBW0 : Below wc.heap.size wc wc.drew := (bre wc).drew
   have KW := Lib.hid (fun (W' : World) (h : Below wc.heap.size wc W') => show (fun w' => w'.cell? ⟨g5, 0, none⟩ = some (.int .u8 p.U) ∧ w'.cell? ⟨g5, 1, none⟩ = some (.int .i8 q.X) ∧ w'.cell? ⟨g5, 2, none⟩ = some (.int .i8 q.Y) ∧ w'.cell? ⟨g5, 3, none⟩ = some (.int .u8 q.W) ∧ w'.cell? ⟨g5, 4, none⟩ = some (.int .u8 q.H) ∧ w'.cell? ⟨g5, 5, none⟩ = some (.bool false) ∧ w'.cell? ⟨g5, 6, none⟩ = some (.bool q.S) ∧ w'.cell? ⟨g5, 7, none⟩ = some (.slice q.A q.n q.c) ∧ w'.cell? ⟨g5, 8, none⟩ = some (.int .u8 q.I)) W' from ⟨(K5.out.belowS h).cellV (i := 0) rfl, (K5.out.belowS h).cellV (i := 1) rfl, (K5.out.belowS h).cellV (i := 2) rfl, (K5.out.belowS h).cellV (i := 3) rfl, (K5.out.belowS h).cellV (i := 4) rfl, (K5.out.belowS h).cellV (i := 5) rfl, (K5.out.belowS h).cellV (i := 6) rfl, (K5.out.belowS h).cellV (i := 7) rfl, (K5.out.belowS h).cellV (i := 8) rfl⟩)
   refine wp_region_noPanic ?_
   refine wp_region_held_drew (S := (fun w' => w'.cell? ⟨g5, 0, none⟩ = some (.int .u8 p.U) ∧ w'.cell? ⟨g5, 1, none⟩ = some (.int .i8 q.X) ∧ w'.cell? ⟨g5, 2, none⟩ = some (.int .i8 q.Y) ∧ w'.cell? ⟨g5, 3, none⟩ = some (.int .u8 q.W) ∧ w'.cell? ⟨g5, 4, none⟩ = some (.int .u8 q.H) ∧ w'.cell? ⟨g5, 5, none⟩ = some (.bool false) ∧ w'.cell? ⟨g5, 6, none⟩ = some (.bool q.S) ∧ w'.cell? ⟨g5, 7, none⟩ = some (.slice q.A q.n q.c) ∧ w'.cell? ⟨g5, 8, none⟩ = some (.int .u8 q.I))) (by kernel_rfl) (KW.out _ HBW0) (fun hHeld => ?_)
   have HBW := Lib.hid HBW0
   clear HBW0
   generalize wc.drew = wn at HBW hHeld ⊢
   iterate 7 (all_goals (repeat (first
    | (refine Tr.take_at 1 47 (.slice (some ⟨bl, off, none⟩) n c) rfl rfl (by kernel_rfl) (by kernel_rfl) (by decide +kernel) (fun _ _ _ h => h) (Or.inl ⟨by rfl, ?_⟩) (by assumption) ?_; (focus (intro W0 hSw; (try dsimp only at hSw); go_simp)); simp only [List.set_cons_zero, List.set_cons_succ])
    | (refine Tr.take_at 3 49 (.agg #[.int .u8 p.U, .int .i8 q.X, .int .i8 q.Y, .int .u8 q.W, .int .u8 q.H, .bool false, .bool q.S, .slice q.A q.n q.c, .int .u8 q.I]) rfl rfl (by kernel_rfl) (by kernel_rfl) (by decide +kernel) (fun _ _ _ h => h) (Or.inl ⟨by rfl, ?_⟩) (by assumption) ?_; (focus (intro W0 hSw; (try dsimp only at hSw); go_simp)); simp only [List.set_cons_zero, List.set_cons_succ])
    | (refine Tr.take_at 7 45 (.tuple #[.agg #[.map m5, .map m6, .map m7, .map m8, .slice A2 n2 c2], .bool b2]) rfl rfl (by kernel_rfl) (by kernel_rfl) (by decide +kernel) (fun _ _ _ h => h) (Or.inl ⟨by rfl, ?_⟩) (by assumption) ?_; (focus (intro W0 hSw; (try dsimp only at hSw); go_simp)); simp only [List.set_cons_zero, List.set_cons_succ])
    | (refine Tr.take_at 8 53 (.agg #[.map m5, .map m6, .map m7, .map m8, .slice A2 n2 c2]) rfl rfl (by kernel_rfl) (by kernel_rfl) (by decide +kernel) (fun _ _ _ h => h) (Or.inl ⟨by rfl, ?_⟩) (by assumption) ?_; (focus (intro W0 hSw; (try dsimp only at hSw); go_simp)); simp only [List.set_cons_zero, List.set_cons_succ])
    | (refine Tr.take_at 9 54 (.bool b2) rfl rfl (by kernel_rfl) (by kernel_rfl) (by decide +kernel) (fun _ _ _ h => h) (Or.inl ⟨by rfl, ?_⟩) (by assumption) ?_; (focus (intro W0 hSw; (try dsimp only at hSw); go_simp)); simp only [List.set_cons_zero, List.set_cons_succ])
    | (refine Tr.take_at 12 12 (.bool b2) rfl rfl (by kernel_rfl) (by kernel_rfl) (by decide +kernel) (fun _ _ _ h => h) (Or.inl ⟨by rfl, ?_⟩) (by assumption) ?_; (focus (intro W0 hSw; (try dsimp only at hSw); go_simp)); simp only [List.set_cons_zero, List.set_cons_succ])))); (all_goals (first
    | (refine wpAnyH_ready (rs := [0, 4, 10]) (by decide +kernel) (by simp) ?_; refine AllReadyH.cons rfl (fun K hK => ?_) (AllReadyH.cons rfl (fun K hK => ?_) (AllReadyH.cons rfl (fun K hK => ?_) AllReadyH.nil)))
    | (refine wpAnyH_ready (rs := [0, 4]) (by decide +kernel) (by simp) ?_; refine AllReadyH.cons rfl (fun K hK => ?_) (AllReadyH.cons rfl (fun K hK => ?_) AllReadyH.nil))
    | (refine wpAnyH_ready (rs := [2, 4, 10]) (by decide +kernel) (by simp) ?_; refine AllReadyH.cons rfl (fun K hK => ?_) (AllReadyH.cons rfl (fun K hK => ?_) (AllReadyH.cons rfl (fun K hK => ?_) AllReadyH.nil)))
    | (refine wpAnyH_ready (rs := [0, 10]) (by decide +kernel) (by simp) ?_; refine AllReadyH.cons rfl (fun K hK => ?_) (AllReadyH.cons rfl (fun K hK => ?_) AllReadyH.nil))
    | (refine wpAnyH_ready (rs := [4, 10]) (by decide +kernel) (by simp) ?_; refine AllReadyH.cons rfl (fun K hK => ?_) (AllReadyH.cons rfl (fun K hK => ?_) AllReadyH.nil))
    | (refine wpAnyH_ready (rs := [0]) (by decide +kernel) (by simp) ?_; refine AllReadyH.cons rfl (fun K hK => ?_) AllReadyH.nil)
    | (refine wpAnyH_ready (rs := [2, 4]) (by decide +kernel) (by simp) ?_; refine AllReadyH.cons rfl (fun K hK => ?_) (AllReadyH.cons rfl (fun K hK => ?_) AllReadyH.nil))
    | (refine wpAnyH_ready (rs := [2, 10]) (by decide +kernel) (by simp) ?_; refine AllReadyH.cons rfl (fun K hK => ?_) (AllReadyH.cons rfl (fun K hK => ?_) AllReadyH.nil))
    | (refine wpAnyH_ready (rs := [2]) (by decide +kernel) (by simp) ?_; refine AllReadyH.cons rfl (fun K hK => ?_) AllReadyH.nil)
    | (refine wpAnyH_ready (rs := [5, 10]) (by decide +kernel) (by simp) ?_; refine AllReadyH.cons rfl (fun K hK => ?_) (AllReadyH.cons rfl (fun K hK => ?_) AllReadyH.nil))
    | (refine wpAnyH_ready (rs := [4]) (by decide +kernel) (by simp) ?_; refine AllReadyH.cons rfl (fun K hK => ?_) AllReadyH.nil)
    | (refine wpAnyH_ready (rs := [5]) (by decide +kernel) (by simp) ?_; refine AllReadyH.cons rfl (fun K hK => ?_) AllReadyH.nil)
    | (refine wpAnyH_ready (rs := [6, 10]) (by decide +kernel) (by simp) ?_; refine AllReadyH.cons rfl (fun K hK => ?_) (AllReadyH.cons rfl (fun K hK => ?_) AllReadyH.nil))
    | (refine wpAnyH_ready (rs := [10]) (by decide +kernel) (by simp) ?_; refine AllReadyH.cons rfl (fun K hK => ?_) AllReadyH.nil)
    | (refine wpAnyH_ready (rs := [6]) (by decide +kernel) (by simp) ?_; refine AllReadyH.cons rfl (fun K hK => ?_) AllReadyH.nil)
    | (refine wpAnyH_ready (rs := [11]) (by decide +kernel) (by simp) ?_; refine AllReadyH.cons rfl (fun K hK => ?_) AllReadyH.nil))); (all_goals (first
    | (refine Tr.wanted_plain rfl ?_; refine wpU_empty 46 rfl 64 85 rfl ie Tryz.underlying64 hie ?_; intro go wn xo hg hbA; simp only [List.set_cons_zero, List.set_cons_succ]; (try have HNE := Lib.hid (new_ne (n := 0) (c := 0) KE.out.lt hg)); have HO := Lib.hid (xo wc.heap.size 9 HBW.out.size); (try replace KA := Lib.hid (KA.out.belowS hbA)); (try replace KE := Lib.hid (KE.out.belowS hbA)); replace HBW := Lib.hid (bstep HBW.out hbA); clear xo hg hbA; refine hK.out _ _ (KW.out _ HBW.out) (fun _ => ?_); clear hK K)
    | (refine Tr.wanted_plain rfl ?_; refine wpU_append 48 rfl _ _ 64 rfl wc.heap.size 85 ie _ 9 40 Tryz.underlying64 hie hz0 hz1 hz2 rfl (by decide) (.slice (some ⟨go, 0, none⟩) 0 0) 0 [] rfl HO.out ⟨bl, off, none⟩ n c (ps.flatMap PN34.cells) rfl (by rw [flat_len PN34.cells 9 PN34.cells_len, HLN.out]) (RdF.flat PN34.cells_len (HR.out.recs.below HBW.out)) (ps_one ps) (by omega) (by omega) HBW.out.size ?_; intro Aa ca wn hown hgr hat; simp only [List.set_cons_zero, List.set_cons_succ]; rw [Nat.zero_add] at hown hat ⊢; rw [List.nil_append] at hown; (try replace KA := Lib.hid (KA.out.grown hgr (fun e => own_other HO.out KA.out (by decide) e.symm))); (try (have hne9 := HNE.out; have hlt9 := KE.out.lt; replace KE := Lib.hid (KE.out.grown hgr (fun e => hne9 e.symm)); replace HNE := Lib.hid (ne_at hat hne9 hlt9); clear hne9 hlt9)); replace HBW := Lib.hid (HBW.out.grown hgr HBW.out.size (fun q e => own_ge HO.out q e)); replace HO := Lib.hid hown; clear hown hgr hat; refine hK.out _ _ (KW.out _ HBW.out) (fun _ => ?_); clear hK K)
    | (refine Tr.wanted_plain rfl ?_; refine wpU_one 50 rfl 64 85 _ rfl 9 _ ie Tryz.underlying64 hie hz0 hz1 rfl (by decide) (by decide) (.agg #[.int .u8 p.U, .int .i8 q.X, .int .i8 q.Y, .int .u8 q.W, .int .u8 q.H, .bool false, .bool q.S, .slice q.A q.n q.c, .int .u8 q.I]) rfl #[.int .u8 p.U, .int .i8 q.X, .int .i8 q.Y, .int .u8 q.W, .int .u8 q.H, .bool false, .bool q.S, .slice q.A q.n q.c, .int .u8 q.I] rfl rfl ?_; intro ge wn xk hg hbA; simp only [List.set_cons_zero, List.set_cons_succ]; (try have HNE := Lib.hid (own_ne_of HO.out hg)); (try replace KA := Lib.hid (KA.out.belowS hbA)); (try replace KE := Lib.hid (KE.out.belowS hbA)); (try replace HO := Lib.hid (ownsRow_below HO.out hbA)); (try replace HM2 := Lib.hid (HM2.out.below hbA)); replace HBW := Lib.hid (bstep HBW.out hbA); have KE := Lib.hid xk; clear xk hg hbA; refine hK.out _ _ (KW.out _ HBW.out) (fun _ => ?_); clear hK K)
    | (refine Tr.wanted_plain rfl ?_; refine wpU_append 51 rfl _ _ 64 rfl wc.heap.size 85 ie _ 9 40 Tryz.underlying64 hie hz0 hz1 hz2 rfl (by decide) (.slice Aa n ca) n (ps.flatMap PN34.cells) rfl HO.out ⟨ge, 0, none⟩ 1 1 (q.off p.U).cells rfl rfl (news_blk KE.out) (p_one _) n40.2 n40.1 HBW.out.size ?_; intro Ab cb wn hown hgr hat; simp only [List.set_cons_zero, List.set_cons_succ]; (try replace KA := Lib.hid (KA.out.grown hgr (fun e => own_other HO.out KA.out (by decide) e.symm))); (try (have hne9 := HNE.out; have hlt9 := KE.out.lt; replace KE := Lib.hid (KE.out.grown hgr (fun e => hne9 e.symm)); replace HNE := Lib.hid (ne_at hat hne9 hlt9); clear hne9 hlt9)); replace HBW := Lib.hid (HBW.out.grown hgr HBW.out.size (fun q e => own_ge HO.out q e)); replace HO := Lib.hid hown; clear hown hgr hat; refine hK.out _ _ (KW.out _ HBW.out) (fun _ => ?_); clear hK K)
    | (refine Tr.wanted_plain rfl ?_; refine wpU_alloc 11 rfl 70 rfl je _ hje hj0 #[.map none, .map none, .map none, .map none, .slice none 0 0] rfl ?_; intro ga wn xk hg hbA; simp only [List.set_cons_zero, List.set_cons_succ]; have HLA := Lib.hid (show wc.heap.size ≤ ga by rw [hg]; exact HBW.out.size); (try replace KA := Lib.hid (KA.out.belowS hbA)); (try replace KE := Lib.hid (KE.out.belowS hbA)); (try replace HO := Lib.hid (ownsRow_below HO.out hbA)); (try replace HM2 := Lib.hid (HM2.out.below hbA)); replace HBW := Lib.hid (bstep HBW.out hbA); have KA := Lib.hid xk; clear xk hg hbA; refine hK.out _ _ (KW.out _ HBW.out) (fun _ => ?_); clear hK K)
    | (refine Tr.wanted_plain rfl ?_; refine wpU_store rfl 70 _ _ rfl KA.out #[.map m5, .map m6, .map m7, .map m8, .slice A2 n2 c2] rfl rfl rfl Tryz.sizeM34 (by simp [Value.oneCell']) ?_; intro wn hwn xk xB _ _; have xm := HM2.out.store KA.out m5 m6 m7 m8 A2 n2 c2; rw [← hwn] at xm; replace HM2 := Lib.hid xm; replace KA := Lib.hid xk; replace HBW := Lib.hid (xB _ HLA.out HBW.out); clear xm xk xB hwn; refine hK.out _ _ (KW.out _ HBW.out) (fun _ => ?_); clear hK K)
    | (go_simp; first
     | (refine (make34_any Ab (n + 1) cb (ps ++ [q.off p.U]) _ n40.2 (rdp_more HO.out HLN.out (fun d hd => (HR.out.shapes d hd).below HBW.out) (HQ.out.below HBW.out)) HOK3.out).mono ?_; rintro e wn ⟨b2, m5, m6, m7, m8, A2, n2, c2, rfl, hm, hbA⟩; (try replace KA := Lib.hid (KA.out.belowS hbA)); replace HBW := Lib.hid (bstep HBW.out hbA); have HM2 := Lib.hid (show MadeIf b2 wn m5 m6 m7 m8 A2 n2 c2 (ps ++ [q.off p.U]) from hm); clear hm hbA; go_simp; refine hK.out _ _ (KW.out _ HBW.out) (fun _ => ?_); clear hK K))))
   all_goals (repeat (first
    | (refine Tr.take_at 1 47 (.slice (some ⟨bl, off, none⟩) n c) rfl rfl (by kernel_rfl) (by kernel_rfl) (by decide +kernel) (fun _ _ _ h => h) (Or.inl ⟨by rfl, ?_⟩) (by assumption) ?_; (focus (intro W0 hSw; (try dsimp only at hSw); go_simp)); simp only [List.set_cons_zero, List.set_cons_succ])
    | (refine Tr.take_at 3 49 (.agg #[.int .u8 p.U, .int .i8 q.X, .int .i8 q.Y, .int .u8 q.W, .int .u8 q.H, .bool false, .bool q.S, .slice q.A q.n q.c, .int .u8 q.I]) rfl rfl (by kernel_rfl) (by kernel_rfl) (by decide +kernel) (fun _ _ _ h => h) (Or.inl ⟨by rfl, ?_⟩) (by assumption) ?_; (focus (intro W0 hSw; (try dsimp only at hSw); go_simp)); simp only [List.set_cons_zero, List.set_cons_succ])
    | (refine Tr.take_at 7 45 (.tuple #[.agg #[.map m5, .map m6, .map m7, .map m8, .slice A2 n2 c2], .bool b2]) rfl rfl (by kernel_rfl) (by kernel_rfl) (by decide +kernel) (fun _ _ _ h => h) (Or.inl ⟨by rfl, ?_⟩) (by assumption) ?_; (focus (intro W0 hSw; (try dsimp only at hSw); go_simp)); simp only [List.set_cons_zero, List.set_cons_succ])
    | (refine Tr.take_at 8 53 (.agg #[.map m5, .map m6, .map m7, .map m8, .slice A2 n2 c2]) rfl rfl (by kernel_rfl) (by kernel_rfl) (by decide +kernel) (fun _ _ _ h => h) (Or.inl ⟨by rfl, ?_⟩) (by assumption) ?_; (focus (intro W0 hSw; (try dsimp only at hSw); go_simp)); simp only [List.set_cons_zero, List.set_cons_succ])
    | (refine Tr.take_at 9 54 (.bool b2) rfl rfl (by kernel_rfl) (by kernel_rfl) (by decide +kernel) (fun _ _ _ h => h) (Or.inl ⟨by rfl, ?_⟩) (by assumption) ?_; (focus (intro W0 hSw; (try dsimp only at hSw); go_simp)); simp only [List.set_cons_zero, List.set_cons_succ])
    | (refine Tr.take_at 12 12 (.bool b2) rfl rfl (by kernel_rfl) (by kernel_rfl) (by decide +kernel) (fun _ _ _ h => h) (Or.inl ⟨by rfl, ?_⟩) (by assumption) ?_; (focus (intro W0 hSw; (try dsimp only at hSw); go_simp)); simp only [List.set_cons_zero, List.set_cons_succ])))
   all_goals (refine wpAnyH_done (by kernel_rfl) ?_ _; refine NoPanic.normal ?_; go_wp2_with fail; go_meet; exact ⟨b2, m5, m6, m7, m8, A2, n2, c2, ga, rfl, rfl, HM2.out, KA.out, HBW.out⟩)
 obtain ⟨ok3, m9, m10, m11, m12, A3, n3, c3, g11, rfl, rfl, hm3, hk3, hb3⟩ := hcut
 have HM3 := Lib.hid hm3
 have KM3 := Lib.hid hk3
 replace HR := Lib.hid (HR.out.below hb3)
 replace HP := Lib.hid (HP.out.below hb3)
 replace HQ := Lib.hid (HQ.out.below hb3)
 replace K4 := Lib.hid (K4.out.belowS hb3)
 replace K5 := Lib.hid (K5.out.belowS hb3)
 replace HM1 := Lib.hid (HM1.out.below hb3)
 replace KM1 := Lib.hid (KM1.out.belowS hb3)
 replace HM2 := Lib.hid (HM2.out.below hb3)
 replace KM2 := Lib.hid (KM2.out.belowS hb3)
 replace HB := Lib.hid (bstep HB.out hb3)
 clear hm3 hk3 hb3
 cases ok1 with
 | false =>
  as_aux_lemma =>
   go_wp2_with (go_at_call 34; refine (awake34_any _).mono ?_; rintro e w9 ⟨rfl, hb9⟩; have HB9 := Lib.hid (bstep HB.out hb9); clear hb9)
   go_ret
   exact ⟨rfl, HB9.out⟩
 | true =>
 obtain ⟨l1, k1, u1, p1, r1, B1, d1, RW1, RH1, hm⟩ := HM1.out rfl
 obtain ⟨rfl, rfl, rfl, rfl, rfl, rfl, rfl⟩ := hm.form
 replace HM1 := Lib.hid hm
 clear hm
 cases ok2 with
 | false =>
  as_aux_lemma =>
   go_wp2_with (go_at_call 34; refine (awake34_any _).mono ?_; rintro e w9 ⟨rfl, hb9⟩; have HB9 := Lib.hid (bstep HB.out hb9); clear hb9)
   go_ret
   exact ⟨rfl, HB9.out⟩
 | true =>
 obtain ⟨l2, k2, u2, p2, r2, B2, d2, RW2, RH2, hm⟩ := HM2.out rfl
 obtain ⟨rfl, rfl, rfl, rfl, rfl, rfl, rfl⟩ := hm.form
 replace HM2 := Lib.hid hm
 clear hm
 cases ok3 with
 | false =>
  as_aux_lemma =>
   go_wp2_with (go_at_call 34; refine (awake34_any _).mono ?_; rintro e w9 ⟨rfl, hb9⟩; have HB9 := Lib.hid (bstep HB.out hb9); clear hb9)
   go_ret
   exact ⟨rfl, HB9.out⟩
 | true =>
 obtain ⟨l3, k3, u3, p3, r3, B3, d3, RW3, RH3, hm⟩ := HM3.out rfl
 obtain ⟨rfl, rfl, rfl, rfl, rfl, rfl, rfl⟩ := hm.form
 replace HM3 := Lib.hid hm
 clear hm
 obtain ⟨rt, hr0, hrW, hrH, hrS, hRb⟩ := HM1.out.rootIs
 obtain ⟨b, ofs, rfl, hbl, hcl⟩ := HM1.out.recs.2 (by have := HM1.out.few; omega)
 have y3 := hcl 0 rt hr0 3 _ rfl
 have y4 := hcl 0 rt hr0 4 _ rfl
 simp only [Nat.zero_mul, Nat.add_zero] at y3 y4
 rw [hrW] at y3
 rw [hrH] at y4
 have hl0 : (0 : Int) < (l1.length : Int) := by have := HM1.out.few; omega
 have q4 := KM1.out.cellV (i := 4) (v := .slice (some ⟨b, ofs, none⟩) l1.length c1) rfl
 have HRB := Lib.hid hRb
 clear hr0 hrW hrH hrS hbl hcl
 go_upto_region 10 with fail
 go_region
 have hbd : Below wc.heap.size wc wc.drew := (bre wc).drew
 replace HR := Lib.hid (HR.out.below hbd)
 replace HP := Lib.hid (HP.out.below hbd)
 replace HQ := Lib.hid (HQ.out.below hbd)
 replace K4 := Lib.hid (K4.out.belowS hbd)
 replace K5 := Lib.hid (K5.out.belowS hbd)
 replace HM1 := Lib.hid (HM1.out.below hbd)
 replace KM1 := Lib.hid (KM1.out.belowS hbd)
 replace HM2 := Lib.hid (HM2.out.below hbd)
 replace KM2 := Lib.hid (KM2.out.belowS hbd)
 replace HM3 := Lib.hid (HM3.out.below hbd)
 replace KM3 := Lib.hid (KM3.out.belowS hbd)
 replace HB := Lib.hid (bstep HB.out hbd)
 clear hbd y3 y4 q4 hl0
 obtain ⟨W4, hX4⟩ : ∃ X, wc.drew = X := ⟨_, rfl⟩
 have y0 := HR.out
 have y1 := HP.out
 have y2 := HQ.out
 have y3 := K4.out
 have y4 := K5.out
 have y5 := HM1.out
 have y6 := KM1.out
 have y7 := HM2.out
 have y8 := KM2.out
 have y9 := HM3.out
 have y10 := KM3.out
 have y11 := HB.out
 rw [hX4] at y0 y1 y2 y3 y4 y5 y6 y7 y8 y9 y10 y11 ⊢
 replace HR := Lib.hid y0
 replace HP := Lib.hid y1
 replace HQ := Lib.hid y2
 replace K4 := Lib.hid y3
 replace K5 := Lib.hid y4
 replace HM1 := Lib.hid y5
 replace KM1 := Lib.hid y6
 replace HM2 := Lib.hid y7
 replace KM2 := Lib.hid y8
 replace HM3 := Lib.hid y9
 replace KM3 := Lib.hid y10
 replace HB := Lib.hid y11
 clear hX4 y0 y1 y2 y3 y4 y5 y6 y7 y8 y9 y10 y11
 obtain ⟨W, hW⟩ : ∃ W, RW1 = W := ⟨_, rfl⟩
 obtain ⟨H, hH⟩ : ∃ H, RH1 = H := ⟨_, rfl⟩
 rw [hW, hH]
 have HWB := Lib.hid (show (1 ≤ W ∧ W ≤ 128) ∧ 1 ≤ H ∧ H ≤ 128 by have := HRB.out; omega)
 clear hW hH
 go_upto_region 11 with fail
 go_cut [15, 16] from 76 to 88 (fun s15 s16 wx => ∃ (g : Nat) (A : Option Addr) (c : Nat) (px : List Int), s15 = .pointer (some ⟨g, 0, none⟩) ∧ s16 = .int .i64 0 ∧ Blk wx g 75 #[.int .i64 W, .int .i64 H, .slice A (W * H) c] ∧ Rd wx A (W * H) (Gr.U8 px) ∧ (px.length = W * H ∧ ∀ x y : Nat, x < W → y < H → Gr.gat W H px x y = pixD l1 RW1 RH1 x y) ∧ Below W4.heap.size W4 wx)
 case first =>
  as_aux_lemma =>
   have HBW0 : Below W4.heap.size W4 W4.drew := (bre W4).drew
   have KW := Lib.hid (fun (W' : World) (h : Below W4.heap.size W4 W') => show (fun w' => w'.cell? ⟨g7, 0, none⟩ = some (.map m1) ∧ w'.cell? ⟨g7, 1, none⟩ = some (.map m2) ∧ w'.cell? ⟨g7, 2, none⟩ = some (.map m3) ∧ w'.cell? ⟨g7, 3, none⟩ = some (.map m4)) W' from ⟨(KM1.out.belowS h).cellV (i := 0) rfl, (KM1.out.belowS h).cellV (i := 1) rfl, (KM1.out.belowS h).cellV (i := 2) rfl, (KM1.out.belowS h).cellV (i := 3) rfl⟩)
   refine wp_region_noPanic ?_
   refine wp_region_held_drew (S := (fun w' => w'.cell? ⟨g7, 0, none⟩ = some (.map m1) ∧ w'.cell? ⟨g7, 1, none⟩ = some (.map m2) ∧ w'.cell? ⟨g7, 2, none⟩ = some (.map m3) ∧ w'.cell? ⟨g7, 3, none⟩ = some (.map m4))) (by kernel_rfl) (KW.out _ HBW0) (fun hHeld => ?_)
   have HBW := Lib.hid HBW0
   clear HBW0
   generalize W4.drew = wn at HBW hHeld ⊢
   iterate 4 (all_goals (repeat (first
    | (refine Tr.take_at 0 77 (.pointer (some ⟨g7, 0, none⟩)) rfl rfl (by kernel_rfl) (by kernel_rfl) (by decide +kernel) (fun _ _ _ h => h) (Or.inl ⟨by rfl, ?_⟩) (by assumption) ?_; (focus (intro W0 hSw; (try dsimp only at hSw); go_simp)); simp only [List.set_cons_zero, List.set_cons_succ])
    | (refine Tr.take_at 1 78 (.agg #[.map m1, .map m2]) rfl rfl (by kernel_rfl) (by kernel_rfl) (by decide +kernel) (fun _ _ _ h => h) (Or.inl ⟨by rfl, ?_⟩) (by assumption) ?_; (focus (intro W0 hSw; (try dsimp only at hSw); go_simp)); simp only [List.set_cons_zero, List.set_cons_succ])
    | (refine Tr.take_at 2 79 (.pointer (some ⟨g7, 2, none⟩)) rfl rfl (by kernel_rfl) (by kernel_rfl) (by decide +kernel) (fun _ _ _ h => h) (Or.inl ⟨by rfl, ?_⟩) (by assumption) ?_; (focus (intro W0 hSw; (try dsimp only at hSw); go_simp)); simp only [List.set_cons_zero, List.set_cons_succ])
    | (refine Tr.take_at 3 80 (.agg #[.map m3]) rfl rfl (by kernel_rfl) (by kernel_rfl) (by decide +kernel) (fun _ _ _ h => h) (Or.inl ⟨by rfl, ?_⟩) (by assumption) ?_; (focus (intro W0 hSw; (try dsimp only at hSw); go_simp)); simp only [List.set_cons_zero, List.set_cons_succ])
    | (refine Tr.take_at 5 82 (.pointer (some ⟨g7, 3, none⟩)) rfl rfl (by kernel_rfl) (by kernel_rfl) (by decide +kernel) (fun _ _ _ h => h) (Or.inl ⟨by rfl, ?_⟩) (by assumption) ?_; (focus (intro W0 hSw; (try dsimp only at hSw); go_simp)); simp only [List.set_cons_zero, List.set_cons_succ])
    | (refine Tr.take_at 6 83 (.agg #[.map m4]) rfl rfl (by kernel_rfl) (by kernel_rfl) (by decide +kernel) (fun _ _ _ h => h) (Or.inl ⟨by rfl, ?_⟩) (by assumption) ?_; (focus (intro W0 hSw; (try dsimp only at hSw); go_simp)); simp only [List.set_cons_zero, List.set_cons_succ])
    | (refine Tr.take_at 7 84 (.int .i64 W) rfl rfl (by kernel_rfl) (by kernel_rfl) (by decide +kernel) (fun _ _ _ h => h) (Or.inl ⟨by rfl, ?_⟩) (by assumption) ?_; (focus (intro W0 hSw; (try dsimp only at hSw); go_simp)); simp only [List.set_cons_zero, List.set_cons_succ])
    | (refine Tr.take_at 8 85 (.int .i64 H) rfl rfl (by kernel_rfl) (by kernel_rfl) (by decide +kernel) (fun _ _ _ h => h) (Or.inl ⟨by rfl, ?_⟩) (by assumption) ?_; (focus (intro W0 hSw; (try dsimp only at hSw); go_simp)); simp only [List.set_cons_zero, List.set_cons_succ])
    | (refine Tr.take_at 10 76 (.tuple #[.agg #[.int .i64 W, .int .i64 H, .slice Ag (W * H) cg], .int .i64 0]) rfl rfl (by kernel_rfl) (by kernel_rfl) (by decide +kernel) (fun _ _ _ h => h) (Or.inl ⟨by rfl, ?_⟩) (by assumption) ?_; (focus (intro W0 hSw; (try dsimp only at hSw); go_simp)); simp only [List.set_cons_zero, List.set_cons_succ])
    | (refine Tr.take_at 11 87 (.agg #[.int .i64 W, .int .i64 H, .slice Ag (W * H) cg]) rfl rfl (by kernel_rfl) (by kernel_rfl) (by decide +kernel) (fun _ _ _ h => h) (Or.inl ⟨by rfl, ?_⟩) (by assumption) ?_; (focus (intro W0 hSw; (try dsimp only at hSw); go_simp)); simp only [List.set_cons_zero, List.set_cons_succ])
    | (refine Tr.take_at 12 88 (.int .i64 0) rfl rfl (by kernel_rfl) (by kernel_rfl) (by decide +kernel) (fun _ _ _ h => h) (Or.inl ⟨by rfl, ?_⟩) (by assumption) ?_; (focus (intro W0 hSw; (try dsimp only at hSw); go_simp)); simp only [List.set_cons_zero, List.set_cons_succ])
    | (refine Tr.take_at 15 16 (.int .i64 0) rfl rfl (by kernel_rfl) (by kernel_rfl) (by decide +kernel) (fun _ _ _ h => h) (Or.inl ⟨by rfl, ?_⟩) (by assumption) ?_; (focus (intro W0 hSw; (try dsimp only at hSw); go_simp)); simp only [List.set_cons_zero, List.set_cons_succ])))); (all_goals (first
    | (refine wpAnyH_ready (rs := [4, 13]) (by decide +kernel) (by simp) ?_; refine AllReadyH.cons rfl (fun K hK => ?_) (AllReadyH.cons rfl (fun K hK => ?_) AllReadyH.nil))
    | (refine wpAnyH_ready (rs := [9, 13]) (by decide +kernel) (by simp) ?_; refine AllReadyH.cons rfl (fun K hK => ?_) (AllReadyH.cons rfl (fun K hK => ?_) AllReadyH.nil))
    | (refine wpAnyH_ready (rs := [4]) (by decide +kernel) (by simp) ?_; refine AllReadyH.cons rfl (fun K hK => ?_) AllReadyH.nil)
    | (refine wpAnyH_ready (rs := [13]) (by decide +kernel) (by simp) ?_; refine AllReadyH.cons rfl (fun K hK => ?_) AllReadyH.nil)
    | (refine wpAnyH_ready (rs := [9]) (by decide +kernel) (by simp) ?_; refine AllReadyH.cons rfl (fun K hK => ?_) AllReadyH.nil)
    | (refine wpAnyH_ready (rs := [14]) (by decide +kernel) (by simp) ?_; refine AllReadyH.cons rfl (fun K hK => ?_) AllReadyH.nil))); (all_goals (first
    | (refine Tr.wanted_plain rfl ?_; refine wpU_alloc 15 rfl 75 rfl ge0 _ hge hk0 #[.int .i64 0, .int .i64 0, .slice none 0 0] rfl ?_; intro ga wn xk hg hbA; simp only [List.set_cons_zero, List.set_cons_succ]; have HLA := Lib.hid (show W4.heap.size ≤ ga by rw [hg]; exact HBW.out.size); (try replace KA := Lib.hid (KA.out.belowS hbA)); (try replace HSE := Lib.hid (HSE.out.below hbA)); (try replace HRG := Lib.hid (HRG.out.below hbA)); replace HBW := Lib.hid (bstep HBW.out hbA); have KA := Lib.hid xk; clear xk hg hbA; refine hK.out _ _ (KW.out _ HBW.out) (fun _ => ?_); clear hK K)
    | (refine Tr.wanted_plain rfl ?_; refine wpU_store rfl 75 _ _ rfl KA.out #[.int .i64 W, .int .i64 H, .slice Ag (W * H) cg] rfl rfl rfl Tryz.sizeG34 (by simp [Value.oneCell']) ?_; intro wn hwn xk xB _ _; have xm := rd_store_grid HRG.out KA.out (W : Int) (H : Int) Ag (W * H) cg; rw [← hwn] at xm; replace HRG := Lib.hid xm; replace KA := Lib.hid xk; replace HBW := Lib.hid (xB _ HLA.out HBW.out); clear xm xk xB hwn; refine hK.out _ _ (KW.out _ HBW.out) (fun _ => ?_); clear hK K)
    | (go_simp; first
     | (refine (view34 (HM1.out.below HBW.out) hok).mono ?_; rintro e wn ⟨Av, nv, cv, mv, og, rfl, hse, hbA⟩; (try replace KA := Lib.hid (KA.out.belowS hbA)); (try replace HSE := Lib.hid (HSE.out.below hbA)); (try replace HRG := Lib.hid (HRG.out.below hbA)); replace HBW := Lib.hid (bstep HBW.out hbA); have HSE := Lib.hid hse; clear hse hbA; go_simp; refine hK.out _ _ (KW.out _ HBW.out) (fun _ => ?_); clear hK K)
     | (refine (show34 (HM1.out.below HBW.out) HSE.out (W := W) (H := H) HWB.out.1 HWB.out.2).mono ?_; rintro e wn ⟨Ag, cg, px, rfl, hrg, hcg, hpx, hbA⟩; (try replace KA := Lib.hid (KA.out.belowS hbA)); (try replace HSE := Lib.hid (HSE.out.below hbA)); (try replace HRG := Lib.hid (HRG.out.below hbA)); replace HBW := Lib.hid (bstep HBW.out hbA); have HRG := Lib.hid hrg; have HPX := Lib.hid hpx; clear hrg hcg hpx hbA HSE; go_simp; refine hK.out _ _ (KW.out _ HBW.out) (fun _ => ?_); clear hK K))))
   all_goals (repeat (first
    | (refine Tr.take_at 0 77 (.pointer (some ⟨g7, 0, none⟩)) rfl rfl (by kernel_rfl) (by kernel_rfl) (by decide +kernel) (fun _ _ _ h => h) (Or.inl ⟨by rfl, ?_⟩) (by assumption) ?_; (focus (intro W0 hSw; (try dsimp only at hSw); go_simp)); simp only [List.set_cons_zero, List.set_cons_succ])
    | (refine Tr.take_at 1 78 (.agg #[.map m1, .map m2]) rfl rfl (by kernel_rfl) (by kernel_rfl) (by decide +kernel) (fun _ _ _ h => h) (Or.inl ⟨by rfl, ?_⟩) (by assumption) ?_; (focus (intro W0 hSw; (try dsimp only at hSw); go_simp)); simp only [List.set_cons_zero, List.set_cons_succ])
    | (refine Tr.take_at 2 79 (.pointer (some ⟨g7, 2, none⟩)) rfl rfl (by kernel_rfl) (by kernel_rfl) (by decide +kernel) (fun _ _ _ h => h) (Or.inl ⟨by rfl, ?_⟩) (by assumption) ?_; (focus (intro W0 hSw; (try dsimp only at hSw); go_simp)); simp only [List.set_cons_zero, List.set_cons_succ])
    | (refine Tr.take_at 3 80 (.agg #[.map m3]) rfl rfl (by kernel_rfl) (by kernel_rfl) (by decide +kernel) (fun _ _ _ h => h) (Or.inl ⟨by rfl, ?_⟩) (by assumption) ?_; (focus (intro W0 hSw; (try dsimp only at hSw); go_simp)); simp only [List.set_cons_zero, List.set_cons_succ])
    | (refine Tr.take_at 5 82 (.pointer (some ⟨g7, 3, none⟩)) rfl rfl (by kernel_rfl) (by kernel_rfl) (by decide +kernel) (fun _ _ _ h => h) (Or.inl ⟨by rfl, ?_⟩) (by assumption) ?_; (focus (intro W0 hSw; (try dsimp only at hSw); go_simp)); simp only [List.set_cons_zero, List.set_cons_succ])
    | (refine Tr.take_at 6 83 (.agg #[.map m4]) rfl rfl (by kernel_rfl) (by kernel_rfl) (by decide +kernel) (fun _ _ _ h => h) (Or.inl ⟨by rfl, ?_⟩) (by assumption) ?_; (focus (intro W0 hSw; (try dsimp only at hSw); go_simp)); simp only [List.set_cons_zero, List.set_cons_succ])
    | (refine Tr.take_at 7 84 (.int .i64 W) rfl rfl (by kernel_rfl) (by kernel_rfl) (by decide +kernel) (fun _ _ _ h => h) (Or.inl ⟨by rfl, ?_⟩) (by assumption) ?_; (focus (intro W0 hSw; (try dsimp only at hSw); go_simp)); simp only [List.set_cons_zero, List.set_cons_succ])
    | (refine Tr.take_at 8 85 (.int .i64 H) rfl rfl (by kernel_rfl) (by kernel_rfl) (by decide +kernel) (fun _ _ _ h => h) (Or.inl ⟨by rfl, ?_⟩) (by assumption) ?_; (focus (intro W0 hSw; (try dsimp only at hSw); go_simp)); simp only [List.set_cons_zero, List.set_cons_succ])
    | (refine Tr.take_at 10 76 (.tuple #[.agg #[.int .i64 W, .int .i64 H, .slice Ag (W * H) cg], .int .i64 0]) rfl rfl (by kernel_rfl) (by kernel_rfl) (by decide +kernel) (fun _ _ _ h => h) (Or.inl ⟨by rfl, ?_⟩) (by assumption) ?_; (focus (intro W0 hSw; (try dsimp only at hSw); go_simp)); simp only [List.set_cons_zero, List.set_cons_succ])
    | (refine Tr.take_at 11 87 (.agg #[.int .i64 W, .int .i64 H, .slice Ag (W * H) cg]) rfl rfl (by kernel_rfl) (by kernel_rfl) (by decide +kernel) (fun _ _ _ h => h) (Or.inl ⟨by rfl, ?_⟩) (by assumption) ?_; (focus (intro W0 hSw; (try dsimp only at hSw); go_simp)); simp only [List.set_cons_zero, List.set_cons_succ])
    | (refine Tr.take_at 12 88 (.int .i64 0) rfl rfl (by kernel_rfl) (by kernel_rfl) (by decide +kernel) (fun _ _ _ h => h) (Or.inl ⟨by rfl, ?_⟩) (by assumption) ?_; (focus (intro W0 hSw; (try dsimp only at hSw); go_simp)); simp only [List.set_cons_zero, List.set_cons_succ])
    | (refine Tr.take_at 15 16 (.int .i64 0) rfl rfl (by kernel_rfl) (by kernel_rfl) (by decide +kernel) (fun _ _ _ h => h) (Or.inl ⟨by rfl, ?_⟩) (by assumption) ?_; (focus (intro W0 hSw; (try dsimp only at hSw); go_simp)); simp only [List.set_cons_zero, List.set_cons_succ])))
   all_goals (refine wpAnyH_done (by kernel_rfl) ?_ _; refine NoPanic.normal ?_; go_wp2_with fail; go_meet; exact ⟨ga, Ag, cg, px, rfl, rfl, KA.out, HRG.out, HPX.out, HBW.out⟩)
 obtain ⟨h1, G1, e1, px1, rfl, rfl, hkg, hrg, hpx, hbg⟩ := hcut
 have KG1 := Lib.hid hkg
 have HR1 := Lib.hid hrg
 have HPX1 := Lib.hid hpx
 replace HR := Lib.hid (HR.out.below hbg)
 replace HP := Lib.hid (HP.out.below hbg)
 replace HQ := Lib.hid (HQ.out.below hbg)
 replace K4 := Lib.hid (K4.out.belowS hbg)
 replace K5 := Lib.hid (K5.out.belowS hbg)
 replace HM1 := Lib.hid (HM1.out.below hbg)
 replace KM1 := Lib.hid (KM1.out.belowS hbg)
 replace HM2 := Lib.hid (HM2.out.below hbg)
 replace KM2 := Lib.hid (KM2.out.belowS hbg)
 replace HM3 := Lib.hid (HM3.out.below hbg)
 replace KM3 := Lib.hid (KM3.out.belowS hbg)
 replace HB := Lib.hid (bstep HB.out hbg)
 clear hkg hrg hpx hbg
 go_upto_region 12 with fail
 go_cut [17, 18] from 89 to 101 (fun s17 s18 wx => ∃ (g : Nat) (A : Option Addr) (c : Nat) (px : List Int), s17 = .pointer (some ⟨g, 0, none⟩) ∧ s18 = .int .i64 0 ∧ Blk wx g 75 #[.int .i64 W, .int .i64 H, .slice A (W * H) c] ∧ Rd wx A (W * H) (Gr.U8 px) ∧ (px.length = W * H ∧ ∀ x y : Nat, x < W → y < H → Gr.gat W H px x y = pixD l2 RW2 RH2 x y) ∧ Below wc.heap.size wc wx)
 case first =>
  as_aux_lemma =>
   have HBW0 : Below wc.heap.size wc wc.drew := (bre wc).drew
   have KW := Lib.hid (fun (W' : World) (h : Below wc.heap.size wc W') => show (fun w' => w'.cell? ⟨g9, 0, none⟩ = some (.map m5) ∧ w'.cell? ⟨g9, 1, none⟩ = some (.map m6) ∧ w'.cell? ⟨g9, 2, none⟩ = some (.map m7) ∧ w'.cell? ⟨g9, 3, none⟩ = some (.map m8)) W' from ⟨(KM2.out.belowS h).cellV (i := 0) rfl, (KM2.out.belowS h).cellV (i := 1) rfl, (KM2.out.belowS h).cellV (i := 2) rfl, (KM2.out.belowS h).cellV (i := 3) rfl⟩)
   refine wp_region_noPanic ?_
   refine wp_region_held_drew (S := (fun w' => w'.cell? ⟨g9, 0, none⟩ = some (.map m5) ∧ w'.cell? ⟨g9, 1, none⟩ = some (.map m6) ∧ w'.cell? ⟨g9, 2, none⟩ = some (.map m7) ∧ w'.cell? ⟨g9, 3, none⟩ = some (.map m8))) (by kernel_rfl) (KW.out _ HBW0) (fun hHeld => ?_)
   have HBW := Lib.hid HBW0
   clear HBW0
   generalize wc.drew = wn at HBW hHeld ⊢
   iterate 4 (all_goals (repeat (first
    | (refine Tr.take_at 0 90 (.pointer (some ⟨g9, 0, none⟩)) rfl rfl (by kernel_rfl) (by kernel_rfl) (by decide +kernel) (fun _ _ _ h => h) (Or.inl ⟨by rfl, ?_⟩) (by assumption) ?_; (focus (intro W0 hSw; (try dsimp only at hSw); go_simp)); simp only [List.set_cons_zero, List.set_cons_succ])
    | (refine Tr.take_at 1 91 (.agg #[.map m5, .map m6]) rfl rfl (by kernel_rfl) (by kernel_rfl) (by decide +kernel) (fun _ _ _ h => h) (Or.inl ⟨by rfl, ?_⟩) (by assumption) ?_; (focus (intro W0 hSw; (try dsimp only at hSw); go_simp)); simp only [List.set_cons_zero, List.set_cons_succ])
    | (refine Tr.take_at 2 92 (.pointer (some ⟨g9, 2, none⟩)) rfl rfl (by kernel_rfl) (by kernel_rfl) (by decide +kernel) (fun _ _ _ h => h) (Or.inl ⟨by rfl, ?_⟩) (by assumption) ?_; (focus (intro W0 hSw; (try dsimp only at hSw); go_simp)); simp only [List.set_cons_zero, List.set_cons_succ])
    | (refine Tr.take_at 3 93 (.agg #[.map m7]) rfl rfl (by kernel_rfl) (by kernel_rfl) (by decide +kernel) (fun _ _ _ h => h) (Or.inl ⟨by rfl, ?_⟩) (by assumption) ?_; (focus (intro W0 hSw; (try dsimp only at hSw); go_simp)); simp only [List.set_cons_zero, List.set_cons_succ])
    | (refine Tr.take_at 5 95 (.pointer (some ⟨g9, 3, none⟩)) rfl rfl (by kernel_rfl) (by kernel_rfl) (by decide +kernel) (fun _ _ _ h => h) (Or.inl ⟨by rfl, ?_⟩) (by assumption) ?_; (focus (intro W0 hSw; (try dsimp only at hSw); go_simp)); simp only [List.set_cons_zero, List.set_cons_succ])
    | (refine Tr.take_at 6 96 (.agg #[.map m8]) rfl rfl (by kernel_rfl) (by kernel_rfl) (by decide +kernel) (fun _ _ _ h => h) (Or.inl ⟨by rfl, ?_⟩) (by assumption) ?_; (focus (intro W0 hSw; (try dsimp only at hSw); go_simp)); simp only [List.set_cons_zero, List.set_cons_succ])
    | (refine Tr.take_at 7 97 (.int .i64 W) rfl rfl (by kernel_rfl) (by kernel_rfl) (by decide +kernel) (fun _ _ _ h => h) (Or.inl ⟨by rfl, ?_⟩) (by assumption) ?_; (focus (intro W0 hSw; (try dsimp only at hSw); go_simp)); simp only [List.set_cons_zero, List.set_cons_succ])
    | (refine Tr.take_at 8 98 (.int .i64 H) rfl rfl (by kernel_rfl) (by kernel_rfl) (by decide +kernel) (fun _ _ _ h => h) (Or.inl ⟨by rfl, ?_⟩) (by assumption) ?_; (focus (intro W0 hSw; (try dsimp only at hSw); go_simp)); simp only [List.set_cons_zero, List.set_cons_succ])
    | (refine Tr.take_at 10 89 (.tuple #[.agg #[.int .i64 W, .int .i64 H, .slice Ag (W * H) cg], .int .i64 0]) rfl rfl (by kernel_rfl) (by kernel_rfl) (by decide +kernel) (fun _ _ _ h => h) (Or.inl ⟨by rfl, ?_⟩) (by assumption) ?_; (focus (intro W0 hSw; (try dsimp only at hSw); go_simp)); simp only [List.set_cons_zero, List.set_cons_succ])
    | (refine Tr.take_at 11 100 (.agg #[.int .i64 W, .int .i64 H, .slice Ag (W * H) cg]) rfl rfl (by kernel_rfl) (by kernel_rfl) (by decide +kernel) (fun _ _ _ h => h) (Or.inl ⟨by rfl, ?_⟩) (by assumption) ?_; (focus (intro W0 hSw; (try dsimp only at hSw); go_simp)); simp only [List.set_cons_zero, List.set_cons_succ])
    | (refine Tr.take_at 12 101 (.int .i64 0) rfl rfl (by kernel_rfl) (by kernel_rfl) (by decide +kernel) (fun _ _ _ h => h) (Or.inl ⟨by rfl, ?_⟩) (by assumption) ?_; (focus (intro W0 hSw; (try dsimp only at hSw); go_simp)); simp only [List.set_cons_zero, List.set_cons_succ])
    | (refine Tr.take_at 15 18 (.int .i64 0) rfl rfl (by kernel_rfl) (by kernel_rfl) (by decide +kernel) (fun _ _ _ h => h) (Or.inl ⟨by rfl, ?_⟩) (by assumption) ?_; (focus (intro W0 hSw; (try dsimp only at hSw); go_simp)); simp only [List.set_cons_zero, List.set_cons_succ])))); (all_goals (first
    | (refine wpAnyH_ready (rs := [4, 13]) (by decide +kernel) (by simp) ?_; refine AllReadyH.cons rfl (fun K hK => ?_) (AllReadyH.cons rfl (fun K hK => ?_) AllReadyH.nil))
    | (refine wpAnyH_ready (rs := [9, 13]) (by decide +kernel) (by simp) ?_; refine AllReadyH.cons rfl (fun K hK => ?_) (AllReadyH.cons rfl (fun K hK => ?_) AllReadyH.nil))
    | (refine wpAnyH_ready (rs := [4]) (by decide +kernel) (by simp) ?_; refine AllReadyH.cons rfl (fun K hK => ?_) AllReadyH.nil)
    | (refine wpAnyH_ready (rs := [13]) (by decide +kernel) (by simp) ?_; refine AllReadyH.cons rfl (fun K hK => ?_) AllReadyH.nil)
    | (refine wpAnyH_ready (rs := [9]) (by decide +kernel) (by simp) ?_; refine AllReadyH.cons rfl (fun K hK => ?_) AllReadyH.nil)
    | (refine wpAnyH_ready (rs := [14]) (by decide +kernel) (by simp) ?_; refine AllReadyH.cons rfl (fun K hK => ?_) AllReadyH.nil))); (all_goals (first
    | (refine Tr.wanted_plain rfl ?_; refine wpU_alloc 17 rfl 75 rfl ge0 _ hge hk0 #[.int .i64 0, .int .i64 0, .slice none 0 0] rfl ?_; intro ga wn xk hg hbA; simp only [List.set_cons_zero, List.set_cons_succ]; have HLA := Lib.hid (show wc.heap.size ≤ ga by rw [hg]; exact HBW.out.size); (try replace KA := Lib.hid (KA.out.belowS hbA)); (try replace HSE := Lib.hid (HSE.out.below hbA)); (try replace HRG := Lib.hid (HRG.out.below hbA)); replace HBW := Lib.hid (bstep HBW.out hbA); have KA := Lib.hid xk; clear xk hg hbA; refine hK.out _ _ (KW.out _ HBW.out) (fun _ => ?_); clear hK K)
    | (refine Tr.wanted_plain rfl ?_; refine wpU_store rfl 75 _ _ rfl KA.out #[.int .i64 W, .int .i64 H, .slice Ag (W * H) cg] rfl rfl rfl Tryz.sizeG34 (by simp [Value.oneCell']) ?_; intro wn hwn xk xB _ _; have xm := rd_store_grid HRG.out KA.out (W : Int) (H : Int) Ag (W * H) cg; rw [← hwn] at xm; replace HRG := Lib.hid xm; replace KA := Lib.hid xk; replace HBW := Lib.hid (xB _ HLA.out HBW.out); clear xm xk xB hwn; refine hK.out _ _ (KW.out _ HBW.out) (fun _ => ?_); clear hK K)
    | (go_simp; first
     | (refine (view34 (HM2.out.below HBW.out) HOK2.out).mono ?_; rintro e wn ⟨Av, nv, cv, mv, og, rfl, hse, hbA⟩; (try replace KA := Lib.hid (KA.out.belowS hbA)); (try replace HSE := Lib.hid (HSE.out.below hbA)); (try replace HRG := Lib.hid (HRG.out.below hbA)); replace HBW := Lib.hid (bstep HBW.out hbA); have HSE := Lib.hid hse; clear hse hbA; go_simp; refine hK.out _ _ (KW.out _ HBW.out) (fun _ => ?_); clear hK K)
     | (refine (show34 (HM2.out.below HBW.out) HSE.out (W := W) (H := H) HWB.out.1 HWB.out.2).mono ?_; rintro e wn ⟨Ag, cg, px, rfl, hrg, hcg, hpx, hbA⟩; (try replace KA := Lib.hid (KA.out.belowS hbA)); (try replace HSE := Lib.hid (HSE.out.below hbA)); (try replace HRG := Lib.hid (HRG.out.below hbA)); replace HBW := Lib.hid (bstep HBW.out hbA); have HRG := Lib.hid hrg; have HPX := Lib.hid hpx; clear hrg hcg hpx hbA HSE; go_simp; refine hK.out _ _ (KW.out _ HBW.out) (fun _ => ?_); clear hK K))))
   all_goals (repeat (first
    | (refine Tr.take_at 0 90 (.pointer (some ⟨g9, 0, none⟩)) rfl rfl (by kernel_rfl) (by kernel_rfl) (by decide +kernel) (fun _ _ _ h => h) (Or.inl ⟨by rfl, ?_⟩) (by assumption) ?_; (focus (intro W0 hSw; (try dsimp only at hSw); go_simp)); simp only [List.set_cons_zero, List.set_cons_succ])
    | (refine Tr.take_at 1 91 (.agg #[.map m5, .map m6]) rfl rfl (by kernel_rfl) (by kernel_rfl) (by decide +kernel) (fun _ _ _ h => h) (Or.inl ⟨by rfl, ?_⟩) (by assumption) ?_; (focus (intro W0 hSw; (try dsimp only at hSw); go_simp)); simp only [List.set_cons_zero, List.set_cons_succ])
    | (refine Tr.take_at 2 92 (.pointer (some ⟨g9, 2, none⟩)) rfl rfl (by kernel_rfl) (by kernel_rfl) (by decide +kernel) (fun _ _ _ h => h) (Or.inl ⟨by rfl, ?_⟩) (by assumption) ?_; (focus (intro W0 hSw; (try dsimp only at hSw); go_simp)); simp only [List.set_cons_zero, List.set_cons_succ])
    | (refine Tr.take_at 3 93 (.agg #[.map m7]) rfl rfl (by kernel_rfl) (by kernel_rfl) (by decide +kernel) (fun _ _ _ h => h) (Or.inl ⟨by rfl, ?_⟩) (by assumption) ?_; (focus (intro W0 hSw; (try dsimp only at hSw); go_simp)); simp only [List.set_cons_zero, List.set_cons_succ])
    | (refine Tr.take_at 5 95 (.pointer (some ⟨g9, 3, none⟩)) rfl rfl (by kernel_rfl) (by kernel_rfl) (by decide +kernel) (fun _ _ _ h => h) (Or.inl ⟨by rfl, ?_⟩) (by assumption) ?_; (focus (intro W0 hSw; (try dsimp only at hSw); go_simp)); simp only [List.set_cons_zero, List.set_cons_succ])
    | (refine Tr.take_at 6 96 (.agg #[.map m8]) rfl rfl (by kernel_rfl) (by kernel_rfl) (by decide +kernel) (fun _ _ _ h => h) (Or.inl ⟨by rfl, ?_⟩) (by assumption) ?_; (focus (intro W0 hSw; (try dsimp only at hSw); go_simp)); simp only [List.set_cons_zero, List.set_cons_succ])
    | (refine Tr.take_at 7 97 (.int .i64 W) rfl rfl (by kernel_rfl) (by kernel_rfl) (by decide +kernel) (fun _ _ _ h => h) (Or.inl ⟨by rfl, ?_⟩) (by assumption) ?_; (focus (intro W0 hSw; (try dsimp only at hSw); go_simp)); simp only [List.set_cons_zero, List.set_cons_succ])
    | (refine Tr.take_at 8 98 (.int .i64 H) rfl rfl (by kernel_rfl) (by kernel_rfl) (by decide +kernel) (fun _ _ _ h => h) (Or.inl ⟨by rfl, ?_⟩) (by assumption) ?_; (focus (intro W0 hSw; (try dsimp only at hSw); go_simp)); simp only [List.set_cons_zero, List.set_cons_succ])
    | (refine Tr.take_at 10 89 (.tuple #[.agg #[.int .i64 W, .int .i64 H, .slice Ag (W * H) cg], .int .i64 0]) rfl rfl (by kernel_rfl) (by kernel_rfl) (by decide +kernel) (fun _ _ _ h => h) (Or.inl ⟨by rfl, ?_⟩) (by assumption) ?_; (focus (intro W0 hSw; (try dsimp only at hSw); go_simp)); simp only [List.set_cons_zero, List.set_cons_succ])
    | (refine Tr.take_at 11 100 (.agg #[.int .i64 W, .int .i64 H, .slice Ag (W * H) cg]) rfl rfl (by kernel_rfl) (by kernel_rfl) (by decide +kernel) (fun _ _ _ h => h) (Or.inl ⟨by rfl, ?_⟩) (by assumption) ?_; (focus (intro W0 hSw; (try dsimp only at hSw); go_simp)); simp only [List.set_cons_zero, List.set_cons_succ])
    | (refine Tr.take_at 12 101 (.int .i64 0) rfl rfl (by kernel_rfl) (by kernel_rfl) (by decide +kernel) (fun _ _ _ h => h) (Or.inl ⟨by rfl, ?_⟩) (by assumption) ?_; (focus (intro W0 hSw; (try dsimp only at hSw); go_simp)); simp only [List.set_cons_zero, List.set_cons_succ])
    | (refine Tr.take_at 15 18 (.int .i64 0) rfl rfl (by kernel_rfl) (by kernel_rfl) (by decide +kernel) (fun _ _ _ h => h) (Or.inl ⟨by rfl, ?_⟩) (by assumption) ?_; (focus (intro W0 hSw; (try dsimp only at hSw); go_simp)); simp only [List.set_cons_zero, List.set_cons_succ])))
   all_goals (refine wpAnyH_done (by kernel_rfl) ?_ _; refine NoPanic.normal ?_; go_wp2_with fail; go_meet; exact ⟨ga, Ag, cg, px, rfl, rfl, KA.out, HRG.out, HPX.out, HBW.out⟩)
 obtain ⟨h2, G2, e2, px2, rfl, rfl, hkg, hrg, hpx, hbg⟩ := hcut
 have KG2 := Lib.hid hkg
 have HR2 := Lib.hid hrg
 have HPX2 := Lib.hid hpx
 replace HR := Lib.hid (HR.out.below hbg)
 replace HP := Lib.hid (HP.out.below hbg)
 replace HQ := Lib.hid (HQ.out.below hbg)
 replace K4 := Lib.hid (K4.out.belowS hbg)
 replace K5 := Lib.hid (K5.out.belowS hbg)
 replace HM1 := Lib.hid (HM1.out.below hbg)
 replace KM1 := Lib.hid (KM1.out.belowS hbg)
 replace HM2 := Lib.hid (HM2.out.below hbg)
 replace KM2 := Lib.hid (KM2.out.belowS hbg)
 replace HM3 := Lib.hid (HM3.out.below hbg)
 replace KM3 := Lib.hid (KM3.out.belowS hbg)
 replace KG1 := Lib.hid (KG1.out.belowS hbg)
 replace HR1 := Lib.hid (HR1.out.below hbg)
 replace HB := Lib.hid (bstep HB.out hbg)
 clear hkg hrg hpx hbg
 go_upto_region 13 with fail
 go_cut [19, 20] from 102 to 114 (fun s19 s20 wx => ∃ (g : Nat) (A : Option Addr) (c : Nat) (px : List Int), s19 = .pointer (some ⟨g, 0, none⟩) ∧ s20 = .int .i64 0 ∧ Blk wx g 75 #[.int .i64 W, .int .i64 H, .slice A (W * H) c] ∧ Rd wx A (W * H) (Gr.U8 px) ∧ (px.length = W * H ∧ ∀ x y : Nat, x < W → y < H → Gr.gat W H px x y = pixD l3 RW3 RH3 x y) ∧ Below wc.heap.size wc wx)
 case first =>
  as_aux_lemma =>
   have HBW0 : Below wc.heap.size wc wc.drew := (bre wc).drew
   have KW := Lib.hid (fun (W' : World) (h : Below wc.heap.size wc W') => show (fun w' => w'.cell? ⟨g11, 0, none⟩ = some (.map m9) ∧ w'.cell? ⟨g11, 1, none⟩ = some (.map m10) ∧ w'.cell? ⟨g11, 2, none⟩ = some (.map m11) ∧ w'.cell? ⟨g11, 3, none⟩ = some (.map m12)) W' from ⟨(KM3.out.belowS h).cellV (i := 0) rfl, (KM3.out.belowS h).cellV (i := 1) rfl, (KM3.out.belowS h).cellV (i := 2) rfl, (KM3.out.belowS h).cellV (i := 3) rfl⟩)
   refine wp_region_noPanic ?_
   refine wp_region_held_drew (S := (fun w' => w'.cell? ⟨g11, 0, none⟩ = some (.map m9) ∧ w'.cell? ⟨g11, 1, none⟩ = some (.map m10) ∧ w'.cell? ⟨g11, 2, none⟩ = some (.map m11) ∧ w'.cell? ⟨g11, 3, none⟩ = some (.map m12))) (by kernel_rfl) (KW.out _ HBW0) (fun hHeld => ?_)
   have HBW := Lib.hid HBW0
   clear HBW0
   generalize wc.drew = wn at HBW hHeld ⊢
   iterate 4 (all_goals (repeat (first
    | (refine Tr.take_at 0 103 (.pointer (some ⟨g11, 0, none⟩)) rfl rfl (by kernel_rfl) (by kernel_rfl) (by decide +kernel) (fun _ _ _ h => h) (Or.inl ⟨by rfl, ?_⟩) (by assumption) ?_; (focus (intro W0 hSw; (try dsimp only at hSw); go_simp)); simp only [List.set_cons_zero, List.set_cons_succ])
    | (refine Tr.take_at 1 104 (.agg #[.map m9, .map m10]) rfl rfl (by kernel_rfl) (by kernel_rfl) (by decide +kernel) (fun _ _ _ h => h) (Or.inl ⟨by rfl, ?_⟩) (by assumption) ?_; (focus (intro W0 hSw; (try dsimp only at hSw); go_simp)); simp only [List.set_cons_zero, List.set_cons_succ])
    | (refine Tr.take_at 2 105 (.pointer (some ⟨g11, 2, none⟩)) rfl rfl (by kernel_rfl) (by kernel_rfl) (by decide +kernel) (fun _ _ _ h => h) (Or.inl ⟨by rfl, ?_⟩) (by assumption) ?_; (focus (intro W0 hSw; (try dsimp only at hSw); go_simp)); simp only [List.set_cons_zero, List.set_cons_succ])
    | (refine Tr.take_at 3 106 (.agg #[.map m11]) rfl rfl (by kernel_rfl) (by kernel_rfl) (by decide +kernel) (fun _ _ _ h => h) (Or.inl ⟨by rfl, ?_⟩) (by assumption) ?_; (focus (intro W0 hSw; (try dsimp only at hSw); go_simp)); simp only [List.set_cons_zero, List.set_cons_succ])
    | (refine Tr.take_at 5 108 (.pointer (some ⟨g11, 3, none⟩)) rfl rfl (by kernel_rfl) (by kernel_rfl) (by decide +kernel) (fun _ _ _ h => h) (Or.inl ⟨by rfl, ?_⟩) (by assumption) ?_; (focus (intro W0 hSw; (try dsimp only at hSw); go_simp)); simp only [List.set_cons_zero, List.set_cons_succ])
    | (refine Tr.take_at 6 109 (.agg #[.map m12]) rfl rfl (by kernel_rfl) (by kernel_rfl) (by decide +kernel) (fun _ _ _ h => h) (Or.inl ⟨by rfl, ?_⟩) (by assumption) ?_; (focus (intro W0 hSw; (try dsimp only at hSw); go_simp)); simp only [List.set_cons_zero, List.set_cons_succ])
    | (refine Tr.take_at 7 110 (.int .i64 W) rfl rfl (by kernel_rfl) (by kernel_rfl) (by decide +kernel) (fun _ _ _ h => h) (Or.inl ⟨by rfl, ?_⟩) (by assumption) ?_; (focus (intro W0 hSw; (try dsimp only at hSw); go_simp)); simp only [List.set_cons_zero, List.set_cons_succ])
    | (refine Tr.take_at 8 111 (.int .i64 H) rfl rfl (by kernel_rfl) (by kernel_rfl) (by decide +kernel) (fun _ _ _ h => h) (Or.inl ⟨by rfl, ?_⟩) (by assumption) ?_; (focus (intro W0 hSw; (try dsimp only at hSw); go_simp)); simp only [List.set_cons_zero, List.set_cons_succ])
    | (refine Tr.take_at 10 102 (.tuple #[.agg #[.int .i64 W, .int .i64 H, .slice Ag (W * H) cg], .int .i64 0]) rfl rfl (by kernel_rfl) (by kernel_rfl) (by decide +kernel) (fun _ _ _ h => h) (Or.inl ⟨by rfl, ?_⟩) (by assumption) ?_; (focus (intro W0 hSw; (try dsimp only at hSw); go_simp)); simp only [List.set_cons_zero, List.set_cons_succ])
    | (refine Tr.take_at 11 113 (.agg #[.int .i64 W, .int .i64 H, .slice Ag (W * H) cg]) rfl rfl (by kernel_rfl) (by kernel_rfl) (by decide +kernel) (fun _ _ _ h => h) (Or.inl ⟨by rfl, ?_⟩) (by assumption) ?_; (focus (intro W0 hSw; (try dsimp only at hSw); go_simp)); simp only [List.set_cons_zero, List.set_cons_succ])
    | (refine Tr.take_at 12 114 (.int .i64 0) rfl rfl (by kernel_rfl) (by kernel_rfl) (by decide +kernel) (fun _ _ _ h => h) (Or.inl ⟨by rfl, ?_⟩) (by assumption) ?_; (focus (intro W0 hSw; (try dsimp only at hSw); go_simp)); simp only [List.set_cons_zero, List.set_cons_succ])
    | (refine Tr.take_at 15 20 (.int .i64 0) rfl rfl (by kernel_rfl) (by kernel_rfl) (by decide +kernel) (fun _ _ _ h => h) (Or.inl ⟨by rfl, ?_⟩) (by assumption) ?_; (focus (intro W0 hSw; (try dsimp only at hSw); go_simp)); simp only [List.set_cons_zero, List.set_cons_succ])))); (all_goals (first
    | (refine wpAnyH_ready (rs := [4, 13]) (by decide +kernel) (by simp) ?_; refine AllReadyH.cons rfl (fun K hK => ?_) (AllReadyH.cons rfl (fun K hK => ?_) AllReadyH.nil))
    | (refine wpAnyH_ready (rs := [9, 13]) (by decide +kernel) (by simp) ?_; refine AllReadyH.cons rfl (fun K hK => ?_) (AllReadyH.cons rfl (fun K hK => ?_) AllReadyH.nil))
    | (refine wpAnyH_ready (rs := [4]) (by decide +kernel) (by simp) ?_; refine AllReadyH.cons rfl (fun K hK => ?_) AllReadyH.nil)
    | (refine wpAnyH_ready (rs := [13]) (by decide +kernel) (by simp) ?_; refine AllReadyH.cons rfl (fun K hK => ?_) AllReadyH.nil)
    | (refine wpAnyH_ready (rs := [9]) (by decide +kernel) (by simp) ?_; refine AllReadyH.cons rfl (fun K hK => ?_) AllReadyH.nil)
    | (refine wpAnyH_ready (rs := [14]) (by decide +kernel) (by simp) ?_; refine AllReadyH.cons rfl (fun K hK => ?_) AllReadyH.nil))); (all_goals (first
    | (refine Tr.wanted_plain rfl ?_; refine wpU_alloc 19 rfl 75 rfl ge0 _ hge hk0 #[.int .i64 0, .int .i64 0, .slice none 0 0] rfl ?_; intro ga wn xk hg hbA; simp only [List.set_cons_zero, List.set_cons_succ]; have HLA := Lib.hid (show wc.heap.size ≤ ga by rw [hg]; exact HBW.out.size); (try replace KA := Lib.hid (KA.out.belowS hbA)); (try replace HSE := Lib.hid (HSE.out.below hbA)); (try replace HRG := Lib.hid (HRG.out.below hbA)); replace HBW := Lib.hid (bstep HBW.out hbA); have KA := Lib.hid xk; clear xk hg hbA; refine hK.out _ _ (KW.out _ HBW.out) (fun _ => ?_); clear hK K)
    | (refine Tr.wanted_plain rfl ?_; refine wpU_store rfl 75 _ _ rfl KA.out #[.int .i64 W, .int .i64 H, .slice Ag (W * H) cg] rfl rfl rfl Tryz.sizeG34 (by simp [Value.oneCell']) ?_; intro wn hwn xk xB _ _; have xm := rd_store_grid HRG.out KA.out (W : Int) (H : Int) Ag (W * H) cg; rw [← hwn] at xm; replace HRG := Lib.hid xm; replace KA := Lib.hid xk; replace HBW := Lib.hid (xB _ HLA.out HBW.out); clear xm xk xB hwn; refine hK.out _ _ (KW.out _ HBW.out) (fun _ => ?_); clear hK K)
    | (go_simp; first
     | (refine (view34 (HM3.out.below HBW.out) HOK3.out).mono ?_; rintro e wn ⟨Av, nv, cv, mv, og, rfl, hse, hbA⟩; (try replace KA := Lib.hid (KA.out.belowS hbA)); (try replace HSE := Lib.hid (HSE.out.below hbA)); (try replace HRG := Lib.hid (HRG.out.below hbA)); replace HBW := Lib.hid (bstep HBW.out hbA); have HSE := Lib.hid hse; clear hse hbA; go_simp; refine hK.out _ _ (KW.out _ HBW.out) (fun _ => ?_); clear hK K)
     | (refine (show34 (HM3.out.below HBW.out) HSE.out (W := W) (H := H) HWB.out.1 HWB.out.2).mono ?_; rintro e wn ⟨Ag, cg, px, rfl, hrg, hcg, hpx, hbA⟩; (try replace KA := Lib.hid (KA.out.belowS hbA)); (try replace HSE := Lib.hid (HSE.out.below hbA)); (try replace HRG := Lib.hid (HRG.out.below hbA)); replace HBW := Lib.hid (bstep HBW.out hbA); have HRG := Lib.hid hrg; have HPX := Lib.hid hpx; clear hrg hcg hpx hbA HSE; go_simp; refine hK.out _ _ (KW.out _ HBW.out) (fun _ => ?_); clear hK K))))
   all_goals (repeat (first
    | (refine Tr.take_at 0 103 (.pointer (some ⟨g11, 0, none⟩)) rfl rfl (by kernel_rfl) (by kernel_rfl) (by decide +kernel) (fun _ _ _ h => h) (Or.inl ⟨by rfl, ?_⟩) (by assumption) ?_; (focus (intro W0 hSw; (try dsimp only at hSw); go_simp)); simp only [List.set_cons_zero, List.set_cons_succ])
    | (refine Tr.take_at 1 104 (.agg #[.map m9, .map m10]) rfl rfl (by kernel_rfl) (by kernel_rfl) (by decide +kernel) (fun _ _ _ h => h) (Or.inl ⟨by rfl, ?_⟩) (by assumption) ?_; (focus (intro W0 hSw; (try dsimp only at hSw); go_simp)); simp only [List.set_cons_zero, List.set_cons_succ])
    | (refine Tr.take_at 2 105 (.pointer (some ⟨g11, 2, none⟩)) rfl rfl (by kernel_rfl) (by kernel_rfl) (by decide +kernel) (fun _ _ _ h => h) (Or.inl ⟨by rfl, ?_⟩) (by assumption) ?_; (focus (intro W0 hSw; (try dsimp only at hSw); go_simp)); simp only [List.set_cons_zero, List.set_cons_succ])
    | (refine Tr.take_at 3 106 (.agg #[.map m11]) rfl rfl (by kernel_rfl) (by kernel_rfl) (by decide +kernel) (fun _ _ _ h => h) (Or.inl ⟨by rfl, ?_⟩) (by assumption) ?_; (focus (intro W0 hSw; (try dsimp only at hSw); go_simp)); simp only [List.set_cons_zero, List.set_cons_succ])
    | (refine Tr.take_at 5 108 (.pointer (some ⟨g11, 3, none⟩)) rfl rfl (by kernel_rfl) (by kernel_rfl) (by decide +kernel) (fun _ _ _ h => h) (Or.inl ⟨by rfl, ?_⟩) (by assumption) ?_; (focus (intro W0 hSw; (try dsimp only at hSw); go_simp)); simp only [List.set_cons_zero, List.set_cons_succ])
    | (refine Tr.take_at 6 109 (.agg #[.map m12]) rfl rfl (by kernel_rfl) (by kernel_rfl) (by decide +kernel) (fun _ _ _ h => h) (Or.inl ⟨by rfl, ?_⟩) (by assumption) ?_; (focus (intro W0 hSw; (try dsimp only at hSw); go_simp)); simp only [List.set_cons_zero, List.set_cons_succ])
    | (refine Tr.take_at 7 110 (.int .i64 W) rfl rfl (by kernel_rfl) (by kernel_rfl) (by decide +kernel) (fun _ _ _ h => h) (Or.inl ⟨by rfl, ?_⟩) (by assumption) ?_; (focus (intro W0 hSw; (try dsimp only at hSw); go_simp)); simp only [List.set_cons_zero, List.set_cons_succ])
    | (refine Tr.take_at 8 111 (.int .i64 H) rfl rfl (by kernel_rfl) (by kernel_rfl) (by decide +kernel) (fun _ _ _ h => h) (Or.inl ⟨by rfl, ?_⟩) (by assumption) ?_; (focus (intro W0 hSw; (try dsimp only at hSw); go_simp)); simp only [List.set_cons_zero, List.set_cons_succ])
    | (refine Tr.take_at 10 102 (.tuple #[.agg #[.int .i64 W, .int .i64 H, .slice Ag (W * H) cg], .int .i64 0]) rfl rfl (by kernel_rfl) (by kernel_rfl) (by decide +kernel) (fun _ _ _ h => h) (Or.inl ⟨by rfl, ?_⟩) (by assumption) ?_; (focus (intro W0 hSw; (try dsimp only at hSw); go_simp)); simp only [List.set_cons_zero, List.set_cons_succ])
    | (refine Tr.take_at 11 113 (.agg #[.int .i64 W, .int .i64 H, .slice Ag (W * H) cg]) rfl rfl (by kernel_rfl) (by kernel_rfl) (by decide +kernel) (fun _ _ _ h => h) (Or.inl ⟨by rfl, ?_⟩) (by assumption) ?_; (focus (intro W0 hSw; (try dsimp only at hSw); go_simp)); simp only [List.set_cons_zero, List.set_cons_succ])
    | (refine Tr.take_at 12 114 (.int .i64 0) rfl rfl (by kernel_rfl) (by kernel_rfl) (by decide +kernel) (fun _ _ _ h => h) (Or.inl ⟨by rfl, ?_⟩) (by assumption) ?_; (focus (intro W0 hSw; (try dsimp only at hSw); go_simp)); simp only [List.set_cons_zero, List.set_cons_succ])
    | (refine Tr.take_at 15 20 (.int .i64 0) rfl rfl (by kernel_rfl) (by kernel_rfl) (by decide +kernel) (fun _ _ _ h => h) (Or.inl ⟨by rfl, ?_⟩) (by assumption) ?_; (focus (intro W0 hSw; (try dsimp only at hSw); go_simp)); simp only [List.set_cons_zero, List.set_cons_succ])))
   all_goals (refine wpAnyH_done (by kernel_rfl) ?_ _; refine NoPanic.normal ?_; go_wp2_with fail; go_meet; exact ⟨ga, Ag, cg, px, rfl, rfl, KA.out, HRG.out, HPX.out, HBW.out⟩)
 obtain ⟨h3, G3, e3, px3, rfl, rfl, hkg, hrg, hpx, hbg⟩ := hcut
 have KG3 := Lib.hid hkg
 have HR3 := Lib.hid hrg
 have HPX3 := Lib.hid hpx
 replace HR := Lib.hid (HR.out.below hbg)
 replace HP := Lib.hid (HP.out.below hbg)
 replace HQ := Lib.hid (HQ.out.below hbg)
 replace K4 := Lib.hid (K4.out.belowS hbg)
 replace K5 := Lib.hid (K5.out.belowS hbg)
 replace HM1 := Lib.hid (HM1.out.below hbg)
 replace KM1 := Lib.hid (KM1.out.belowS hbg)
 replace HM2 := Lib.hid (HM2.out.below hbg)
 replace KM2 := Lib.hid (KM2.out.belowS hbg)
 replace HM3 := Lib.hid (HM3.out.below hbg)
 replace KM3 := Lib.hid (KM3.out.belowS hbg)
 replace KG1 := Lib.hid (KG1.out.belowS hbg)
 replace HR1 := Lib.hid (HR1.out.below hbg)
 replace KG2 := Lib.hid (KG2.out.belowS hbg)
 replace HR2 := Lib.hid (HR2.out.below hbg)
 replace HB := Lib.hid (bstep HB.out hbg)
 clear hkg hrg hpx hbg
 have e2 := scr_more HM1.out HM2.out rfl HPX1.out HPX2.out
 have e3 := scr_more HM1.out HM3.out rfl HPX1.out HPX3.out
 subst e2 e3
 go_upto_region 14 with fail
 go_wp2_with fail
 refine (awake34_any _).mono ?_
 rintro e w9 ⟨rfl, hb9⟩
 replace KG1 := Lib.hid (KG1.out.belowS hb9)
 replace HR1 := Lib.hid (HR1.out.below hb9)
 replace KG2 := Lib.hid (KG2.out.belowS hb9)
 replace HR2 := Lib.hid (HR2.out.below hb9)
 replace KG3 := Lib.hid (KG3.out.belowS hb9)
 replace HR3 := Lib.hid (HR3.out.below hb9)
 replace HB := Lib.hid (bstep HB.out hb9)
 clear hb9
 have q0 := KG1.out.cellV (i := 0) (v := .int .i64 W) rfl
 have q1 := KG1.out.cellV (i := 1) (v := .int .i64 H) rfl
 have q2 := KG1.out.cellV (i := 2) (v := .slice G1 (W * H) e1) rfl
 have y0 := KG2.out.cellV (i := 0) (v := .int .i64 W) rfl
 have y1 := KG2.out.cellV (i := 1) (v := .int .i64 H) rfl
 have y2 := KG2.out.cellV (i := 2) (v := .slice G2 (W * H) e2) rfl
 go_wp2_with fail
 refine (Gr.gsame_any (W : Int) (H : Int) _ _ G1 G2 (W * H) e1 e2 _ (Gr.mul_le_128 HWB.out.1.2 HWB.out.2.2) HR1.out HR2.out).mono ?_
 rintro e w10 ⟨rfl, hb10⟩
 rw [decide_eq_true rfl]
 replace KG1 := Lib.hid (KG1.out.belowS hb10)
 replace HR1 := Lib.hid (HR1.out.below hb10)
 replace KG2 := Lib.hid (KG2.out.belowS hb10)
 replace HR2 := Lib.hid (HR2.out.below hb10)
 replace KG3 := Lib.hid (KG3.out.belowS hb10)
 replace HR3 := Lib.hid (HR3.out.below hb10)
 replace HB := Lib.hid (bstep HB.out hb10)
 clear hb10 q0 q1 q2 y0 y1 y2
 have q0 := KG1.out.cellV (i := 0) (v := .int .i64 W) rfl
 have q1 := KG1.out.cellV (i := 1) (v := .int .i64 H) rfl
 have q2 := KG1.out.cellV (i := 2) (v := .slice G1 (W * H) e1) rfl
 have y0 := KG3.out.cellV (i := 0) (v := .int .i64 W) rfl
 have y1 := KG3.out.cellV (i := 1) (v := .int .i64 H) rfl
 have y2 := KG3.out.cellV (i := 2) (v := .slice G3 (W * H) e3) rfl
 go_wp2_with fail
 refine (Gr.gsame_any (W : Int) (H : Int) _ _ G1 G3 (W * H) e1 e3 _ (Gr.mul_le_128 HWB.out.1.2 HWB.out.2.2) HR1.out HR3.out).mono ?_
 rintro e w11 ⟨rfl, hb11⟩
 rw [decide_eq_true rfl]
 replace HB := Lib.hid (bstep HB.out hb11)
 clear hb11
 go_wp2_with fail
 go_ret
 exact ⟨rfl, HB.out⟩
end Go.Proofs.YtdaedkolpfkdjaaGreat
end
