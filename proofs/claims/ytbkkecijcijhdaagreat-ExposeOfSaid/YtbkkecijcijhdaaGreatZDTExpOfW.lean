/-
  The walk of the law ExposeOf.
-/
import Derived.Test.YtbkkecijcijhdaaGreatZDTExpSameW
import Derived.Test.YtbkkecijcijhdaaGreatZD29
section
namespace Go.Proofs.YtbkkecijcijhdaaGreat
open Go.RowKit Go.Maps Go.Shelf

def SH.v (s : SH) : Value := .agg #[.int .i64 s.X, .int .i64 s.Y, .bool s.F]
def SH.sm (s : SH) : Prop := (-40 ≤ s.X ∧ s.X ≤ 40) ∧ -40 ≤ s.Y ∧ s.Y ≤ 40
/-- the shifts of the first k windows, as a map tells them. -/
def fS (ss : List SH) : Nat → Int → Option Value
  | 0 => fun _ => none
  | k + 1 => fun j => if j = idW ((k : Int) - 1) then some (ss.getD k default).v else fS ss k j
def sS (ss : List SH) : Nat → Int → SH
  | 0 => fun _ => ⟨0, 0, false⟩
  | k + 1 => fun j => if j = idW ((k : Int) - 1) then ss.getD k default else sS ss k j
theorem fS_sS (ss : List SH) : ∀ (k : Nat) (j : Int), (fS ss k j).getD (.agg #[.int .i64 0, .int .i64 0, .bool false]) = (sS ss k j).v := by
  intro k
  induction k with
  | zero => intro j; rfl
  | succ k ih =>
    intro j
    unfold fS sS
    by_cases h : j = idW ((k : Int) - 1)
    · rw [if_pos h, if_pos h]; rfl
    · rw [if_neg h, if_neg h]; exact ih j
theorem sS_sm (ss : List SH) : ∀ (k : Nat), (∀ j, j < k → (ss.getD j default).sm) → ∀ j : Int, (sS ss k j).sm := by
  intro k
  induction k with
  | zero => intro _ j; show SH.sm ⟨0, 0, false⟩; exact ⟨⟨by decide, by decide⟩, by decide, by decide⟩
  | succ k ih =>
    intro h j
    unfold sS
    by_cases e : j = idW ((k : Int) - 1)
    · rw [if_pos e]; exact h k (by omega)
    · rw [if_neg e]; exact ih (fun i hi => h i (by omega)) j
theorem cell_bel {w w' : World} {b o : Nat} {v : Value} (h : w.cell? ⟨b, o, none⟩ = some v) (hb : Below w.heap.size w w') : w'.cell? ⟨b, o, none⟩ = some v := by
  obtain ⟨ob, ho, _⟩ := cells_of_cell h
  exact ((bcell hb).1 _ _ (Array.getElem?_eq_some_iff.1 ho).1).trans h
theorem rdF_tail {w : World} {b off N2 cr : Nat} {y : CV} {r : List CV} (h : RdF CV.cells 3 w (some ⟨b, off, none⟩) N2 (y :: r)) (hc : N2 ≤ cr) : RdF CV.cells 3 w (if cr = 1 then some ⟨b, off, none⟩ else some ⟨b, off + 3, none⟩) r.length r := by
  have hl : r.length + 1 = N2 := h.1
  refine ⟨rfl, fun hn => ?_⟩
  obtain ⟨b', off', e, hb, hc'⟩ := h.2 (by omega)
  injection e with e
  injection e with e1 e2 _
  subst e1 e2
  rw [if_neg (by omega)]
  refine ⟨b, off + 3, rfl, hb, fun k x hx j u hu => ?_⟩
  have := hc' (k + 1) x (by simpa using hx) j u hu
  rw [show off + 3 + k * 3 + j = off + (k + 1) * 3 + j by omega]
  exact this
theorem flX_drop {ys : List CV} {k : Nat} {y : CV} (h : ys[k]? = some y) : flX (ys.drop k) = (if y.m = 0 then [] else [y]) ++ flX (ys.drop (k + 1)) := by
  obtain ⟨hl, e⟩ := List.getElem?_eq_some_iff.1 h
  rw [List.drop_eq_getElem_cons hl, e]
  unfold flX
  rw [List.filter_cons]
  by_cases h0 : y.m = 0 <;> simp [h0]
set_option maxRecDepth 100000 in
set_option maxHeartbeats 16000000 in
theorem exposeOf_any (A : Option Addr) (n c : Nat) (xs : List XW) (As : Option Addr) (ns cs : Nat) (ss : List SH) (w : World) (hn : n ≤ maxLen) (hr : RdF XW.cells 11 w A n xs) (hok : ∀ x ∈ xs, x.ok) (hns : ns ≤ maxLen) (hrs : RdF SH.cells 3 w As ns ss) :
    Calls Tryz.prog 12 #[.slice A n c, .slice As ns cs] w fun e w' => e = .returned (.bool true) ∧ Below w.heap.size w w' := by
  have HN := Lib.hid hn
  have HR := Lib.hid hr
  have HOK := Lib.hid hok
  have HNS := Lib.hid hns
  have HRS := Lib.hid hrs
  have HSL := Lib.hid hrs.1
  clear hn hr hok hns hrs
  have HB := Lib.hid (bre w)
  have hnm := HN.out
  have hnsm := HNS.out
  simp only [maxLen] at hnm hnsm
  go_enter Tryz.func12, Tryz.ntmps12
  by_cases h6 : n ≤ 6
  case neg =>
    have k6 : (6 : Int) < (n : Int) := by omega
    go_wp2_with fail
    refine (awake32_any _).mono ?_
    rintro e wz ⟨rfl, hbz⟩
    have HBZ := Lib.hid (bstep HB.out hbz)
    clear hbz
    go_wp2_with fail
    go_ret
    exact ⟨rfl, HBZ.out⟩
  have k6 : ¬ (6 : Int) < (n : Int) := by omega
  by_cases h7 : ns ≤ 6
  case neg =>
    have k7 : (6 : Int) < (ns : Int) := by omega
    go_wp2_with fail
    refine (awake32_any _).mono ?_
    rintro e wz ⟨rfl, hbz⟩
    have HBZ := Lib.hid (bstep HB.out hbz)
    clear hbz
    go_wp2_with fail
    go_ret
    exact ⟨rfl, HBZ.out⟩
  have k7 : ¬ (6 : Int) < (ns : Int) := by omega
  go_wp2_with fail
  refine (views_any A n c xs _ h6 HR.out HOK.out).mono ?_
  rintro e w2 ⟨va, vb, oga, ogb, rfl, sa, sb, hb⟩
  obtain ⟨Aa, na, ca, ma, rfl⟩ := sa.form
  obtain ⟨Ab, nb, cb, mb, rfl⟩ := sb.form
  have xA := vis_of sa HOK.out (fun x hx => (HOK.out x hx).2.1)
  have xC := vis_of sb HOK.out (fun x hx => (HOK.out x hx).2.2)
  obtain ⟨wn1, wn2, wn3⟩ := sb.wins
  obtain ⟨ord, hor⟩ : ∃ ord, ordW (nodesW (dwsX XW.a xs)) (bxS 12 10 (dwsX XW.b xs)) 1 = ord := ⟨_, rfl⟩
  rw [hor] at wn1 wn2 wn3
  have xRS := HRS.out.below hb
  replace HB := Lib.hid hb
  clear sa sb hb hor
  obtain ⟨V, hV⟩ : ∃ V, visW XW.a xs = V := ⟨_, rfl⟩
  obtain ⟨U, hU⟩ : ∃ U, visW XW.b xs = U := ⟨_, rfl⟩
  rw [hV] at xA
  rw [hU] at xC
  clear hV hU
  go_upto_region 4 with fail
  have hba := bal (bal (bre w2) (.cells #[.slice Aa na ca, .map ma] 43)) (.cells #[.slice Ab nb cb, .map mb] 43)
  have xB := bstep HB.out hba
  have xK5 := (Blk.new w2 43 #[.slice Aa na ca, .map ma]).alloc (.cells #[.slice Ab nb cb, .map mb] 43)
  have xK6 := blk_newA w2 (.cells #[.slice Aa na ca, .map ma] 43) 43 #[.slice Ab nb cb, .map mb]
  replace xA := xA.below hba
  replace xC := xC.below hba
  replace xRS := xRS.below hba
  obtain ⟨X2, hX2⟩ : ∃ X2, (w2.alloc (.cells #[.slice Aa na ca, .map ma] 43)).alloc (.cells #[.slice Ab nb cb, .map mb] 43) = X2 := ⟨_, rfl⟩
  rw [hX2] at xB xK5 xK6 xA xC hba xRS ⊢
  replace HB := Lib.hid xB
  have K5 := Lib.hid xK5
  have K6 := Lib.hid xK6
  have HA := Lib.hid xA
  have HC := Lib.hid xC
  replace HRS := Lib.hid xRS
  have WN := Lib.hid (fun (W : World) (hW : Below X2.heap.size X2 W) => wn1 W (bstep hba hW))
  have OD := Lib.hid (And.intro wn2 wn3)
  clear hba xB xK5 xK6 xA xC hX2 wn1 wn2 wn3 xRS
  have hmm := @run_makeMap Tryz.prog
  go_wp2_with fail
  go_loopw [33] (fun s33 wr => ∃ (k m : Nat), s33 = .int .i64 k ∧ k ≤ ns ∧ m ≤ k ∧ MapIs Tryz.prog 49 .u32 wr X2.heap.size m (fS ss k) ∧ (∀ j, j < k → (ss.getD j default).sm) ∧ Below X2.heap.size X2 wr) (fun s33 _ => ns - (intOf s33).toNat)
  case atStart => exact ⟨0, 0, rfl, by omega, by omega, MapIs.made X2, by omega, bal (bre X2) _⟩
  case round =>
    obtain ⟨k, m, rfl, hk, hmk, hmp, hsm, hbk⟩ := hrel
    have HMP := Lib.hid hmp
    have HSM := Lib.hid hsm
    have HW := Lib.hid hbk
    clear hmp hsm hbk
    by_cases hlt : k < ns
    · obtain ⟨x, hx⟩ : ∃ x, ss[k]? = some x := ⟨_, List.getElem?_eq_getElem (by have := HSL.out; omega)⟩
      obtain ⟨b, off, rfl, hb, hcl⟩ := (HRS.out.below HW.out).2 (by omega)
      have c0 : wr.cell? ⟨b, off + k * 3, none⟩ = some (.int .i64 x.X) := hcl k _ hx 0 _ rfl
      have c1 : wr.cell? ⟨b, off + k * 3 + 1, none⟩ = some (.int .i64 x.Y) := hcl k _ hx 1 _ rfl
      have c2 : wr.cell? ⟨b, off + k * 3 + 2, none⟩ = some (.bool x.F) := hcl k _ hx 2 _ rfl
      have HXD := Lib.hid (show ss.getD k default = x by rw [List.getD_eq_getElem?_getD, hx]; rfl)
      have k1 : (k : Int) < (ns : Int) := by omega
      have k0 : (0 : Int) ≤ (k : Int) := by omega
      clear hx hcl hb
      go_upto_region 8 with fail
      clear c0 c1 c2
      have xK := Blk.new wr 88 #[.int .i64 x.X, .int .i64 x.Y, .bool x.F]
      have hba := bal (bre wr) (.cells #[.int .i64 x.X, .int .i64 x.Y, .bool x.F] 88)
      have xM := HMP.out.below hba
      have xB := HW.out.trans (hba.mono HW.out.size)
      have xN : X2.heap.size ≠ wr.heap.size := Nat.ne_of_lt HMP.out.lt
      obtain ⟨X5, hX5⟩ : ∃ X5, wr.alloc (.cells #[.int .i64 x.X, .int .i64 x.Y, .bool x.F] 88) = X5 := ⟨_, rfl⟩
      obtain ⟨g, hg⟩ : ∃ g, wr.heap.size = g := ⟨_, rfl⟩
      rw [hX5] at xK xM xB ⊢
      rw [hg] at xK xN ⊢
      have K10 := Lib.hid xK
      replace HMP := Lib.hid xM
      replace HW := Lib.hid xB
      have HNE := Lib.hid xN
      clear xK hba xM xB hX5 hg xN
      have c0 := K10.out.cellV (i := 0) (v := .int .i64 x.X) rfl
      have c1 := K10.out.cellV (i := 1) (v := .int .i64 x.Y) rfl
      have c2 := K10.out.cellV (i := 2) (v := .bool x.F) rfl
      by_cases hs : x.sm
      case neg =>
        have HS := Lib.hid hs
        clear hs
        go_wp2_with fail
        refine (small_no x.X x.Y x.F _ HS.out).mono ?_
        rintro e w1 ⟨rfl, hb1⟩
        have HB1 := Lib.hid (bstep (bstep HB.out HW.out) hb1)
        clear hb1
        go_wp2_with fail
        refine (awake32_any _).mono ?_
        rintro e wz ⟨rfl, hbz⟩
        have HBZ := Lib.hid (bstep HB1.out hbz)
        clear hbz
        go_wp2_with fail
        go_ret
        exact ⟨rfl, HBZ.out⟩
      have HS := Lib.hid hs
      clear hs
      go_wp2_with fail
      refine (small_yes x.X x.Y x.F _ HS.out).mono ?_
      rintro e w1 ⟨rfl, hb1⟩
      replace K10 := Lib.hid (K10.out.belowS hb1)
      replace HMP := Lib.hid (HMP.out.below hb1)
      replace HW := Lib.hid (HW.out.trans (hb1.mono HW.out.size))
      clear hb1 c0 c1 c2
      obtain ⟨i, hi⟩ : ∃ i, idW ((k : Int) - 1) = i := ⟨_, rfl⟩
      have HI := Lib.hid (show 0 ≤ i ∧ i ≤ 4294967295 by rw [← hi]; exact idW_bd (by omega))
      have HWF := Lib.hid (u32_wf HI.out)
      have HFS := Lib.hid (show (fun j => if j = i then some (Value.agg #[.int .i64 x.X, .int .i64 x.Y, .bool x.F]) else fS ss k j) = fS ss (k + 1) by
        funext j
        show _ = if j = idW ((k : Int) - 1) then some (ss.getD k default).v else fS ss k j
        rw [hi, HXD.out]
        rfl)
      have HII := Lib.hid hi
      clear hi
      have q2 : IntKind.i64.wrap ((k : Int) + 1) = (k : Int) + 1 := IntWalk.i64_in _ (by omega)
      go_upto_region 10 with fail
      have HBW := Lib.hid (show Below X2.heap.size X2 w1.drew from (HW.out).drew)
      replace K10 := Lib.hid (K10.out.belowS (bre w1).drew)
      replace HMP := Lib.hid (HMP.out.below (bre w1).drew)
      refine wp_region_noPanic ?_
      refine wp_region_held_drew (S := (fun w' => w'.cell? ⟨g, 0, none⟩ = some (.int .i64 x.X) ∧ w'.cell? ⟨g, 1, none⟩ = some (.int .i64 x.Y) ∧ w'.cell? ⟨g, 2, none⟩ = some (.bool x.F))) (by kernel_rfl) ?_ (fun hHeld => ?_)
      · (try dsimp only)
        exact ⟨K10.out.cellV (i := 0) rfl, K10.out.cellV (i := 1) rfl, K10.out.cellV (i := 2) rfl⟩
      refine Tr.take_at 0 42 (.map (some X2.heap.size)) rfl rfl (by kernel_rfl) (by kernel_rfl) (by kernel_rfl) (fun _ _ _ h => h) (Or.inl ⟨by rfl, ?_⟩) (by assumption) ?_
      · intro W0 hSw
        (try dsimp only at hSw)
        go_simp
      simp only [List.set_cons_zero, List.set_cons_succ]
      refine Tr.take_at 1 43 (.int .i64 k) rfl rfl (by kernel_rfl) (by kernel_rfl) (by kernel_rfl) (fun _ _ _ h => h) (Or.inl ⟨by rfl, ?_⟩) (by assumption) ?_
      · intro W0 hSw
        (try dsimp only at hSw)
        go_simp
      simp only [List.set_cons_zero, List.set_cons_succ]
      refine Tr.take_at 3 45 (.agg #[.int .i64 x.X, .int .i64 x.Y, .bool x.F]) rfl rfl (by kernel_rfl) (by kernel_rfl) (by kernel_rfl) (fun _ _ _ h => h) (Or.inl ⟨by rfl, ?_⟩) (by assumption) ?_
      · intro W0 hSw
        (try dsimp only at hSw)
        go_simp
      simp only [List.set_cons_zero, List.set_cons_succ]
      refine wpAnyH_ready (rs := [2]) (by kernel_rfl) (by simp) ?_
      refine AllReadyH.cons rfl (fun K hK => ?_) AllReadyH.nil
      go_simp
      refine (id32_any k _ (by omega)).mono ?_
      rintro e wc2 ⟨rfl, hbA⟩
      rw [HII.out]
      replace HBW := Lib.hid (bstep HBW.out hbA)
      replace K10 := Lib.hid (K10.out.belowS hbA)
      replace HMP := Lib.hid (HMP.out.below hbA)
      clear hbA
      go_simp
      refine hK.out _ _ ?_ (fun hHeld => ?_)
      · (try dsimp only)
        exact ⟨K10.out.cellV (i := 0) rfl, K10.out.cellV (i := 1) rfl, K10.out.cellV (i := 2) rfl⟩
      clear hK K
      refine wpAnyH_ready (rs := [4]) (by kernel_rfl) (by simp) ?_
      refine AllReadyH.cons rfl (fun K hK => ?_) AllReadyH.nil
      refine Tr.wanted_plain rfl ?_
      refine map_put_op _ _ _ 115 rfl 49 88 .u32 Tryz.underlying49 Tryz.underlying115 X2.heap.size m (fS ss k) rfl HMP.out (by simp only [maxLen]; omega) i (.agg #[.int .i64 x.X, .int .i64 x.Y, .bool x.F]) rfl rfl HWF.out ?_
      intro w4 hm4 hg4
      rw [HFS.out] at hm4
      replace HMP := Lib.hid hm4
      replace K10 := Lib.hid (K10.out.grown hg4 (fun e => by injection e with e; exact HNE.out e.symm))
      replace HBW := Lib.hid (HBW.out.grown hg4 HBW.out.size (fun q e => by injection e with e; omega))
      clear hm4 hg4
      refine hK.out _ _ ?_ (fun hHeld => ?_)
      · (try dsimp only)
        exact ⟨K10.out.cellV (i := 0) rfl, K10.out.cellV (i := 1) rfl, K10.out.cellV (i := 2) rfl⟩
      clear hK K
      refine wpAnyH_done (by kernel_rfl) ?_ _
      refine NoPanic.normal ?_
      go_wp2_with fail
      go_roundw
      case rel => exact ⟨k + 1, _, by go_num, by omega, by split <;> omega, HMP.out, fun j hj => by
        by_cases hjk : j = k
        · subst hjk; rw [HXD.out]; exact HS.out
        · exact HSM.out j (by omega), HBW.out⟩
      case measure => simp [intOf]; omega
    · obtain rfl : k = ns := by omega
      have q1 : ¬ (k : Int) < (k : Int) := by omega
      have d0 := (K5.out.belowS HW.out).cellV (i := 0) (v := .slice Aa na ca) rfl
      have d1 := (K5.out.belowS HW.out).cellV (i := 1) (v := .map ma) rfl
      have d2 := (K6.out.belowS HW.out).cellV (i := 0) (v := .slice Ab nb cb) rfl
      have d3 := (K6.out.belowS HW.out).cellV (i := 1) (v := .map mb) rfl
      obtain ⟨S, hS⟩ : ∃ S, sS ss k = S := ⟨_, rfl⟩
      obtain ⟨f, hf⟩ : ∃ f, fS ss k = f := ⟨_, rfl⟩
      have HFS := Lib.hid (show ∀ j, (f j).getD (.agg #[.int .i64 0, .int .i64 0, .bool false]) = .agg #[.int .i64 (S j).X, .int .i64 (S j).Y, .bool (S j).F] from fun j => by rw [← hS, ← hf]; exact fS_sS ss k j)
      have HSB := Lib.hid (show ∀ j, (-128 ≤ (S j).X ∧ (S j).X ≤ 127) ∧ -128 ≤ (S j).Y ∧ (S j).Y ≤ 127 from fun j => by rw [← hS]; obtain ⟨⟨e1, e2⟩, e3, e4⟩ := sS_sm ss k HSM.out j; omega)
      rw [hf] at HMP
      clear hS hf HSM
      go_wp2_with fail
      refine (of32_any ord m f S (HA.out.below HW.out) (HC.out.below HW.out) (fun W hW => WN.out W (HW.out.trans (hW.mono HW.out.size))) OD.out (.inr ⟨_, rfl, HMP.out⟩) HFS.out HSB.out).mono ?_
      rintro e w3 ⟨v, ys, rfl, hmap, hat, hown, hb3⟩
      obtain ⟨Ag, cg, rfl, _⟩ := own_form hown
      have xG := RdF.of_own CV.cells_len hown rfl
      replace HMP := Lib.hid (HMP.out.below hb3)
      replace HW := Lib.hid (HW.out.trans (hb3.mono HW.out.size))
      clear d0 d1 d2 d3 hown hb3
      have d2 := (K6.out.belowS HW.out).cellV (i := 0) (v := .slice Ab nb cb) rfl
      have d3 := (K6.out.belowS HW.out).cellV (i := 1) (v := .map mb) rfl
      go_wp2_with fail
      refine (WN.out _ HW.out).mono ?_
      rintro e w4 ⟨u, rfl, ho, hb4⟩
      obtain ⟨Aw, cw, rfl, _⟩ := own_form ho
      have hys : ys.length = ord.length := by rw [← hmap, List.length_map]
      obtain ⟨N, hN⟩ : ∃ N, ord.length = N := ⟨_, rfl⟩
      have HMAP := Lib.hid hmap
      have HAT := Lib.hid (at_kx hat (Kx.of_below (Nat.zero_le _) hb4))
      have HG := Lib.hid (xG.below hb4)
      replace HMP := Lib.hid (HMP.out.below hb4)
      replace HW := Lib.hid (HW.out.trans (hb4.mono HW.out.size))
      rw [hN] at ho hys ⊢
      have HO := Lib.hid ho
      have HN2 := Lib.hid hN
      have HYL := Lib.hid hys
      have hN1 : N ≤ 1001 := by rw [← hN]; exact OD.out.2
      clear d2 d3 hmap hat xG ho hb4 hN hys hmk hk h7 k7 q1
      go_wp2_with fail
      obtain ⟨X, hX⟩ : ∃ X, X = w4 := ⟨_, rfl⟩
      subst hX
      go_loopw [54, 11] (fun s54 s11 wr => ∃ (k : Nat) (Ar : Option Addr) (cr : Nat), s54 = .int .i64 k ∧ k ≤ N ∧ s11 = .slice Ar (flX (ys.drop k)).length cr ∧ (flX (ys.drop k)).length ≤ cr ∧ RdF CV.cells 3 wr Ar (flX (ys.drop k)).length (flX (ys.drop k)) ∧ Below X.heap.size X wr) (fun s54 _ _ => N - (intOf s54).toNat)
      case atStart => exact ⟨0, _, _, rfl, by omega, rfl, by simpa using ‹_ ≤ cg›, HG.out, bre X⟩
      case round =>
        obtain ⟨k2, Ar, cr, rfl, hk2, rfl, hcr, hrd, hbk⟩ := hrel
        have HR2 := Lib.hid hrd
        have HX := Lib.hid hbk
        clear hrd hbk
        by_cases hlt : k2 < N
        · obtain ⟨y, hy⟩ : ∃ y, ys[k2]? = some y := ⟨_, List.getElem?_eq_getElem (by have := HYL.out; omega)⟩
          have HYA := Lib.hid ((HAT.out y (List.mem_of_getElem? hy)).kx (Kx.of_below (Nat.zero_le _) HX.out))
          have hio : ord[k2]? = some y.I := by rw [← HMAP.out, List.getElem?_map, hy]; rfl
          have HI := Lib.hid (OD.out.1 y.I (List.mem_of_getElem? hio))
          have HFX := Lib.hid (flX_drop hy)
          obtain ⟨gw, cw', csw, e1, hgw, hbw, hcs⟩ := own_blk1 HO.out (by omega)
          injection e1 with e1 _ e2
          subst e1 e2
          have r0 := (hbw.belowS HX.out).cellV (hcs k2 (.int .u32 y.I) (by simp [U32, hio]))
          have k1 : (k2 : Int) < (N : Int) := by omega
          have k0 : (0 : Int) ≤ (k2 : Int) := by omega
          have q2 : IntKind.i64.wrap ((k2 : Int) + 1) = (k2 : Int) + 1 := IntWalk.i64_in _ (by omega)
          obtain ⟨i, hi⟩ : ∃ i, y.I = i := ⟨_, rfl⟩
          rw [hi] at HI r0
          have HYI := Lib.hid hi
          have HWF := Lib.hid (u32_wf HI.out)
          clear hy hio hgw hbw hcs hi
          have HWX := Lib.hid (show Below X2.heap.size X2 wr from HW.out.trans (HX.out.mono HW.out.size))
          have d0 := (K5.out.belowS HWX.out).cellV (i := 0) (v := .slice Aa na ca) rfl
          have d1 := (K5.out.belowS HWX.out).cellV (i := 1) (v := .map ma) rfl
          have d2 := (K6.out.belowS HWX.out).cellV (i := 0) (v := .slice Ab nb cb) rfl
          have d3 := (K6.out.belowS HWX.out).cellV (i := 1) (v := .map mb) rfl
          have zS : ∀ w : World, (zeroValue 88).run Tryz.prog w = .ok (.agg #[.int .i64 0, .int .i64 0, .bool false]) w := fun w => by kernel_rfl
          go_wp2_with (at_lookup; refine opt_look rfl _ _ 115 rfl 49 88 .u32 Tryz.underlying49 Tryz.underlying115 (.agg #[.int .i64 0, .int .i64 0, .bool false]) (zS _) (some X2.heap.size) m f rfl (.inr ⟨_, rfl, HMP.out.below HX.out⟩) i rfl HWF.out ?_; rw [HFS.out i])
          refine (one_any i (S i).X (S i).Y (S i).F (HA.out.below HWX.out) (HC.out.below HWX.out) HI.out (HSB.out i)).mono ?_
          rintro e w5 ⟨A6, n6, c6, B6, m6, d6, rfl, hk6, hn6, hb5⟩
          clear r0 d0 d1 d2 d3
          go_upto_region 17 with fail
          have hba := bstep hb5 (bal (bre w5) (.cells #[.int .u32 i, .slice A6 n6 c6, .slice B6 m6 d6] 93))
          have hbo := bal (bre w5) (.cells #[.int .u32 i, .slice A6 n6 c6, .slice B6 m6 d6] 93)
          have xK := Blk.new w5 93 #[.int .u32 i, .slice A6 n6 c6, .slice B6 m6 d6]
          have xR := HR2.out.below hba
          have xB := bstep HX.out hba
          have xk6 := hk6.below hbo
          have xn6 := hn6.below hbo
          have xY := HYA.out.kx (Kx.of_below (Nat.zero_le _) hba)
          obtain ⟨g, hg⟩ : ∃ g, w5.heap.size = g := ⟨_, rfl⟩
          obtain ⟨X6, hX6⟩ : ∃ X6, w5.alloc (.cells #[.int .u32 i, .slice A6 n6 c6, .slice B6 m6 d6] 93) = X6 := ⟨_, rfl⟩
          rw [hX6] at xK xR xB xk6 xn6 xY ⊢
          rw [hg] at xK ⊢
          have c2 := xK.cellV (i := 2) (v := .slice B6 m6 d6) rfl
          have K14 := Lib.hid xK
          replace HR2 := Lib.hid xR
          replace HX := Lib.hid xB
          have HK6 := Lib.hid xk6
          have HN6 := Lib.hid xn6
          replace HYA := Lib.hid xY
          clear hba hbo xK xR xB xk6 xn6 xY hg hX6 hb5 hk6 hn6
          go_wp2_with fail
          refine (empty_any B6 m6 d6 _).mono ?_
          rintro e w6 ⟨rfl, hb6⟩
          replace K14 := Lib.hid (K14.out.belowS hb6)
          replace HR2 := Lib.hid (HR2.out.below hb6)
          replace HX := Lib.hid (bstep HX.out hb6)
          replace HK6 := Lib.hid (HK6.out.below hb6)
          replace HN6 := Lib.hid (HN6.out.below hb6)
          replace HYA := Lib.hid (HYA.out.kx (Kx.of_below (Nat.zero_le _) hb6))
          clear hb6 c2
          have ht1 : m6 = 0 ↔ ∀ a b, newP (V i) (U i) (S i).X (S i).Y (S i).F a b = false := tells_of (A := none) (n := 0) (c := 0) HN6.out
          have ht2 : y.m = 0 ↔ ∀ a b, newP (V y.I) (U y.I) (S y.I).X (S y.I).Y (S y.I).F a b = false := tells_of (A := none) (n := 0) (c := 0) HYA.out.2.reg
          rw [HYI.out] at ht2
          have hm0 : m6 = 0 ↔ y.m = 0 := ht1.trans ht2.symm
          clear ht1 ht2
          have hfx := HFX.out
          by_cases h0 : m6 = 0
          · rw [if_pos (hm0.1 h0), List.nil_append] at hfx
            rw [show decide (m6 = 0) = true by simpa using h0]
            have HF := Lib.hid hfx
            clear hfx hm0
            go_wp2_with fail
            go_roundw
            case rel => exact ⟨k2 + 1, Ar, cr, by go_num, by omega, by rw [HF.out], by rw [← HF.out]; exact hcr, by rw [← HF.out]; exact HR2.out, HX.out⟩
            case measure => simp [intOf]; omega
          · rw [if_neg (fun e => h0 (hm0.2 e)), List.singleton_append] at hfx
            rw [show decide (m6 = 0) = false by simpa using h0]
            obtain ⟨r, hr⟩ : ∃ r, flX (ys.drop (k2 + 1)) = r := ⟨_, rfl⟩
            rw [hr] at hfx
            have HRR := Lib.hid hr
            clear hr hm0
            have hcr2 := hcr
            rw [hfx] at HR2 hcr2 ⊢
            obtain ⟨N2, hN2⟩ : ∃ N2, (y :: r).length = N2 := ⟨_, rfl⟩
            rw [hN2] at HR2 hcr2 ⊢
            have HLR := Lib.hid (show r.length + 1 = N2 from hN2)
            clear hN2 hfx hcr
            have hp2 : 0 < N2 := by have := HLR.out; omega
            obtain ⟨b, off, rfl, hbl, hcl⟩ := HR2.out.2 hp2
            have HC0 := Lib.hid (show w6.cell? ⟨b, off, none⟩ = some (.int .u32 i) by rw [← HYI.out]; exact hcl 0 y rfl 0 _ rfl)
            have HC1 := Lib.hid (show w6.cell? ⟨b, off + 1, none⟩ = some (.slice y.A y.n y.c) from hcl 0 y rfl 1 _ rfl)
            have HC2 := Lib.hid (show w6.cell? ⟨b, off + 2, none⟩ = some (.slice y.B y.m y.d) from hcl 0 y rfl 2 _ rfl)
            have hyk := HYA.out.1.reg
            have hyn := HYA.out.2.reg
            rw [HYI.out] at hyk hyn
            have HYK := Lib.hid hyk
            have HYN := Lib.hid hyn
            clear hcl hbl hyk hyn
            have p1 : (0 : Int) < (N2 : Int) := by omega
            have p2 : ((N2 : Int) == 0) = false := by simp; omega
            have p3 : (i != i) = false := by simp
            go_upto_region 18 with fail
            go_cut [98] from 111 (fun s98 wx => s98 = .bool false ∧ Below w6.heap.size w6 wx)
            case first =>
              as_aux_lemma =>
                have HBW := Lib.hid (show Below w6.heap.size w6 w6.drew from (bre w6).drew)
                refine wp_region_noPanic ?_
                refine wp_region_held_drew (S := (fun w' => w'.cell? ⟨b, off, none⟩ = some (.int .u32 i) ∧ w'.cell? ⟨b, off + 1, none⟩ = some (.slice y.A y.n y.c) ∧ w'.cell? ⟨g, 1, none⟩ = some (.slice A6 n6 c6) ∧ w'.cell? ⟨b, off + 2, none⟩ = some (.slice y.B y.m y.d) ∧ w'.cell? ⟨g, 2, none⟩ = some (.slice B6 m6 d6))) (by kernel_rfl) ?_ (fun hHeld => ?_)
                · (try dsimp only)
                  exact ⟨cell_bel HC0.out HBW.out, cell_bel HC1.out HBW.out, (K14.out.belowS HBW.out).cellV (i := 1) rfl, cell_bel HC2.out HBW.out, (K14.out.belowS HBW.out).cellV (i := 2) rfl⟩
                refine Tr.take_at 0 68 (.slice (some ⟨b, off, none⟩) N2 cr) rfl rfl (by kernel_rfl) (by kernel_rfl) (by kernel_rfl) (fun _ _ _ h => h) (Or.inl ⟨by rfl, ?_⟩) (by assumption) ?_
                · intro W0 hSw
                  (try dsimp only at hSw)
                  go_simp
                simp only [List.set_cons_zero, List.set_cons_succ]
                refine Tr.take_at 1 69 (.int .i64 N2) rfl rfl (by kernel_rfl) (by kernel_rfl) (by kernel_rfl) (fun _ _ _ h => h) (Or.inl ⟨by rfl, ?_⟩) (by assumption) ?_
                · intro W0 hSw
                  (try dsimp only at hSw)
                  go_simp
                simp only [List.set_cons_zero, List.set_cons_succ]
                refine Tr.take_at 2 70 (.bool false) rfl rfl (by kernel_rfl) (by kernel_rfl) (by kernel_rfl) (fun _ _ _ h => h) (Or.inl ⟨by rfl, ?_⟩) (by assumption) ?_
                · intro W0 hSw
                  (try dsimp only at hSw)
                  go_simp
                simp only [List.set_cons_zero, List.set_cons_succ]
                refine Tr.take_at 3 71 (.bool false) rfl rfl (by kernel_rfl) (by kernel_rfl) (by kernel_rfl) (fun _ _ _ h => h) (Or.inl ⟨by rfl, ?_⟩) (by assumption) ?_
                · intro W0 hSw
                  (try dsimp only at hSw)
                  go_simp
                simp only [List.set_cons_zero, List.set_cons_succ]
                refine Tr.take_at 4 72 (.slice (some ⟨b, off, none⟩) N2 cr) rfl rfl (by kernel_rfl) (by kernel_rfl) (by kernel_rfl) (fun _ _ _ h => h) (Or.inl ⟨by rfl, ?_⟩) (by assumption) ?_
                · intro W0 hSw
                  (try dsimp only at hSw)
                  go_simp
                simp only [List.set_cons_zero, List.set_cons_succ]
                refine Tr.take_at 5 73 (.pointer (some ⟨b, off, none⟩)) rfl rfl (by kernel_rfl) (by kernel_rfl) (by kernel_rfl) (fun _ _ _ h => h) (Or.inl ⟨by rfl, ?_⟩) (by assumption) ?_
                · intro W0 hSw
                  (try dsimp only at hSw)
                  go_simp
                simp only [List.set_cons_zero, List.set_cons_succ]
                refine Tr.take_at 6 74 (.pointer (some ⟨b, off, none⟩)) rfl rfl (by kernel_rfl) (by kernel_rfl) (by kernel_rfl) (fun _ _ _ h => h) (Or.inl ⟨by rfl, ?_⟩) (by assumption) ?_
                · intro W0 hSw
                  (try dsimp only at hSw)
                  go_simp
                simp only [List.set_cons_zero, List.set_cons_succ]
                refine Tr.take_at 7 75 (.int .u32 i) rfl rfl (by kernel_rfl) (by kernel_rfl) (by kernel_rfl) (fun _ _ _ h => h) (Or.inl ⟨by rfl, ?_⟩) (by assumption) ?_
                · intro W0 hSw
                  (try dsimp only at hSw)
                  go_simp
                simp only [List.set_cons_zero, List.set_cons_succ]
                refine Tr.take_at 8 76 (.int .u32 i) rfl rfl (by kernel_rfl) (by kernel_rfl) (by kernel_rfl) (fun _ _ _ h => h) (Or.inl ⟨by rfl, ?_⟩) (by assumption) ?_
                · intro W0 hSw
                  (try dsimp only at hSw)
                  go_simp
                simp only [List.set_cons_zero, List.set_cons_succ]
                refine Tr.take_at 9 77 (.bool false) rfl rfl (by kernel_rfl) (by kernel_rfl) (by kernel_rfl) (fun _ _ _ h => h) (Or.inl ⟨by rfl, ?_⟩) (by assumption) ?_
                · intro W0 hSw
                  (try dsimp only at hSw)
                  go_simp
                simp only [List.set_cons_zero, List.set_cons_succ]
                refine Tr.take_at 10 78 (.bool false) rfl rfl (by kernel_rfl) (by kernel_rfl) (by kernel_rfl) (fun _ _ _ h => h) (Or.inl ⟨by rfl, ?_⟩) (by assumption) ?_
                · intro W0 hSw
                  (try dsimp only at hSw)
                  go_simp
                simp only [List.set_cons_zero, List.set_cons_succ]
                refine Tr.take_at 11 79 (.bool false) rfl rfl (by kernel_rfl) (by kernel_rfl) (by kernel_rfl) (fun _ _ _ h => h) (Or.inl ⟨by rfl, ?_⟩) (by assumption) ?_
                · intro W0 hSw
                  (try dsimp only at hSw)
                  go_simp
                simp only [List.set_cons_zero, List.set_cons_succ]
                refine Tr.take_at 12 80 (.slice (some ⟨b, off, none⟩) N2 cr) rfl rfl (by kernel_rfl) (by kernel_rfl) (by kernel_rfl) (fun _ _ _ h => h) (Or.inl ⟨by rfl, ?_⟩) (by assumption) ?_
                · intro W0 hSw
                  (try dsimp only at hSw)
                  go_simp
                simp only [List.set_cons_zero, List.set_cons_succ]
                refine Tr.take_at 13 81 (.pointer (some ⟨b, off, none⟩)) rfl rfl (by kernel_rfl) (by kernel_rfl) (by kernel_rfl) (fun _ _ _ h => h) (Or.inl ⟨by rfl, ?_⟩) (by assumption) ?_
                · intro W0 hSw
                  (try dsimp only at hSw)
                  go_simp
                simp only [List.set_cons_zero, List.set_cons_succ]
                refine Tr.take_at 14 82 (.pointer (some ⟨b, off + 1, none⟩)) rfl rfl (by kernel_rfl) (by kernel_rfl) (by kernel_rfl) (fun _ _ _ h => h) (Or.inl ⟨by rfl, ?_⟩) (by assumption) ?_
                · intro W0 hSw
                  (try dsimp only at hSw)
                  go_simp
                simp only [List.set_cons_zero, List.set_cons_succ]
                refine Tr.take_at 15 83 (.agg #[.slice y.A y.n y.c]) rfl rfl (by kernel_rfl) (by kernel_rfl) (by kernel_rfl) (fun _ _ _ h => h) (Or.inl ⟨by rfl, ?_⟩) (by assumption) ?_
                · intro W0 hSw
                  (try dsimp only at hSw)
                  go_simp
                simp only [List.set_cons_zero, List.set_cons_succ]
                refine Tr.take_at 16 84 (.pointer (some ⟨g, 1, none⟩)) rfl rfl (by kernel_rfl) (by kernel_rfl) (by kernel_rfl) (fun _ _ _ h => h) (Or.inl ⟨by rfl, ?_⟩) (by assumption) ?_
                · intro W0 hSw
                  (try dsimp only at hSw)
                  go_simp
                simp only [List.set_cons_zero, List.set_cons_succ]
                refine Tr.take_at 17 85 (.agg #[.slice A6 n6 c6]) rfl rfl (by kernel_rfl) (by kernel_rfl) (by kernel_rfl) (fun _ _ _ h => h) (Or.inl ⟨by rfl, ?_⟩) (by assumption) ?_
                · intro W0 hSw
                  (try dsimp only at hSw)
                  go_simp
                simp only [List.set_cons_zero, List.set_cons_succ]
                refine wpAnyH_ready (rs := [18]) (by kernel_rfl) (by simp) ?_
                refine AllReadyH.cons rfl (fun K hK => ?_) AllReadyH.nil
                go_simp
                refine (sameP (HYK.out.below HBW.out) (HK6.out.below HBW.out) (fun _ _ => rfl)).mono ?_
                rintro e wc18 ⟨rfl, hbA⟩
                replace HBW := Lib.hid (bstep HBW.out hbA)
                clear hbA
                go_simp
                refine hK.out _ _ ?_ (fun hHeld => ?_)
                · (try dsimp only)
                  exact ⟨cell_bel HC0.out HBW.out, cell_bel HC1.out HBW.out, (K14.out.belowS HBW.out).cellV (i := 1) rfl, cell_bel HC2.out HBW.out, (K14.out.belowS HBW.out).cellV (i := 2) rfl⟩
                clear hK K
                refine Tr.take_at 19 87 (.bool false) rfl rfl (by kernel_rfl) (by kernel_rfl) (by kernel_rfl) (fun _ _ _ h => h) (Or.inl ⟨by rfl, ?_⟩) (by assumption) ?_
                · intro W0 hSw
                  (try dsimp only at hSw)
                  go_simp
                simp only [List.set_cons_zero, List.set_cons_succ]
                refine Tr.take_at 20 88 (.bool false) rfl rfl (by kernel_rfl) (by kernel_rfl) (by kernel_rfl) (fun _ _ _ h => h) (Or.inl ⟨by rfl, ?_⟩) (by assumption) ?_
                · intro W0 hSw
                  (try dsimp only at hSw)
                  go_simp
                simp only [List.set_cons_zero, List.set_cons_succ]
                refine Tr.take_at 21 89 (.bool false) rfl rfl (by kernel_rfl) (by kernel_rfl) (by kernel_rfl) (fun _ _ _ h => h) (Or.inl ⟨by rfl, ?_⟩) (by assumption) ?_
                · intro W0 hSw
                  (try dsimp only at hSw)
                  go_simp
                simp only [List.set_cons_zero, List.set_cons_succ]
                refine Tr.take_at 22 90 (.slice (some ⟨b, off, none⟩) N2 cr) rfl rfl (by kernel_rfl) (by kernel_rfl) (by kernel_rfl) (fun _ _ _ h => h) (Or.inl ⟨by rfl, ?_⟩) (by assumption) ?_
                · intro W0 hSw
                  (try dsimp only at hSw)
                  go_simp
                simp only [List.set_cons_zero, List.set_cons_succ]
                refine Tr.take_at 23 91 (.pointer (some ⟨b, off, none⟩)) rfl rfl (by kernel_rfl) (by kernel_rfl) (by kernel_rfl) (fun _ _ _ h => h) (Or.inl ⟨by rfl, ?_⟩) (by assumption) ?_
                · intro W0 hSw
                  (try dsimp only at hSw)
                  go_simp
                simp only [List.set_cons_zero, List.set_cons_succ]
                refine Tr.take_at 24 92 (.pointer (some ⟨b, off + 2, none⟩)) rfl rfl (by kernel_rfl) (by kernel_rfl) (by kernel_rfl) (fun _ _ _ h => h) (Or.inl ⟨by rfl, ?_⟩) (by assumption) ?_
                · intro W0 hSw
                  (try dsimp only at hSw)
                  go_simp
                simp only [List.set_cons_zero, List.set_cons_succ]
                refine Tr.take_at 25 93 (.agg #[.slice y.B y.m y.d]) rfl rfl (by kernel_rfl) (by kernel_rfl) (by kernel_rfl) (fun _ _ _ h => h) (Or.inl ⟨by rfl, ?_⟩) (by assumption) ?_
                · intro W0 hSw
                  (try dsimp only at hSw)
                  go_simp
                simp only [List.set_cons_zero, List.set_cons_succ]
                refine Tr.take_at 26 94 (.pointer (some ⟨g, 2, none⟩)) rfl rfl (by kernel_rfl) (by kernel_rfl) (by kernel_rfl) (fun _ _ _ h => h) (Or.inl ⟨by rfl, ?_⟩) (by assumption) ?_
                · intro W0 hSw
                  (try dsimp only at hSw)
                  go_simp
                simp only [List.set_cons_zero, List.set_cons_succ]
                refine Tr.take_at 27 95 (.agg #[.slice B6 m6 d6]) rfl rfl (by kernel_rfl) (by kernel_rfl) (by kernel_rfl) (fun _ _ _ h => h) (Or.inl ⟨by rfl, ?_⟩) (by assumption) ?_
                · intro W0 hSw
                  (try dsimp only at hSw)
                  go_simp
                simp only [List.set_cons_zero, List.set_cons_succ]
                refine wpAnyH_ready (rs := [28]) (by kernel_rfl) (by simp) ?_
                refine AllReadyH.cons rfl (fun K hK => ?_) AllReadyH.nil
                go_simp
                refine (sameP (HYN.out.below HBW.out) (HN6.out.below HBW.out) (fun _ _ => rfl)).mono ?_
                rintro e wc28 ⟨rfl, hbA⟩
                replace HBW := Lib.hid (bstep HBW.out hbA)
                clear hbA
                go_simp
                refine hK.out _ _ ?_ (fun hHeld => ?_)
                · (try dsimp only)
                  exact ⟨cell_bel HC0.out HBW.out, cell_bel HC1.out HBW.out, (K14.out.belowS HBW.out).cellV (i := 1) rfl, cell_bel HC2.out HBW.out, (K14.out.belowS HBW.out).cellV (i := 2) rfl⟩
                clear hK K
                refine Tr.take_at 29 97 (.bool false) rfl rfl (by kernel_rfl) (by kernel_rfl) (by kernel_rfl) (fun _ _ _ h => h) (Or.inl ⟨by rfl, ?_⟩) (by assumption) ?_
                · intro W0 hSw
                  (try dsimp only at hSw)
                  go_simp
                simp only [List.set_cons_zero, List.set_cons_succ]
                refine Tr.take_at 30 98 (.bool false) rfl rfl (by kernel_rfl) (by kernel_rfl) (by kernel_rfl) (fun _ _ _ h => h) (Or.inl ⟨by rfl, ?_⟩) (by assumption) ?_
                · intro W0 hSw
                  (try dsimp only at hSw)
                  go_simp
                simp only [List.set_cons_zero, List.set_cons_succ]
                refine wpAnyH_done (by kernel_rfl) ?_ _
                refine NoPanic.normal ?_
                go_wp2_with fail
                go_meet
                exact ⟨rfl, HBW.out⟩
            obtain ⟨rfl, hbc⟩ := hcut
            replace HR2 := Lib.hid (HR2.out.below hbc)
            replace HX := Lib.hid (bstep HX.out hbc)
            clear hbc
            go_wp2_with fail
            go_roundw
            case rel => exact ⟨k2 + 1, (if cr = 1 then some ⟨b, off, none⟩ else some ⟨b, off + 3, none⟩), cr - 1, by go_num, by omega, by rw [HRR.out, show N2 - 1 = r.length from by have := HLR.out; omega], by rw [HRR.out]; have := HLR.out; omega, by rw [HRR.out]; exact rdF_tail HR2.out hcr2, HX.out⟩
            case measure => simp [intOf]; omega
        · obtain rfl : k2 = N := by omega
          have q1 : ¬ (k2 : Int) < (k2 : Int) := by omega
          have hz : flX (ys.drop k2) = [] := by rw [List.drop_of_length_le (by rw [HYL.out]; exact Nat.le_refl _)]; rfl
          rw [hz]
          have l0 : (((([] : List CV).length : Nat) : Int) == 0) = true := rfl
          have HXB := Lib.hid (show Below w.heap.size w wr from bstep HB.out (show Below X2.heap.size X2 wr from HW.out.trans (HX.out.mono HW.out.size)))
          clear hz
          go_wp2_with fail
          refine (awake32_any _).mono ?_
          rintro e wz ⟨rfl, hbz⟩
          have HBZ := Lib.hid (bstep HXB.out hbz)
          clear hbz
          go_wp2_with fail
          go_ret
          exact ⟨rfl, HBZ.out⟩
end Go.Proofs.YtbkkecijcijhdaaGreat
end
