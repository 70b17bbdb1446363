/-
  The walk of the document's Within.
-/
import Derived.Test.YtcdecglbkcllaaaLineWalkO
import Derived.Deep.RegionWith
namespace Go.Proofs.Ytcdecglbkcllaaa.Ln
open Go.RowKit Go.Shelf

theorem wiR_nil (X Y W H : Int) (l : List PtR) (h : cntB X Y W H = false) : wiR X Y W H l = [] := by simp [wiR, h]
theorem wiR_snoc_in {X Y W H : Int} {l : List PtR} {p : PtR} (h : cntB X Y W H = true) (hp : inB X Y W H p.1.1 p.1.2 = true) : wiR X Y W H (l ++ [p]) = wiR X Y W H l ++ [p] := by
  simp only [wiR, h, if_true, inR_snoc, hp]
theorem wiR_snoc_out {X Y W H : Int} {l : List PtR} {p : PtR} (h : cntB X Y W H = true) (hp : inB X Y W H p.1.1 p.1.2 = false) : wiR X Y W H (l ++ [p]) = wiR X Y W H l := by
  simp only [wiR, h, if_true, inR_snoc, hp]; simp

section
variable {P : Program} {ops : Array Oper} {Q : Exit → Act → World → Prop} {md : Region.Mode} {S : World → Prop}
/-- an operation of a region is taken first; its slot is named. -/
theorem take_at (i d : Nat) (v : Value) {oi : Oper} {fuel : Nat} {listed : Array Bool} {ts : List Value} {w : World} (hi : ops[i]? = some oi) (hd : oi.dst = some d)
    (hs : Region.noSelect ops = true) (hf : Region.free md ops listed i = true) (hr : (Region.ready md ops listed).contains i = true)
    (hQ : ∀ c a w, Q (.panic c) (a.put oi.dst v) w → Q (.panic c) a w) (hy : YieldsIf P ops S oi v ⟨ts.toArray, []⟩) (hS : S w)
    (h : wpAnyH P md ops Q S fuel (listed.setIfInBounds i true) ⟨(ts.set d v).toArray, []⟩ w) : wpAnyH P md ops Q S (fuel + 1) listed ⟨ts.toArray, []⟩ w :=
  wpAnyH_take hi hs hf hr hQ hy hS (by rw [hd]; simpa [Act.put] using h)
end

set_option maxRecDepth 100000 in
set_option maxHeartbeats 2000000 in
theorem within_go (g c : Nat) (l : List PtR) (X Y W H : Int) (w : World) (hc : cntB X Y W H = true) (hl : l.length ≤ 1000000)
    (hcell : ∀ k p, (unR l)[k]? = some p → w.cell? ⟨g, k * 2, none⟩ = some (.int .i64 p.1) ∧ w.cell? ⟨g, k * 2 + 1, none⟩ = some (.int .i64 p.2)) (hg : g < w.heap.size) :
    Calls Try.prog 22 #[.slice (some ⟨g, 0, none⟩) l.length c, .agg #[.int .i64 X, .int .i64 Y, .int .i64 W, .int .i64 H]] w fun e w' => ∃ v', e = .returned v' ∧ w'.ownsRow w.heap.size 23 2 v' (wiR X Y W H l).length (pcs (wiR X Y W H l)) ∧ Below w.heap.size w w' := by
  obtain ⟨i0, hi, hz0, hz1, hz2⟩ := info_parts Try.infoPt
  have hcb := (cnt_iff _ _ _ _).1 hc
  have HCELL := Lib.hid hcell
  have HC := Lib.hid hc
  obtain ⟨n, hn⟩ : ∃ n, l.length = n := ⟨_, rfl⟩
  have HN := Lib.hid hn
  rw [hn] at hl ⊢
  clear hcell hc hn
  go_enter Try.func22, Try.ntmps22
  go_wp2_with fail
  have bZ := Blk.new w 45 #[.int .i64 X, .int .i64 Y, .int .i64 W, .int .i64 H]
  have bB := bal (bre w) (.cells #[.int .i64 X, .int .i64 Y, .int .i64 W, .int .i64 H] 45)
  have hzs : (w.alloc (.cells #[.int .i64 X, .int .i64 Y, .int .i64 W, .int .i64 H] 45)).heap.size = w.heap.size + 1 := World.size_alloc _ _
  obtain ⟨Z, hZ⟩ : ∃ Z, w.alloc (.cells #[.int .i64 X, .int .i64 Y, .int .i64 W, .int .i64 H] 45) = Z := ⟨_, rfl⟩
  rw [hZ] at bZ bB hzs ⊢
  have HZS := Lib.hid hzs
  have BZ := Lib.hid bZ
  have BB := Lib.hid bB
  clear hZ hzs bZ bB
  go_loopw [5, 6] (fun out i wr => ∃ k : Nat, i = .int .i64 k ∧ k ≤ n ∧ wr.ownsRow Z.heap.size 23 2 out (wiR X Y W H (l.take k)).length (pcs (wiR X Y W H (l.take k))) ∧ Below Z.heap.size Z wr) (fun _ i _ => n - (intOf i).toNat)
  case atStart => exact ⟨0, rfl, by omega, by simpa [wiR, inR, pcs] using World.ownsRow_nil _ _ _ _, bre Z⟩
  case round =>
    obtain ⟨k, rfl, hk, ho, hB⟩ := hrel
    have HO := Lib.hid ho
    have HB := Lib.hid hB
    have hBs := hB.size
    obtain ⟨K, hK⟩ : ∃ K, (wiR X Y W H (l.take k)).length = K := ⟨_, rfl⟩
    have HK := Lib.hid hK
    have hKl : K ≤ 1000000 := by have := wiR_le X Y W H (l.take k); simp at this; omega
    rw [hK] at HO
    clear ho hB hK
    by_cases hlt : k < n
    · obtain ⟨p, hp⟩ : ∃ p, l[k]? = some p := ⟨_, List.getElem?_eq_getElem (by have := HN.out; omega)⟩
      obtain ⟨hc0, hc1⟩ := HCELL.out k p.1 (by simp [unR, hp])
      have hb := bstep BB.out HB.out
      have c0 := (hb.cell (p := ⟨g, k * 2, none⟩) hg).trans hc0
      have c1 := (hb.cell (p := ⟨g, k * 2 + 1, none⟩) hg).trans hc1
      have bR := BZ.out.belowS HB.out
      have r0 : wr.cell? ⟨w.heap.size, 0, none⟩ = some (.int .i64 X) := (bR.cell 0).trans rfl
      have r1 : wr.cell? ⟨w.heap.size, 1, none⟩ = some (.int .i64 Y) := (bR.cell 1).trans rfl
      have r2 : wr.cell? ⟨w.heap.size, 2, none⟩ = some (.int .i64 W) := (bR.cell 2).trans rfl
      have r3 : wr.cell? ⟨w.heap.size, 3, none⟩ = some (.int .i64 H) := (bR.cell 3).trans rfl
      have zz : w.heap.size < wr.heap.size := by have := HZS.out; omega
      have zg : g < wr.heap.size := by omega
      have htk : l.take (k + 1) = l.take k ++ [p] := by rw [List.take_add_one, hp]; rfl
      have HT := Lib.hid htk
      have k0 : (0 : Int) ≤ (k : Int) := by omega
      have k1 : (k : Int) < (n : Int) := by omega
      clear hp htk hc0 hc1 hb bR
      cases hin : inB X Y W H p.1.1 p.1.2
      · have hw := wiR_snoc_out (l := l.take k) HC.out hin
        have HW := Lib.hid hw
        have HI := Lib.hid hin
        clear hw hin
        go_wp2_with fail
        go_region_held3 (fun w' => w'.cell? ⟨w.heap.size, 0, none⟩ = some (.int .i64 X) ∧ w'.cell? ⟨w.heap.size, 1, none⟩ = some (.int .i64 Y) ∧ w'.cell? ⟨w.heap.size, 2, none⟩ = some (.int .i64 W) ∧ w'.cell? ⟨w.heap.size, 3, none⟩ = some (.int .i64 H) ∧ w'.cell? ⟨g, k * 2, none⟩ = some (.int .i64 p.1.1) ∧ w'.cell? ⟨g, k * 2 + 1, none⟩ = some (.int .i64 p.1.2))
          (go_keep)
          (first | (go_at_call 20; refine (rcounts_any _ _ _ _ _).mono ?_; rintro e w' ⟨rfl, rfl⟩; rw [HC.out]) | (go_at_call 21; refine (rin_any _ _ _ _ _ _ _ (by omega) (by omega) (by omega) (by omega)).mono ?_; rintro e w' ⟨rfl, rfl⟩; rw [HI.out]))
        go_wp2_with fail
        go_roundw
        case rel => exact ⟨k + 1, by go_num, by omega, by rw [HT.out, HW.out, HK.out]; exact ownsRow_below HO.out ((bal (bal (bre wr) _) _).drew), bstep HB.out ((bal (bal (bre wr) _) _).drew)⟩
        case measure => simp [intOf]; omega
      · have hw := wiR_snoc_in (l := l.take k) HC.out hin
        have HW := Lib.hid hw
        have HI := Lib.hid hin
        clear hw hin
        go_wp2_with fail
        go_region_held3 (fun w' => w'.cell? ⟨w.heap.size, 0, none⟩ = some (.int .i64 X) ∧ w'.cell? ⟨w.heap.size, 1, none⟩ = some (.int .i64 Y) ∧ w'.cell? ⟨w.heap.size, 2, none⟩ = some (.int .i64 W) ∧ w'.cell? ⟨w.heap.size, 3, none⟩ = some (.int .i64 H) ∧ w'.cell? ⟨g, k * 2, none⟩ = some (.int .i64 p.1.1) ∧ w'.cell? ⟨g, k * 2 + 1, none⟩ = some (.int .i64 p.1.2))
          (go_keep)
          (first | (go_at_call 20; refine (rcounts_any _ _ _ _ _).mono ?_; rintro e w' ⟨rfl, rfl⟩; rw [HC.out]) | (go_at_call 21; refine (rin_any _ _ _ _ _ _ _ (by omega) (by omega) (by omega) (by omega)).mono ?_; rintro e w' ⟨rfl, rfl⟩; rw [HI.out]))
        have bV : Below wr.heap.size wr ((wr.alloc (.cells #[.int .i64 X, .int .i64 Y, .int .i64 W, .int .i64 H] 45)).alloc (.cells #[.int .i64 X, .int .i64 Y, .int .i64 W, .int .i64 H] 45)).drew := (bal (bal (bre wr) _) _).drew
        obtain ⟨V, hV⟩ : ∃ V, ((wr.alloc (.cells #[.int .i64 X, .int .i64 Y, .int .i64 W, .int .i64 H] 45)).alloc (.cells #[.int .i64 X, .int .i64 Y, .int .i64 W, .int .i64 H] 45)).drew = V := ⟨_, rfl⟩
        rw [hV] at bV ⊢
        have v0 := (bV.cell (p := ⟨g, k * 2, none⟩) zg).trans c0
        have v1 := (bV.cell (p := ⟨g, k * 2 + 1, none⟩) zg).trans c1
        have hVs := bV.size
        have OV := Lib.hid (ownsRow_below HO.out bV)
        have BV := Lib.hid bV
        clear hV c0 c1 r0 r1 r2 r3 bV
        go_wp2_with (at_builtin; refine wpList_append_own _ rfl _ _ 25 rfl Z.heap.size 23 i0 _ 2 16 Try.underlying25 hi hz0 hz1 hz2 rfl (by decide) _ _ _ rfl (OV.out.alloc _) ⟨V.heap.size, 0, none⟩ 1 1 [.int .i64 p.1.1, .int .i64 p.1.2] rfl rfl (two_new _ _ _ _) (by simp [Value.oneCell']) (by simp only [maxLen]; omega) (by omega) (by simp; omega) ?_; intro v' w4 hown' hgrow _)
        have hB4 : Below Z.heap.size Z w4 := ((bstep HB.out BV.out).alloc (by omega) _).grown hgrow (by simp; omega) (own_ge OV.out)
        go_roundw
        case rel => exact ⟨k + 1, by go_num, by omega, by rw [HT.out, HW.out, pcs_snoc, List.length_append, HK.out]; exact hown', hB4⟩
        case measure => simp [intOf]; omega
    · obtain rfl : k = n := by omega
      go_wp2_with fail
      go_ret
      have h := HO.out
      have hz := HZS.out
      rw [← HK.out, List.take_of_length_le (by rw [HN.out]; exact Nat.le_refl _)] at h
      exact ⟨_, rfl, ownsRow_base h (by omega), bstep BB.out HB.out⟩

set_option maxRecDepth 100000 in
set_option maxHeartbeats 1000000 in
theorem within_no (A : Option Addr) (n c : Nat) (X Y W H : Int) (w : World) (hc : cntB X Y W H = false) (hl : n ≤ 1000000) :
    Calls Try.prog 22 #[.slice A n c, .agg #[.int .i64 X, .int .i64 Y, .int .i64 W, .int .i64 H]] w fun e w' => e = .returned (.slice none 0 0) ∧ Below w.heap.size w w' := by
  have HC := Lib.hid hc
  clear hc
  go_enter Try.func22, Try.ntmps22
  go_wp2_with fail
  have bZ := Blk.new w 45 #[.int .i64 X, .int .i64 Y, .int .i64 W, .int .i64 H]
  have bB := bal (bre w) (.cells #[.int .i64 X, .int .i64 Y, .int .i64 W, .int .i64 H] 45)
  obtain ⟨Z, hZ⟩ : ∃ Z, w.alloc (.cells #[.int .i64 X, .int .i64 Y, .int .i64 W, .int .i64 H] 45) = Z := ⟨_, rfl⟩
  rw [hZ] at bZ bB ⊢
  have BZ := Lib.hid bZ
  have BB := Lib.hid bB
  clear hZ bZ bB
  go_loopw [5, 6] (fun out i wr => ∃ k : Nat, i = .int .i64 k ∧ out = .slice none 0 0 ∧ k ≤ n ∧ Below Z.heap.size Z wr) (fun _ i _ => n - (intOf i).toNat)
  case atStart => exact ⟨0, rfl, rfl, by omega, bre Z⟩
  case round =>
    obtain ⟨k, rfl, rfl, hk, hB⟩ := hrel
    have HB := Lib.hid hB
    have bR := BZ.out.belowS hB
    have r0 : wr.cell? ⟨w.heap.size, 0, none⟩ = some (.int .i64 X) := (bR.cell 0).trans rfl
    have r1 : wr.cell? ⟨w.heap.size, 1, none⟩ = some (.int .i64 Y) := (bR.cell 1).trans rfl
    have r2 : wr.cell? ⟨w.heap.size, 2, none⟩ = some (.int .i64 W) := (bR.cell 2).trans rfl
    have r3 : wr.cell? ⟨w.heap.size, 3, none⟩ = some (.int .i64 H) := (bR.cell 3).trans rfl
    have zz := bR.lt
    clear hB bR
    by_cases hlt : k < n
    · have k1 : (k : Int) < (n : Int) := by omega
      go_wp2_with fail
      refine wp_region_noPanic ?_
      refine wp_region_held_drew (S := (fun w' => w'.cell? ⟨w.heap.size, 0, none⟩ = some (.int .i64 X) ∧ w'.cell? ⟨w.heap.size, 1, none⟩ = some (.int .i64 Y) ∧ w'.cell? ⟨w.heap.size, 2, none⟩ = some (.int .i64 W) ∧ w'.cell? ⟨w.heap.size, 3, none⟩ = some (.int .i64 H))) (by kernel_rfl) ?_ (fun hHeld => ?_)
      · (try dsimp only)
        go_keep
      refine take_at 0 13 (.agg #[.int .i64 X, .int .i64 Y, .int .i64 W, .int .i64 H]) rfl rfl (by kernel_rfl) (by kernel_rfl) (by kernel_rfl) (fun _ _ _ h => h) (Or.inl ⟨by rfl, ?_⟩) (by assumption) ?_
      · intro W0 hSw
        (try dsimp only at hSw)
        go_simp
      simp only [List.set_cons_zero, List.set_cons_succ]
      refine wpAnyH_ready (rs := [1]) (by kernel_rfl) (by simp) ?_
      refine AllReadyH.cons rfl (fun K hK => ?_) AllReadyH.nil
      go_simp
      refine (rcounts_any _ _ _ _ _).mono ?_
      rintro e w' ⟨rfl, rfl⟩
      rw [HC.out]
      refine hK.out _ _ ?_ (fun hHeld => ?_)
      · (try dsimp only)
        go_keep
      clear hK K
      refine take_at 2 15 (.bool false) rfl rfl (by kernel_rfl) (by kernel_rfl) (by kernel_rfl) (fun _ _ _ h => h) (Or.inl ⟨by rfl, ?_⟩) (by assumption) ?_
      · intro W0 hSw
        (try dsimp only at hSw)
        go_simp
      simp only [List.set_cons_zero, List.set_cons_succ]
      refine take_at 3 16 (undef) rfl rfl (by kernel_rfl) (by kernel_rfl) (by kernel_rfl) (fun _ _ _ h => h) (Or.inr ⟨by rfl, rfl⟩) (by assumption) ?_
      simp only [List.set_cons_zero, List.set_cons_succ]
      refine take_at 4 17 (undef) rfl rfl (by kernel_rfl) (by kernel_rfl) (by kernel_rfl) (fun _ _ _ h => h) (Or.inr ⟨by rfl, rfl⟩) (by assumption) ?_
      simp only [List.set_cons_zero, List.set_cons_succ]
      refine take_at 5 18 (undef) rfl rfl (by kernel_rfl) (by kernel_rfl) (by kernel_rfl) (fun _ _ _ h => h) (Or.inr ⟨by rfl, rfl⟩) (by assumption) ?_
      simp only [List.set_cons_zero, List.set_cons_succ]
      refine take_at 6 19 (undef) rfl rfl (by kernel_rfl) (by kernel_rfl) (by kernel_rfl) (fun _ _ _ h => h) (Or.inr ⟨by rfl, rfl⟩) (by assumption) ?_
      simp only [List.set_cons_zero, List.set_cons_succ]
      refine take_at 7 20 (undef) rfl rfl (by kernel_rfl) (by kernel_rfl) (by kernel_rfl) (fun _ _ _ h => h) (Or.inr ⟨by rfl, rfl⟩) (by assumption) ?_
      simp only [List.set_cons_zero, List.set_cons_succ]
      refine take_at 8 21 (undef) rfl rfl (by kernel_rfl) (by kernel_rfl) (by kernel_rfl) (fun _ _ _ h => h) (Or.inr ⟨by rfl, rfl⟩) (by assumption) ?_
      simp only [List.set_cons_zero, List.set_cons_succ]
      refine take_at 9 22 (undef) rfl rfl (by kernel_rfl) (by kernel_rfl) (by kernel_rfl) (fun _ _ _ h => h) (Or.inr ⟨by rfl, rfl⟩) (by assumption) ?_
      simp only [List.set_cons_zero, List.set_cons_succ]
      refine take_at 10 23 (undef) rfl rfl (by kernel_rfl) (by kernel_rfl) (by kernel_rfl) (fun _ _ _ h => h) (Or.inr ⟨by rfl, rfl⟩) (by assumption) ?_
      simp only [List.set_cons_zero, List.set_cons_succ]
      refine take_at 11 24 (undef) rfl rfl (by kernel_rfl) (by kernel_rfl) (by kernel_rfl) (fun _ _ _ h => h) (Or.inr ⟨by rfl, rfl⟩) (by assumption) ?_
      simp only [List.set_cons_zero, List.set_cons_succ]
      refine take_at 12 25 (undef) rfl rfl (by kernel_rfl) (by kernel_rfl) (by kernel_rfl) (fun _ _ _ h => h) (Or.inr ⟨by rfl, rfl⟩) (by assumption) ?_
      simp only [List.set_cons_zero, List.set_cons_succ]
      refine take_at 13 26 (undef) rfl rfl (by kernel_rfl) (by kernel_rfl) (by kernel_rfl) (fun _ _ _ h => h) (Or.inr ⟨by rfl, rfl⟩) (by assumption) ?_
      simp only [List.set_cons_zero, List.set_cons_succ]
      refine take_at 14 27 (undef) rfl rfl (by kernel_rfl) (by kernel_rfl) (by kernel_rfl) (fun _ _ _ h => h) (Or.inr ⟨by rfl, rfl⟩) (by assumption) ?_
      simp only [List.set_cons_zero, List.set_cons_succ]
      refine take_at 15 28 (.bool false) rfl rfl (by kernel_rfl) (by kernel_rfl) (by kernel_rfl) (fun _ _ _ h => h) (Or.inl ⟨by rfl, ?_⟩) (by assumption) ?_
      · intro W0 hSw
        (try dsimp only at hSw)
        go_simp
      simp only [List.set_cons_zero, List.set_cons_succ]
      refine wpAnyH_done (by kernel_rfl) ?_ _
      refine NoPanic.normal ?_
      all_goals
        go_wp2_with fail
        go_roundw
        case rel => exact ⟨k + 1, by go_num, rfl, by omega, bstep HB.out ((bal (bre wr) _).drew)⟩
        case measure => simp [intOf]; omega
    · obtain rfl : k = n := by omega
      go_wp2_with fail
      go_ret
      exact ⟨rfl, bstep BB.out HB.out⟩

set_option maxHeartbeats 1000000 in
theorem within_zero (A : Option Addr) (c : Nat) (X Y W H : Int) (w : World) :
    Calls Try.prog 22 #[.slice A 0 c, .agg #[.int .i64 X, .int .i64 Y, .int .i64 W, .int .i64 H]] w fun e w' => ∃ v', e = .returned v' ∧ RdP w' v' (unR (wiR X Y W H [])) ∧ Below w.heap.size w w' := by
  have hv : unR (wiR X Y W H []) = [] := by simp [wiR, inR, unR]
  have HV := Lib.hid hv
  clear hv
  go_enter Try.func22, Try.ntmps22
  go_wp2_with fail
  refine wp_loop_rounds 1 ?_
  rw [rounds_succ]
  go_wp2_with fail
  go_ret
  exact ⟨_, rfl, by rw [HV.out]; exact .inl ⟨rfl, _, _, rfl⟩, bal (bre w) _⟩

theorem within_any (v : Value) (l : List PtR) (X Y W H : Int) (w : World) (hr : RdP w v (unR l)) (hl : l.length ≤ 1000000) :
    Calls Try.prog 22 #[v, .agg #[.int .i64 X, .int .i64 Y, .int .i64 W, .int .i64 H]] w fun e w' => ∃ v', e = .returned v' ∧ RdP w' v' (unR (wiR X Y W H l)) ∧ Below w.heap.size w w' := by
  cases hc : cntB X Y W H
  · obtain ⟨A, c, rfl⟩ := hr.form
    refine (within_no A _ c X Y W H w hc (by simpa [unR] using hl)).mono fun e w' ⟨he, hb⟩ => ⟨_, he, ?_, hb⟩
    rw [wiR_nil _ _ _ _ _ hc]
    exact .inl ⟨rfl, _, _, rfl⟩
  · rcases hr with ⟨h0, A, c, rfl⟩ | ⟨g, c, rfl, hg, hcell⟩
    · obtain rfl : l = [] := by simpa [unR] using h0
      exact within_zero A c X Y W H w
    · have := within_go g c l X Y W H w hc hl hcell hg
      simp only [unR, List.length_map]
      exact this.mono fun e w' ⟨v', he, ho, hb⟩ => ⟨v', he, RdP.of_own ho rfl, hb⟩

end Go.Proofs.Ytcdecglbkcllaaa.Ln
