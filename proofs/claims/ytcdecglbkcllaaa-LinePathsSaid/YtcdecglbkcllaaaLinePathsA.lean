/-
  The walk of the law's points: near pairs as points.
  What the law LinePaths calls, of whatever list of near points; what line.Region tells is what the document tells.
-/
import Derived.Test.YtcdecglbkcllaaaLinePathZ
import Derived.Test.YtcdecglbkcllaaaRefSpans
import Derived.Test.YtcdecglbkcllaaaRefRects
namespace Go.Proofs.Ytcdecglbkcllaaa
open Go.RowKit

/-- near numbers. -/
def nearB (p : Int × Int) : Prop := (-128 ≤ p.1 ∧ p.1 ≤ 127) ∧ -128 ≤ p.2 ∧ p.2 ≤ 127
/-- a slice of near pairs reads as these. -/
def RdN (w : World) (A : Option Addr) (n : Nat) (ps : List (Int × Int)) : Prop :=
  ps.length = n ∧ (0 < n → ∃ b off, A = some ⟨b, off, none⟩ ∧ b < w.heap.size ∧ ∀ k p, ps[k]? = some p → w.cell? ⟨b, off + k * 2, none⟩ = some (.int .i8 p.1) ∧ w.cell? ⟨b, off + k * 2 + 1, none⟩ = some (.int .i8 p.2))
theorem RdN.below {w w' : World} {A : Option Addr} {n : Nat} {ps : List (Int × Int)} (h : RdN w A n ps) (hb : Below w.heap.size w w') : RdN w' A n ps :=
  ⟨h.1, fun hn => by
    obtain ⟨b, off, e, hl, hc⟩ := h.2 hn
    exact ⟨b, off, e, Nat.lt_of_lt_of_le hl hb.size, fun k p hp => ⟨(hb.cell (p := ⟨b, off + k * 2, none⟩) hl).trans (hc k p hp).1, (hb.cell (p := ⟨b, off + k * 2 + 1, none⟩) hl).trans (hc k p hp).2⟩⟩⟩
/-- the pairs as points. -/
def ptsN (ps : List (Int × Int)) : List Ln.PtR := ps.map fun p => ptN p.1 p.2
theorem ptsN_take {ps : List (Int × Int)} {k : Nat} {p : Int × Int} (h : ps[k]? = some p) (hp : nearB p) : Ln.pcs (ptsN (ps.take (k + 1))) = Ln.pcs (ptsN (ps.take k)) ++ [.int .i64 p.1, .int .i64 p.2] := by
  rw [List.take_add_one, h]
  simp only [ptsN, List.map_append, Option.toList_some, List.map_cons, List.map_nil]
  rw [Ln.pcs_snoc, ptN_x hp, ptN_y hp]

set_option maxRecDepth 100000 in
set_option maxHeartbeats 4000000 in
theorem points_any (A : Option Addr) (n c : Nat) (ps : List (Int × Int)) (w : World) (hn : n ≤ 1000000) (hr : RdN w A n ps) (hok : ∀ p ∈ ps, nearB p) :
    Calls Try.prog 27 #[.slice A n c] w fun e w' => ∃ v', e = .returned v' ∧ w'.ownsRow w.heap.size 23 2 v' n (Ln.pcs (ptsN ps)) ∧ Below w.heap.size w w' := by
  obtain ⟨i0, hi, hz0, hz1, hz2⟩ := info_parts Ln.Try.infoPt
  have HL := Lib.hid hr.1
  have HR := Lib.hid hr.2
  have HOK := Lib.hid hok
  clear hr hok
  go_enter Try.func27, Try.ntmps27
  go_wp2_with fail
  go_loopw [3, 4] (fun v i wr => ∃ k : Nat, i = .int .i64 k ∧ k ≤ n ∧ wr.ownsRow w.heap.size 23 2 v k (Ln.pcs (ptsN (ps.take k))) ∧ Below w.heap.size w wr) (fun _ i _ => n - (intOf i).toNat)
  case atStart => exact ⟨0, rfl, by omega, by simpa [ptsN, Ln.pcs] using World.ownsRow_nil w w.heap.size 23 2, bre w⟩
  case round =>
    obtain ⟨k, rfl, hk, ho, hB⟩ := hrel
    have HO := Lib.hid ho
    have HB := Lib.hid hB
    have hBs := hB.size
    by_cases hlt : k < n
    · obtain ⟨p, hp⟩ : ∃ p, ps[k]? = some p := ⟨_, List.getElem?_eq_getElem (by have := HL.out; omega)⟩
      obtain ⟨b, off, rfl, hb0, hcl⟩ := HR.out (by omega)
      obtain ⟨f0, f1⟩ := hcl k p hp
      have a0 := (hB.cell (p := ⟨b, off + k * 2, none⟩) hb0).trans f0
      have a1 := (hB.cell (p := ⟨b, off + k * 2 + 1, none⟩) hb0).trans f1
      have hbr : b < wr.heap.size := by omega
      have hnb := HOK.out p (List.mem_of_getElem? hp)
      have HT := Lib.hid (ptsN_take hp hnb)
      have wx : IntKind.i64.wrap p.1 = p.1 := IntWalk.i64_in _ (by unfold nearB at hnb; omega)
      have wy' : IntKind.i64.wrap p.2 = p.2 := IntWalk.i64_in _ (by unfold nearB at hnb; omega)
      have k1 : (k : Int) < (n : Int) := by omega
      have k0 : (0 : Int) ≤ (k : Int) := by omega
      obtain ⟨Ao, co, hvo, _⟩ := own_form ho
      subst hvo
      clear ho hB hp hcl hnb
      go_upto_region 5 with fail
      refine wp_region_noPanic ?_
      refine wp_region_held_drew (S := (fun w' => w'.cell? ⟨b, off + k * 2, none⟩ = some (.int .i8 p.1) ∧ w'.cell? ⟨b, off + k * 2 + 1, none⟩ = some (.int .i8 p.2))) (by kernel_rfl) ?_ (fun hHeld => ?_)
      · (try dsimp only)
        exact ⟨a0, a1⟩
      refine Ln.take_at 0 11 (.slice Ao k co) rfl rfl (by kernel_rfl) (by kernel_rfl) (by kernel_rfl) (fun _ _ _ h => h) (Or.inl ⟨by rfl, ?_⟩) (by assumption) ?_
      · intro W0 hSw
        (try dsimp only at hSw)
        go_simp
      simp only [List.set_cons_zero, List.set_cons_succ]
      refine Ln.take_at 1 12 (.slice (some ⟨b, off, none⟩) n c) rfl rfl (by kernel_rfl) (by kernel_rfl) (by kernel_rfl) (fun _ _ _ h => h) (Or.inl ⟨by rfl, ?_⟩) (by assumption) ?_
      · intro W0 hSw
        (try dsimp only at hSw)
        go_simp
      simp only [List.set_cons_zero, List.set_cons_succ]
      refine Ln.take_at 2 13 (.int .i64 (k : Int)) rfl rfl (by kernel_rfl) (by kernel_rfl) (by kernel_rfl) (fun _ _ _ h => h) (Or.inl ⟨by rfl, ?_⟩) (by assumption) ?_
      · intro W0 hSw
        (try dsimp only at hSw)
        go_simp
      simp only [List.set_cons_zero, List.set_cons_succ]
      refine Ln.take_at 3 14 (.pointer (some ⟨b, off + k * 2, none⟩)) rfl rfl (by kernel_rfl) (by kernel_rfl) (by kernel_rfl) (fun _ _ _ h => h) (Or.inl ⟨by rfl, ?_⟩) (by assumption) ?_
      · intro W0 hSw
        (try dsimp only at hSw)
        go_simp
      simp only [List.set_cons_zero, List.set_cons_succ]
      refine Ln.take_at 4 15 (.pointer (some ⟨b, off + k * 2, none⟩)) rfl rfl (by kernel_rfl) (by kernel_rfl) (by kernel_rfl) (fun _ _ _ h => h) (Or.inl ⟨by rfl, ?_⟩) (by assumption) ?_
      · intro W0 hSw
        (try dsimp only at hSw)
        go_simp
      simp only [List.set_cons_zero, List.set_cons_succ]
      refine Ln.take_at 5 16 (.int .i8 p.1) rfl rfl (by kernel_rfl) (by kernel_rfl) (by kernel_rfl) (fun _ _ _ h => h) (Or.inl ⟨by rfl, ?_⟩) (by assumption) ?_
      · intro W0 hSw
        (try dsimp only at hSw)
        go_simp
      simp only [List.set_cons_zero, List.set_cons_succ]
      refine Ln.take_at 6 17 (.int .i64 p.1) rfl rfl (by kernel_rfl) (by kernel_rfl) (by kernel_rfl) (fun _ _ _ h => h) (Or.inl ⟨by rfl, ?_⟩) (by assumption) ?_
      · intro W0 hSw
        (try dsimp only at hSw)
        go_simp
      simp only [List.set_cons_zero, List.set_cons_succ]
      refine Ln.take_at 7 18 (.slice (some ⟨b, off, none⟩) n c) rfl rfl (by kernel_rfl) (by kernel_rfl) (by kernel_rfl) (fun _ _ _ h => h) (Or.inl ⟨by rfl, ?_⟩) (by assumption) ?_
      · intro W0 hSw
        (try dsimp only at hSw)
        go_simp
      simp only [List.set_cons_zero, List.set_cons_succ]
      refine Ln.take_at 8 19 (.int .i64 (k : Int)) rfl rfl (by kernel_rfl) (by kernel_rfl) (by kernel_rfl) (fun _ _ _ h => h) (Or.inl ⟨by rfl, ?_⟩) (by assumption) ?_
      · intro W0 hSw
        (try dsimp only at hSw)
        go_simp
      simp only [List.set_cons_zero, List.set_cons_succ]
      refine Ln.take_at 9 20 (.pointer (some ⟨b, off + k * 2, none⟩)) rfl rfl (by kernel_rfl) (by kernel_rfl) (by kernel_rfl) (fun _ _ _ h => h) (Or.inl ⟨by rfl, ?_⟩) (by assumption) ?_
      · intro W0 hSw
        (try dsimp only at hSw)
        go_simp
      simp only [List.set_cons_zero, List.set_cons_succ]
      refine Ln.take_at 10 21 (.pointer (some ⟨b, off + k * 2 + 1, none⟩)) rfl rfl (by kernel_rfl) (by kernel_rfl) (by kernel_rfl) (fun _ _ _ h => h) (Or.inl ⟨by rfl, ?_⟩) (by assumption) ?_
      · intro W0 hSw
        (try dsimp only at hSw)
        go_simp
      simp only [List.set_cons_zero, List.set_cons_succ]
      refine Ln.take_at 11 22 (.int .i8 p.2) rfl rfl (by kernel_rfl) (by kernel_rfl) (by kernel_rfl) (fun _ _ _ h => h) (Or.inl ⟨by rfl, ?_⟩) (by assumption) ?_
      · intro W0 hSw
        (try dsimp only at hSw)
        go_simp
      simp only [List.set_cons_zero, List.set_cons_succ]
      refine Ln.take_at 12 23 (.int .i64 p.2) rfl rfl (by kernel_rfl) (by kernel_rfl) (by kernel_rfl) (fun _ _ _ h => h) (Or.inl ⟨by rfl, ?_⟩) (by assumption) ?_
      · intro W0 hSw
        (try dsimp only at hSw)
        go_simp
      simp only [List.set_cons_zero, List.set_cons_succ]
      refine Ln.take_at 13 24 (.agg #[.int .i64 p.1, .int .i64 p.2]) rfl rfl (by kernel_rfl) (by kernel_rfl) (by kernel_rfl) (fun _ _ _ h => h) (Or.inl ⟨by rfl, ?_⟩) (by assumption) ?_
      · intro W0 hSw
        (try dsimp only at hSw)
        go_simp
      simp only [List.set_cons_zero, List.set_cons_succ]
      refine wpAnyH_ready (rs := [14]) (by kernel_rfl) (by simp) ?_
      refine AllReadyH.cons rfl (fun K hK => ?_) AllReadyH.nil
      go_simp
      have O9 := Lib.hid (HO.out.drew.alloc (.cells #[.int .i64 p.1, .int .i64 p.2] 23))
      have HB9 := Lib.hid (bal ((bre wr).drew) (.cells #[.int .i64 p.1, .int .i64 p.2] 23))
      refine hK.out _ _ ?_ (fun hHeld => ?_)
      · (try dsimp only)
        exact ⟨(HB9.out.cell (p := ⟨b, off + k * 2, none⟩) hbr).trans a0, (HB9.out.cell (p := ⟨b, off + k * 2 + 1, none⟩) hbr).trans a1⟩
      clear hK K
      refine wpAnyH_ready (rs := [15]) (by kernel_rfl) (by simp) ?_
      refine AllReadyH.cons rfl (fun K hK => ?_) AllReadyH.nil
      have hsz1 : w.heap.size ≤ (wr.drew.alloc (.cells #[.int .i64 p.1, .int .i64 p.2] 23)).heap.size := by
        have : wr.drew.heap.size = wr.heap.size := rfl
        rw [World.size_alloc, this]
        omega
      refine wanted_plain rfl ?_
      refine wp_append_own _ _ _ 25 rfl w.heap.size 23 i0 _ 2 16 Try.underlying25 hi hz0 hz1 hz2 rfl (by decide) _ _ _ rfl O9.out ⟨wr.heap.size, 0, none⟩ 1 1 [.int .i64 p.1, .int .i64 p.2] rfl rfl (two_newI _ _ _ _) (by simp [Value.oneCell']) (by simp only [maxLen]; omega) (by omega) hsz1 ?_
      intro v' w4 hown' hgrow _
      obtain ⟨A4, c4, hv4, _⟩ := own_form hown'
      subst hv4
      have HO4 := Lib.hid hown'
      have HB10 := Lib.hid ((bstep HB.out HB9.out).grown hgrow hsz1 (own_ge HO.out))
      clear hown' hgrow
      refine hK.out _ _ ?_ (fun hHeld => ?_)
      · (try dsimp only)
        exact ⟨(HB10.out.cell (p := ⟨b, off + k * 2, none⟩) hb0).trans f0, (HB10.out.cell (p := ⟨b, off + k * 2 + 1, none⟩) hb0).trans f1⟩
      clear hK K
      refine Ln.take_at 16 3 (.slice A4 (k + 1) c4) rfl rfl (by kernel_rfl) (by kernel_rfl) (by kernel_rfl) (fun _ _ _ h => h) (Or.inl ⟨by rfl, ?_⟩) (by assumption) ?_
      · intro W0 hSw
        (try dsimp only at hSw)
        go_simp
      simp only [List.set_cons_zero, List.set_cons_succ]
      refine wpAnyH_done (by kernel_rfl) ?_ _
      refine NoPanic.normal ?_
      go_wp2_with fail
      go_roundw
      case rel => exact ⟨k + 1, by go_num, by omega, by rw [HT.out]; exact HO4.out, HB10.out⟩
      case measure => simp [intOf]; omega
    · obtain rfl : k = n := by omega
      have e : ps.take k = ps := List.take_of_length_le (by rw [HL.out]; exact Nat.le_refl _)
      rw [e] at ho
      have HO2 := Lib.hid ho
      clear ho hB HO e
      go_wp2_with fail
      go_ret
      exact ⟨_, rfl, HO2.out, HB.out⟩

end Go.Proofs.Ytcdecglbkcllaaa

namespace Go.Proofs.Ytcdecglbkcllaaa
open Go.RowKit

theorem own_points {w : World} {base : Nat} {v : Value} {l : List Ln.PtR} (h : w.ownsRow base 23 2 v l.length (Ln.pcs l)) (hl : l ≠ []) : ∃ g c, v = .slice (some ⟨g, 0, none⟩) l.length c ∧ g < w.heap.size ∧ ∀ k p, (Ln.unR l)[k]? = some p → w.cell? ⟨g, k * 2, none⟩ = some (.int .i64 p.1) ∧ w.cell? ⟨g, k * 2 + 1, none⟩ = some (.int .i64 p.2) := by
  rcases Ln.RdP.of_own h rfl with ⟨e, _⟩ | ⟨g, c, e, hg, hc⟩
  · simp [Ln.unR] at e; exact absurd e hl
  · exact ⟨g, c, by rw [e]; simp [Ln.unR], hg, hc⟩
theorem own_zero {w : World} {base e size : Nat} {v : Value} {xs : List Value} (h : w.ownsRow base e size v 0 xs) : ∃ A c, v = .slice A 0 c := by
  obtain ⟨A, c, e, _⟩ := own_form h
  exact ⟨A, c, e⟩

theorem lp_path (base : Nat) (v : Value) (l : List Ln.PtR) (X Y W H : Int) (w : World) (h : w.ownsRow base 23 2 v l.length (Ln.pcs l)) (hl : l.length ≤ 10) (hlong : Ln.lenP l ≤ 65536) (hb : Ln.bigB X Y W H = false) :
    Calls Try.prog 23 #[.agg #[.int .i64 X, .int .i64 Y, .int .i64 W, .int .i64 H], v] w fun e w' => ∃ v', e = .returned (.tuple #[v', .int .i64 0]) ∧ w'.ownsRow w.heap.size 23 2 v' (Ln.wiR X Y W H (pathA l l.length)).length (Ln.pcs (Ln.wiR X Y W H (pathA l l.length))) ∧ Below w.heap.size w w' := by
  by_cases h0 : l = []
  · subst h0
    obtain ⟨A, c, rfl⟩ := own_zero h
    refine (path_none A c X Y W H w hb).mono fun e w' ⟨he, hbb⟩ => ⟨_, he, ?_, hbb⟩
    rw [← pathL_all]
    simpa [Ln.pathL, Ln.pcs] using World.ownsRow_nil w' w.heap.size 23 2
  · refine (Ln.path_any v l X Y W H w h0 (by omega) (Ln.RdP.of_own h rfl)).mono fun e w' ⟨hbb, hq⟩ => ?_
    rcases hq with ⟨q, _⟩ | ⟨_, q, _⟩ | ⟨_, _, v', he, ho⟩
    · rw [hb] at q; cases q
    · omega
    · rw [pathL_all] at ho
      exact ⟨v', he, ho, hbb⟩
theorem lp_rpath (base : Nat) (v : Value) (l : List Ln.PtR) (w : World) (h : w.ownsRow base 23 2 v l.length (Ln.pcs l)) (hl : l.length ≤ 10) (hlong : Ln.lenP l ≤ 65536) :
    Calls Try.prog 28 #[v] w fun e w' => ∃ v', e = .returned v' ∧ w'.ownsRow w.heap.size 23 2 v' (pathA l l.length).length (Ln.pcs (pathA l l.length)) ∧ Below w.heap.size w w' := by
  by_cases h0 : l = []
  · subst h0
    obtain ⟨A, c, rfl⟩ := own_zero h
    refine (rpath_none A c w).mono fun e w' ⟨he, hbb⟩ => ⟨_, he, ?_, hbb⟩
    simpa [pathA, Ln.pcs] using World.ownsRow_nil w' w.heap.size 23 2
  · obtain ⟨g, c, rfl, hg, hc⟩ := own_points h h0
    exact rpath_go g c l.length l w rfl (by omega) hg hlong hc
theorem lp_region (base : Nat) (v : Value) (l : List Ln.PtR) (w : World) (h : w.ownsRow base 23 2 v l.length (Ln.pcs l)) (hl : l.length ≤ 10) (hlong : Ln.lenP l ≤ 65536) :
    Calls Try.prog 24 #[v] w fun e w' => ∃ (out : List RC) (A' : Option Addr) (c' : Nat), e = .returned (.agg #[.slice A' out.length c']) ∧ RdR w' A' out.length out ∧ Canon out ∧ (∀ x y, InR out x y ↔ ∃ q ∈ pathA l l.length, q.1 = (x, y) ∧ x < 1048576 ∧ y < 1048576) ∧ out.length ≤ 1000000000000 ∧ Below w.heap.size w w' := by
  by_cases h0 : l = []
  · subst h0
    obtain ⟨A, c, rfl⟩ := own_zero h
    exact (region_none A c w).mono fun e w' ⟨out, A', c', he, h1, h2, h3, h4, h5⟩ => ⟨out, A', c', he, h1, h2, fun x y => by rw [h3]; simp [InR, pathA], h4, h5⟩
  · obtain ⟨g, c, rfl, hg, hc⟩ := own_points h h0
    exact region_ok g c l.length l w rfl ⟨List.length_pos_iff.2 h0, by omega⟩ hg hc hlong
theorem lp_dots (base : Nat) (v : Value) (l : List Ln.PtR) (w : World) (h : w.ownsRow base 23 2 v l.length (Ln.pcs l)) (hl : l.length ≤ 100000) :
    Calls Try.prog 32 #[v] w fun e w' => ∃ v', e = .returned v' ∧ w'.ownsRow w.heap.size 45 4 v' l.length (rcs (dotsL l)) ∧ Below w.heap.size w w' := by
  by_cases h0 : l = []
  · subst h0
    obtain ⟨A, c, rfl⟩ := own_zero h
    refine (dots_none A c w).mono fun e w' ⟨he, hbb⟩ => ⟨_, he, ?_, hbb⟩
    simpa [dotsL, rcs] using World.ownsRow_nil w' w.heap.size 45 4
  · obtain ⟨g, c, rfl, hg, hc⟩ := own_points h h0
    exact dots_go g c l.length l w rfl (by omega) hg hc
/-- the dots' places are the places. -/
theorem dots_in (P : List Ln.PtR) (x y : Int) : InR ((dotsL P).filter RC.cnt) x y ↔ ∃ q ∈ P, q.1 = (x, y) ∧ x < 1048576 ∧ y < 1048576 := by
  constructor
  · rintro ⟨r, hr, h⟩
    obtain ⟨hr, hc⟩ := List.mem_filter.1 hr
    obtain ⟨q, hq, rfl⟩ := List.mem_map.1 hr
    have hc := (cnt_iff3 _).1 hc
    dsimp only at h hc
    exact ⟨q, hq, Prod.ext (by dsimp only; omega) (by dsimp only; omega), by omega, by omega⟩
  · rintro ⟨q, hq, e, hx, hy⟩
    have hb := Ln.right_bd q.2
    have e1 : q.1.1 = x := congrArg Prod.fst e
    have e2 : q.1.2 = y := congrArg Prod.snd e
    refine ⟨⟨q.1.1, q.1.2, 1, 1⟩, List.mem_filter.2 ⟨List.mem_map.2 ⟨q, hq, rfl⟩, (cnt_iff3 _).2 ?_⟩, ?_⟩
    · dsimp only; omega
    · dsimp only; omega
/-- what the region tells is what the document tells. -/
theorem region_ref {P : List Ln.PtR} {out : List RC} (hc : Canon out) (hp : ∀ x y, InR out x y ↔ ∃ q ∈ P, q.1 = (x, y) ∧ x < 1048576 ∧ y < 1048576) : refR (dotsL P) = out := by
  obtain ⟨h1, h2⟩ := refR_ok (dotsL P)
  exact canon_uniq h1 hc (fun x y => by rw [h2, dots_in, hp])
theorem near_all {ps : List (Int × Int)} (h : ∀ p ∈ ps, nearB p) : ∀ p ∈ ptsN ps, (-128 ≤ p.1.1 ∧ p.1.1 ≤ 127) ∧ -128 ≤ p.1.2 ∧ p.1.2 ≤ 127 := fun p hp => by
  obtain ⟨q, hq, rfl⟩ := List.mem_map.1 hp
  have hn := h q hq
  rw [ptN_x hn, ptN_y hn]
  exact hn
theorem near_lenP {ps : List (Int × Int)} (h : ∀ p ∈ ps, nearB p) (hl : ps.length ≤ 10) : Ln.lenP (ptsN ps) ≤ 65536 := by
  have hn := near_len (near_all h) ((ptsN ps).length - 1)
  have : (ptsN ps).length = ps.length := by simp [ptsN]
  unfold Ln.lenP
  split <;> omega

end Go.Proofs.Ytcdecglbkcllaaa
