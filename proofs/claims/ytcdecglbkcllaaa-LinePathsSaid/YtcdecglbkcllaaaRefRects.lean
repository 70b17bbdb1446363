/-
  The walk of the document's Rects: rows between edges, put together.
-/
import Derived.Test.YtcdecglbkcllaaaRefSpans
import Derived.Test.YtcdecglbkcllaaaBandTail
namespace Go.Proofs.Ytcdecglbkcllaaa
open Go.RowKit

theorem xw_inj {sp sp' : List Span} (h : sp.map (fun s : Span => (s.1, s.2 - s.1)) = sp'.map (fun s : Span => (s.1, s.2 - s.1))) : sp = sp' := by
  refine List.map_inj_right (f := fun s : Span => (s.1, s.2 - s.1)) (fun a b hab => ?_) |>.1 h
  injection hab with h1 h2
  exact Prod.ext h1 (by omega)
theorem xwL_band (y h y' h' : Int) (sp sp' : List Span) : decide (xwL (bandL y h sp) = xwL (bandL y' h' sp')) = decide (sp = sp') := by
  have e : ∀ (y h : Int) (sp : List Span), xwL (bandL y h sp) = sp.map (fun s : Span => (s.1, s.2 - s.1)) := fun y h sp => by simp [xwL, bandL, Function.comp_def]
  rw [e, e]
  by_cases hs : sp = sp'
  · subst hs; simp
  · rw [decide_eq_false hs, decide_eq_false (fun h => hs (xw_inj h))]
theorem spGo_len (C : Int → Bool) : ∀ (l : List Int) (acc : List Span), (spGo C acc l).length ≤ acc.length + l.length
  | [], acc => by simp [spGo]
  | [_], acc => by simp [spGo]
  | a :: b :: r, acc => by
    have ih := spGo_len C (b :: r) (if C a then spAdd acc a b else acc)
    have h1 := spAdd_len acc a b
    unfold spGo
    simp only [List.length_cons] at ih ⊢
    split at ih <;> simp_all <;> omega
theorem drop_two {ys : List Int} {k : Nat} {a b : Int} (ha : ys[k]? = some a) (hb : ys[k + 1]? = some b) : ∃ r, ys.drop k = a :: b :: r ∧ ys.drop (k + 1) = b :: r := by
  obtain ⟨h, rfl⟩ := List.getElem?_eq_some_iff.1 ha
  obtain ⟨h', rfl⟩ := List.getElem?_eq_some_iff.1 hb
  exact ⟨ys.drop (k + 1 + 1), by rw [List.drop_eq_getElem_cons h, List.drop_eq_getElem_cons h'], List.drop_eq_getElem_cons h'⟩
theorem rw_same {S : Int → List Span} {bs0 : List Bd} {d : Bd} {last : List Span} {ys : List Int} {k : Nat} {a b : Int} (ha : ys[k]? = some a) (hb : ys[k + 1]? = some b) (h1 : last ≠ []) (h2 : S a = last) : rwGo S (bs0 ++ [d]) last (ys.drop k) = rwGo S (bs0 ++ [⟨d.y, d.h + (b - a), d.sp⟩]) last (ys.drop (k + 1)) := by
  obtain ⟨r, e1, e2⟩ := drop_two ha hb
  rw [e1, e2, rwGo, if_pos ⟨h1, h2⟩]
  simp
/-- a band more, if there is one. -/
def newB (bs : List Bd) (a b : Int) (s : List Span) : List Bd := if s = [] then bs else bs ++ [⟨a, b - a, s⟩]
theorem rw_new {S : Int → List Span} {bs : List Bd} {last : List Span} {ys : List Int} {k : Nat} {a b : Int} (ha : ys[k]? = some a) (hb : ys[k + 1]? = some b) (h : ¬ (last ≠ [] ∧ S a = last)) : rwGo S bs last (ys.drop k) = rwGo S (newB bs a b (S a)) (S a) (ys.drop (k + 1)) := by
  obtain ⟨r, e1, e2⟩ := drop_two ha hb
  rw [e1, e2, rwGo, if_neg h]
  unfold newB
  split
  · rename_i hs; rw [hs]
  · rfl
theorem newB_flat (bs : List Bd) (a b : Int) (s : List Span) : flatB (newB bs a b s) = flatB bs ++ bandL a (b - a) s := by
  unfold newB
  split
  · rename_i hs; subst hs; simp [bandL]
  · rw [flatB_append, flatB_one]; rfl
theorem rw_end {S : Int → List Span} {bs : List Bd} {last : List Span} {ys : List Int} {k : Nat} (h : ys.length ≤ k + 1) : rwGo S bs last (ys.drop k) = bs := by
  have : (ys.drop k).length ≤ 1 := by rw [List.length_drop]; omega
  match ys.drop k, this with
  | [], _ => simp [rwGo]
  | [_], _ => simp [rwGo]
  | _ :: _ :: _, h => simp at h
theorem tall_band {bs0 : List Bd} {d : Bd} {e : Int} : tallL (flatB bs0).length (flatB (bs0 ++ [d])).length e (flatB (bs0 ++ [d])) = flatB (bs0 ++ [⟨d.y, d.h + e, d.sp⟩]) := by
  rw [flatB_append, flatB_one, flatB_append, flatB_one]
  have h := tall_end (a := (flatB bs0).length) (d := e) (out := flatB bs0 ++ d.rc) (band := []) (by simp)
  rw [List.append_nil, List.append_nil] at h
  rw [h]
  simp only [List.take_left', List.drop_left']
  rw [show d.rc = bandL d.y d.h d.sp from rfl, band_taller]
  rfl

/-- what Rects' loop has. -/
structure RrInv (B : Nat) (S : Int → List Span) (ys : List Int) (nx k : Nat) (bs : List Bd) (last : List Span) (vo vl : Value) (wr : World) : Prop where
  go : rwGo S bs last (ys.drop k) = rwGo S [] [] ys
  on : last ≠ [] → ∃ bs0 d, bs = bs0 ++ [d] ∧ d.sp = last
  hb : ∀ d ∈ bs, 0 ≤ d.h ∧ d.h ≤ 2097152 * (k : Int)
  len : (flatB bs).length ≤ k * nx
  llen : last.length ≤ nx
  own : wr.ownsRow B 45 4 vo (flatB bs).length (rcs (flatB bs))
  lown : ∃ y h, wr.ownsRow B 45 4 vl last.length (rcs (bandL y h last))
  apart : ∀ g, vo.ownBlock = some g → vl.ownBlock ≠ some g

theorem flat_h {bs : List Bd} {x : RC} (h : x ∈ flatB bs) : ∃ d ∈ bs, x.H = d.h := by
  simp only [flatB, List.mem_flatMap] at h
  obtain ⟨d, hd, hx⟩ := h
  simp only [Bd.rc, bandL, List.mem_map] at hx
  obtain ⟨s, _, rfl⟩ := hx
  exact ⟨d, hd, rfl⟩
theorem blk_tall {w : World} {g j : Nat} {t : TypeId} {l : List RC} {rest : List Value} {x : RC} {a b : Int} (h : Blk w g t (rcs l ++ rest).toArray) (hx : l[j]? = some x) : Blk ((w.setCell ⟨g, j * 4 + 3, none⟩ (.int .i64 (x.H + b - a)))) g t (rcs (l.set j (x.taller (b - a))) ++ rest).toArray := by
  have := blk_setH h hx (x.H + b - a)
  rw [show x.taller (b - a) = ⟨x.X, x.Y, x.W, x.H + b - a⟩ from by simp only [RC.taller]; rw [show x.H + (b - a) = x.H + b - a from by omega]]
  exact this
theorem rcs_oneC (rs : List RC) : ∀ u ∈ rcs rs, u.oneCell' = true := by
  intro u hu
  simp only [rcs, List.mem_flatMap] at hu
  obtain ⟨r, _, hu⟩ := hu
  simp only [RC.cells, List.mem_cons, List.not_mem_nil, or_false] at hu
  rcases hu with rfl | rfl | rfl | rfl <;> rfl
theorem rr_new {B : Nat} {rs : List RC} {ys : List Int} {nx k : Nat} {bs : List Bd} {last : List Span} {vo vl vo' vl' : Value} {wr w' : World} {a b : Int} (I : RrInv B (spR rs) ys nx k bs last vo vl wr) (ha : ys[k]? = some a) (hb : ys[k + 1]? = some b) (hab : a < b) (hab2 : b - a ≤ 2097152) (hne : ¬ (last ≠ [] ∧ spR rs a = last)) (hsl : (spR rs a).length ≤ nx)
    (own' : w'.ownsRow B 45 4 vo' ((flatB bs).length + (spR rs a).length) (rcs (flatB bs) ++ rcs (bandL a (b - a) (spR rs a)))) (lown : w'.ownsRow B 45 4 vl' (spR rs a).length (rcs (bandL a (b - a) (spR rs a)))) (apart : ∀ g, vo'.ownBlock = some g → vl'.ownBlock ≠ some g) : RrInv B (spR rs) ys nx (k + 1) (newB bs a b (spR rs a)) (spR rs a) vo' vl' w' where
  go := by rw [← I.go, rw_new ha hb hne]
  on := fun h => ⟨bs, ⟨a, b - a, spR rs a⟩, by unfold newB; rw [if_neg h], rfl⟩
  hb := fun d hd => by
    unfold newB at hd
    split at hd
    · have := I.hb d hd; omega
    · rcases List.mem_append.1 hd with hd | hd
      · have := I.hb d hd; omega
      · simp only [List.mem_singleton] at hd
        subst hd
        dsimp only
        omega
  len := by
    rw [newB_flat, List.length_append, bandL_len]
    have := I.len
    rw [Nat.add_mul, Nat.one_mul]
    omega
  llen := hsl
  own := by
    rw [newB_flat, List.length_append, bandL_len, rcs_append]
    exact own'
  lown := ⟨_, _, lown⟩
  apart := apart
theorem rr_same {B : Nat} {rs : List RC} {ys : List Int} {nx k : Nat} {bs bs0 : List Bd} {d : Bd} {last : List Span} {vo vl vo' : Value} {wr w' : World} {a b : Int} (I : RrInv B (spR rs) ys nx k bs last vo vl wr) (ha : ys[k]? = some a) (hb : ys[k + 1]? = some b) (hab : a < b) (hab2 : b - a ≤ 2097152) (h1 : last ≠ []) (h2 : spR rs a = last) (hbs : bs = bs0 ++ [d])
    (own' : w'.ownsRow B 45 4 vo' (flatB bs).length (rcs (tallL (flatB bs0).length (flatB bs).length (b - a) (flatB bs)))) (lown : ∃ y h, w'.ownsRow B 45 4 vl last.length (rcs (bandL y h last))) (hob : vo'.ownBlock = vo.ownBlock) (hd : d.sp = last) : RrInv B (spR rs) ys nx (k + 1) (bs0 ++ [⟨d.y, d.h + (b - a), d.sp⟩]) last vo' vl w' := by
  subst hbs
  have hl : (flatB (bs0 ++ [(⟨d.y, d.h + (b - a), d.sp⟩ : Bd)])).length = (flatB (bs0 ++ [d])).length := by rw [← tall_band, tall_len]
  refine ⟨by rw [← I.go, rw_same ha hb h1 h2], fun _ => ⟨bs0, _, rfl, hd⟩, fun q hq => ?_, ?_, I.llen, ?_, lown, fun g hg => I.apart g (by rw [← hob]; exact hg)⟩
  · rcases List.mem_append.1 hq with hq | hq
    · have := I.hb q (by simp [hq]); omega
    · simp only [List.mem_singleton] at hq
      subst hq
      have := I.hb d (by simp)
      dsimp only
      omega
  · rw [hl]
    have := I.len
    rw [Nat.add_mul, Nat.one_mul]
    omega
  · rw [hl, ← tall_band]
    exact own'

set_option maxRecDepth 100000 in
set_option maxHeartbeats 8000000 in
theorem rrects_any (A : Option Addr) (n c : Nat) (rs : List RC) (w : World) (hn : n ≤ 100000) (hr : RdR w A n rs) :
    Calls Try.prog 31 #[.slice A n c] w fun e w' => ∃ v', e = .returned v' ∧ w'.ownsRow w.heap.size 45 4 v' (refR rs).length (rcs (refR rs)) ∧ Below w.heap.size w w' := by
  obtain ⟨i0, hi, hz0, hz1, hz2⟩ := info_parts Try.infoR2
  have HR := Lib.hid hr
  have HL := Lib.hid hr.1
  have hxl := xsR_len rs
  have hyl := ysR_len rs
  have HXB := Lib.hid (show ∀ x ∈ xsR rs, -1048576 ≤ x ∧ x ≤ 1048576 from fun x hx => by
    obtain ⟨r, _, hc, h⟩ := ((xsR_ok rs).2 x).1 hx
    have := (cnt_iff3 r).1 hc
    omega)
  have HYB := Lib.hid (show ∀ y ∈ ysR rs, -1048576 ≤ y ∧ y ≤ 1048576 from fun y hy => by
    obtain ⟨r, _, hc, h⟩ := ((ysR_ok rs).2 y).1 hy
    have := (cnt_iff3 r).1 hc
    omega)
  have HYR := Lib.hid (ysR_ok rs).1
  rw [hr.1] at hxl hyl
  clear hr
  go_enter Try.func31, Try.ntmps31
  go_wp2_with (go_at_call 45; refine (redges_any A n c rs _ hn HR.out).mono ?_; rintro e Z ⟨vx, vy, rfl, ox, oy, bZ⟩; obtain ⟨Ax, cx, hvx, _⟩ := own_form ox; subst hvx; obtain ⟨Ay, cy, hvy, _⟩ := own_form oy; subst hvy; have HRX := Lib.hid (Rd.of_own ox); have HRY := Lib.hid (Rd.of_own oy); have HOY := Lib.hid oy; have HB0 := Lib.hid bZ; clear ox oy bZ)
  obtain ⟨nx, hnx0⟩ : ∃ nx, (xsR rs).length = nx := ⟨_, rfl⟩
  obtain ⟨my, hmy0⟩ : ∃ my, (ysR rs).length = my := ⟨_, rfl⟩
  rw [hnx0] at HRX hxl ⊢
  rw [hmy0] at HRY HOY hyl ⊢
  have hnx : nx ≤ 1000000 := by omega
  have HNX := Lib.hid hnx0
  have HMY := Lib.hid hmy0
  have hwZ := HB0.out.size
  clear hnx0 hmy0
  go_loopw [5, 6, 7] (fun vo vl i wr => ∃ (k : Nat) (bs : List Bd) (last : List Span), i = .int .i64 k ∧ (k = 0 ∨ k + 1 ≤ my) ∧ RrInv Z.heap.size (spR rs) (ysR rs) nx k bs last vo vl wr ∧ Below Z.heap.size Z wr) (fun _ _ i _ => my - (intOf i).toNat)
  case atStart => exact ⟨0, [], [], rfl, .inl rfl, ⟨rfl, fun h => absurd rfl h, (fun d hd => by cases hd), by simp [flatB], by simp, by simpa [flatB, rcs] using World.ownsRow_nil Z Z.heap.size 45 4, ⟨0, 0, by simpa [bandL, rcs] using World.ownsRow_nil Z Z.heap.size 45 4⟩, fun g h => by cases h⟩, bre Z⟩
  case round =>
    obtain ⟨k, bs, last, rfl, hk, hI, hB⟩ := hrel
    have HBZ := Lib.hid hB
    have HB := Lib.hid (bstep HB0.out hB)
    have HI := Lib.hid hI
    have hBs := hB.size
    have kw : IntKind.i64.wrap ((k : Int) + 1) = ((k + 1 : Nat) : Int) := by rw [show (k : Int) + 1 = ((k + 1 : Nat) : Int) from by omega]; exact IntWalk.i64_in _ (by omega)
    by_cases hlt : k + 1 < my
    · obtain ⟨a, ha⟩ : ∃ a, (ysR rs)[k]? = some a := ⟨_, List.getElem?_eq_getElem (by have := HMY.out; omega)⟩
      obtain ⟨b, hb⟩ : ∃ b, (ysR rs)[k + 1]? = some b := ⟨_, List.getElem?_eq_getElem (by have := HMY.out; omega)⟩
      obtain ⟨gy, rfl⟩ : ∃ gy, Ay = some ⟨gy, 0, none⟩ := by
        rcases HOY.out.2 with ⟨_, h0⟩ | ⟨g, _, _, e, _⟩
        · omega
        · injection e with e _ _; exact ⟨g, e⟩
      have hgy : gy < Z.heap.size := own_lt HOY.out gy rfl
      have hab := HYB.out a (List.mem_of_getElem? ha)
      have hbb := HYB.out b (List.mem_of_getElem? hb)
      have hlt2 : a < b := (edges_next HYR.out ha hb).1
      have f0 := own_at HOY.out ha
      have f1 := own_at HOY.out hb
      have hgD : gy < wr.heap.size := by omega
      have e0 := (hB.cell (p := ⟨gy, k, none⟩) hgy).trans f0
      have e1 := (hB.cell (p := ⟨gy, k + 1, none⟩) hgy).trans f1
      have HA := Lib.hid ha
      have HBB := Lib.hid hb
      have k1 : (k : Int) + 1 < (my : Int) := by omega
      have k2 : (k : Int) < (my : Int) := by omega
      have k3 : ((k + 1 : Nat) : Int) < (my : Int) := by omega
      have k0 : (0 : Int) ≤ (k : Int) := by omega
      have k4 : (0 : Int) ≤ (k : Int) + 1 := by omega
      have k5 : ((k : Int) + 1 < 0) = False := by simp; omega
      have wab : IntKind.i64.wrap (b - a) = b - a := IntWalk.i64_in _ (by omega)
      have hgo := hI.own
      obtain ⟨Ao, co, hvo, _⟩ := own_form hgo
      subst hvo
      obtain ⟨ly, lh, hlo⟩ := hI.lown
      obtain ⟨Al, cl, hvl, _⟩ := own_form hlo
      subst hvl
      have HLO := Lib.hid hlo
      have hll := hI.llen
      have hfl := hI.len
      have hkn : k * nx ≤ 200000 * 200000 := Nat.mul_le_mul (by omega) (by omega)
      clear hI hB ha hb hgo hlo
      go_upto_region 6 with fail
      refine wp_region_noPanic ?_
      refine wp_region_held_drew (S := (fun w' => w'.cell? ⟨gy, k, none⟩ = some (.int .i64 a) ∧ w'.cell? ⟨gy, k + 1, none⟩ = some (.int .i64 b))) (by kernel_rfl) ?_ (fun hHeld => ?_)
      · (try dsimp only)
        exact ⟨e0, e1⟩
      refine take_at 0 22 (.slice A n c) rfl rfl (by kernel_rfl) (by kernel_rfl) (by kernel_rfl) (fun _ _ _ h => h) (Or.inl ⟨by rfl, ?_⟩) (by assumption) ?_
      · intro W0 hSw
        (try dsimp only at hSw)
        go_simp
      simp only [List.set_cons_zero, List.set_cons_succ]
      refine take_at 1 23 (.slice Ax nx cx) rfl rfl (by kernel_rfl) (by kernel_rfl) (by kernel_rfl) (fun _ _ _ h => h) (Or.inl ⟨by rfl, ?_⟩) (by assumption) ?_
      · intro W0 hSw
        (try dsimp only at hSw)
        go_simp
      simp only [List.set_cons_zero, List.set_cons_succ]
      refine take_at 2 24 (.slice (some ⟨gy, 0, none⟩) my cy) rfl rfl (by kernel_rfl) (by kernel_rfl) (by kernel_rfl) (fun _ _ _ h => h) (Or.inl ⟨by rfl, ?_⟩) (by assumption) ?_
      · intro W0 hSw
        (try dsimp only at hSw)
        go_simp
      simp only [List.set_cons_zero, List.set_cons_succ]
      refine take_at 3 25 (.int .i64 (k : Int)) rfl rfl (by kernel_rfl) (by kernel_rfl) (by kernel_rfl) (fun _ _ _ h => h) (Or.inl ⟨by rfl, ?_⟩) (by assumption) ?_
      · intro W0 hSw
        (try dsimp only at hSw)
        go_simp
      simp only [List.set_cons_zero, List.set_cons_succ]
      refine take_at 4 26 (.pointer (some ⟨gy, k, none⟩)) rfl rfl (by kernel_rfl) (by kernel_rfl) (by kernel_rfl) (fun _ _ _ h => h) (Or.inl ⟨by rfl, ?_⟩) (by assumption) ?_
      · intro W0 hSw
        (try dsimp only at hSw)
        go_simp
      simp only [List.set_cons_zero, List.set_cons_succ]
      refine take_at 5 27 (.int .i64 a) rfl rfl (by kernel_rfl) (by kernel_rfl) (by kernel_rfl) (fun _ _ _ h => h) (Or.inl ⟨by rfl, ?_⟩) (by assumption) ?_
      · intro W0 hSw
        (try dsimp only at hSw)
        go_simp
      simp only [List.set_cons_zero, List.set_cons_succ]
      refine take_at 6 28 (.slice (some ⟨gy, 0, none⟩) my cy) rfl rfl (by kernel_rfl) (by kernel_rfl) (by kernel_rfl) (fun _ _ _ h => h) (Or.inl ⟨by rfl, ?_⟩) (by assumption) ?_
      · intro W0 hSw
        (try dsimp only at hSw)
        go_simp
      simp only [List.set_cons_zero, List.set_cons_succ]
      refine take_at 7 29 (.int .i64 (k : Int)) rfl rfl (by kernel_rfl) (by kernel_rfl) (by kernel_rfl) (fun _ _ _ h => h) (Or.inl ⟨by rfl, ?_⟩) (by assumption) ?_
      · intro W0 hSw
        (try dsimp only at hSw)
        go_simp
      simp only [List.set_cons_zero, List.set_cons_succ]
      refine take_at 8 30 (.int .i64 ((k + 1 : Nat) : Int)) rfl rfl (by kernel_rfl) (by kernel_rfl) (by kernel_rfl) (fun _ _ _ h => h) (Or.inl ⟨by rfl, ?_⟩) (by assumption) ?_
      · intro W0 hSw
        (try dsimp only at hSw)
        go_simp
      simp only [List.set_cons_zero, List.set_cons_succ]
      refine take_at 9 31 (.pointer (some ⟨gy, k + 1, none⟩)) rfl rfl (by kernel_rfl) (by kernel_rfl) (by kernel_rfl) (fun _ _ _ h => h) (Or.inl ⟨by rfl, ?_⟩) (by assumption) ?_
      · intro W0 hSw
        (try dsimp only at hSw)
        go_simp
      simp only [List.set_cons_zero, List.set_cons_succ]
      refine take_at 10 32 (.int .i64 b) rfl rfl (by kernel_rfl) (by kernel_rfl) (by kernel_rfl) (fun _ _ _ h => h) (Or.inl ⟨by rfl, ?_⟩) (by assumption) ?_
      · intro W0 hSw
        (try dsimp only at hSw)
        go_simp
      simp only [List.set_cons_zero, List.set_cons_succ]
      refine take_at 11 33 (.slice (some ⟨gy, 0, none⟩) my cy) rfl rfl (by kernel_rfl) (by kernel_rfl) (by kernel_rfl) (fun _ _ _ h => h) (Or.inl ⟨by rfl, ?_⟩) (by assumption) ?_
      · intro W0 hSw
        (try dsimp only at hSw)
        go_simp
      simp only [List.set_cons_zero, List.set_cons_succ]
      refine take_at 12 34 (.int .i64 (k : Int)) rfl rfl (by kernel_rfl) (by kernel_rfl) (by kernel_rfl) (fun _ _ _ h => h) (Or.inl ⟨by rfl, ?_⟩) (by assumption) ?_
      · intro W0 hSw
        (try dsimp only at hSw)
        go_simp
      simp only [List.set_cons_zero, List.set_cons_succ]
      refine take_at 13 35 (.pointer (some ⟨gy, k, none⟩)) rfl rfl (by kernel_rfl) (by kernel_rfl) (by kernel_rfl) (fun _ _ _ h => h) (Or.inl ⟨by rfl, ?_⟩) (by assumption) ?_
      · intro W0 hSw
        (try dsimp only at hSw)
        go_simp
      simp only [List.set_cons_zero, List.set_cons_succ]
      refine take_at 14 36 (.int .i64 a) rfl rfl (by kernel_rfl) (by kernel_rfl) (by kernel_rfl) (fun _ _ _ h => h) (Or.inl ⟨by rfl, ?_⟩) (by assumption) ?_
      · intro W0 hSw
        (try dsimp only at hSw)
        go_simp
      simp only [List.set_cons_zero, List.set_cons_succ]
      refine take_at 15 37 (.int .i64 (b - a)) rfl rfl (by kernel_rfl) (by kernel_rfl) (by kernel_rfl) (fun _ _ _ h => h) (Or.inl ⟨by rfl, ?_⟩) (by assumption) ?_
      · intro W0 hSw
        (try dsimp only at hSw)
        go_simp
      simp only [List.set_cons_zero, List.set_cons_succ]
      refine wpAnyH_ready (rs := [16]) (by kernel_rfl) (by simp) ?_
      refine AllReadyH.cons rfl (fun K hK => ?_) AllReadyH.nil
      go_simp
      go_at_call 46
      refine (rspans_any A Ax n c nx cx rs (xsR rs) a (b - a) _ hn (HR.out.below (HB.out.drew)) hnx (HRX.out.below (HBZ.out.drew)) HXB.out).mono ?_
      rintro e w6 ⟨v6, rfl, ho6, hb6⟩
      obtain ⟨Ar, cr, hv6, _⟩ := own_form ho6
      subst hv6
      have HO6 := Lib.hid ho6
      have HB6 := Lib.hid (bstep ((bre wr).drew) hb6)
      clear ho6 hb6
      refine hK.out _ _ ?_ (fun hHeld => ?_)
      · (try dsimp only)
        exact ⟨(HB6.out.cell (p := ⟨gy, k, none⟩) hgD).trans e0, (HB6.out.cell (p := ⟨gy, k + 1, none⟩) hgD).trans e1⟩
      clear hK K
      refine take_at 17 8 (.slice Ar (spGo (fun x => covB rs x a) [] (xsR rs)).length cr) rfl rfl (by kernel_rfl) (by kernel_rfl) (by kernel_rfl) (fun _ _ _ h => h) (Or.inl ⟨by rfl, ?_⟩) (by assumption) ?_
      · intro W0 hSw
        (try dsimp only at hSw)
        go_simp
      simp only [List.set_cons_zero, List.set_cons_succ]
      refine wpAnyH_done (by kernel_rfl) ?_ _
      refine NoPanic.normal ?_
      go_upto_region 7 with fail
      have hs6 := HB6.out.size
      have I6 := HI.out
      obtain ⟨SL, hSL⟩ : ∃ SL, (spR rs a).length = SL := ⟨_, rfl⟩
      have hSLx : SL ≤ nx := by
        rw [← hSL, ← HNX.out]
        have h9 := spGo_len (fun x => covB rs x a) (xsR rs) []
        rw [List.length_nil, Nat.zero_add] at h9
        exact h9
      rw [show (spGo (fun x => covB rs x a) [] (xsR rs)) = spR rs a from rfl, hSL] at HO6 ⊢
      have HSL := Lib.hid hSL
      obtain ⟨L, hL⟩ : ∃ L, last.length = L := ⟨_, rfl⟩
      rw [hL] at HLO hll I6 ⊢
      have HL9 := Lib.hid hL
      obtain ⟨N, hN⟩ : ∃ N, (flatB bs).length = N := ⟨_, rfl⟩
      have HOO := Lib.hid I6.own
      rw [hN] at HOO hfl I6 ⊢
      have HI6 := Lib.hid I6
      have HN9 := Lib.hid hN
      clear hSL hL hN I6
      by_cases hl0 : last = []
      · have hL0 : L = 0 := by rw [← HL9.out, hl0]; rfl
        have hk00 : ¬ ((0 : Int) < (L : Int)) := by omega
        have hk01 : ((L : Int) > 0) = False := by simp; omega
        have hk02 : decide ((L : Int) > 0) = false := by simp; omega
        have hk03 : decide ((0 : Int) < (L : Int)) = false := by simp; omega
        have HNE := Lib.hid (show ¬ (last ≠ [] ∧ spR rs a = last) from fun h => h.1 hl0)
        clear hL0 hl0
        have HBV := Lib.hid HB6.out
        have HOR := Lib.hid (show w6.ownsRow wr.heap.size 45 4 (.slice Ar SL cr) SL (rcs (bandL a (b - a) (spR rs a))) from HO6.out)
        have hv := HOR.out.2
        have OOV := Lib.hid (ownsRow_below HOO.out HBV.out)
        have hVs := HBV.out.size
        rcases hv with ⟨hv, h0⟩ | ⟨gr, capr, cur, hv, hgr, _, hcr, hmr, _⟩
        · injection hv with q1 q2 q3
          subst q1 q2 q3
          have hnil : spR rs a = [] := List.eq_nil_of_length_eq_zero HSL.out
          have HNIL := Lib.hid hnil
          clear hnil
          go_upto_region 13 with (at_builtin; refine wpList_append_own_none rfl _ _ 52 rfl Z.heap.size 45 i0 4 Try.underlying52 hi _ _ _ rfl OOV.out rfl ?_)
          go_wp2_with fail
          go_roundw
          case rel => exact ⟨k + 1, newB bs a b (spR rs a), spR rs a, by go_num, by omega, rr_new HI.out HA.out HBB.out hlt2 (by omega) HNE.out (by rw [HSL.out]; exact hSLx) (by rw [HNIL.out, HN9.out]; simpa [bandL, rcs] using OOV.out) (by rw [HNIL.out]; simpa [bandL, rcs] using World.ownsRow_nil _ _ _ 4) (fun g _ h => by cases h), bstep HBZ.out HBV.out⟩
          case measure => simp [intOf]; omega
        · injection hv with q1 q2 q3
          subst q1 q3
          have hgrV := own_lt HOR.out gr rfl
          have hvoW := own_lt HOO.out
          have HNW := Lib.hid (show ∀ j u, (rcs (bandL a (b - a) (spR rs a)))[j]? = some u → w6.cell? ((⟨gr, 0, none⟩ : Addr).add j) = some u from fun j u hj => HOR.out.cells (g := gr) rfl j u hj)
          have HLN := Lib.hid (show (rcs (bandL a (b - a) (spR rs a))).length = SL * 4 by rw [rcs_len, bandL_len, HSL.out])
          have HVO := Lib.hid hvoW
          clear hvoW
          go_upto_region 13 with (at_builtin; refine wpList_append_own_at _ rfl _ _ 52 rfl Z.heap.size 45 i0 _ 4 32 Try.underlying52 hi hz0 hz1 hz2 rfl (by decide) _ _ _ rfl OOV.out ⟨gr, 0, none⟩ SL cr (rcs (bandL a (b - a) (spR rs a))) rfl HLN.out HNW.out (rcs_oneC _) (by simp only [maxLen]; omega) (by omega) (by omega) ?_; intro v9 w9 hown9 hgrow9 _ hat9; have HO9 := Lib.hid hown9; have HG9 := Lib.hid (show w6.grownBy w9 (Value.slice Ao N co).ownBlock from hgrow9); have HAT9 := Lib.hid (show v9.ownBlock = (Value.slice Ao N co).ownBlock ∨ v9.ownBlock = some w6.heap.size from hat9); clear hown9 hgrow9 hat9)
          obtain ⟨A9, c9, hv9, _⟩ := own_form HO9.out
          subst hv9
          have hrow9 : ∀ q, (Value.slice Ao N co).ownBlock = some q → gr ≠ q := fun q hq => by have := HVO.out q hq; omega
          have HR9 := Lib.hid (HOR.out.kept HG9.out (by
            cases hq : (Value.slice Ao N co).ownBlock with
            | none => exact .inr (fun e => by simp [Value.ownBlock] at e)
            | some q => exact .inr (fun e => hrow9 q hq (by injection e))))
          have HAP := Lib.hid (show ∀ q, (Value.slice A9 (N + SL) c9).ownBlock = some q → (Value.slice (some ⟨gr, 0, none⟩) SL cr).ownBlock ≠ some q from fun q hq e => by
            have e' : gr = q := by injection e
            rcases HAT9.out with h9 | h9
            · exact hrow9 q (h9.symm.trans hq) e'
            · rw [h9] at hq
              have hq' : w6.heap.size = q := by injection hq
              omega)
          go_wp2_with fail
          go_roundw
          case rel => exact ⟨k + 1, newB bs a b (spR rs a), spR rs a, by go_num, by omega, rr_new HI.out HA.out HBB.out hlt2 (by omega) HNE.out (by rw [HSL.out]; exact hSLx) (by rw [HSL.out, HN9.out]; exact HO9.out) (by rw [HSL.out]; exact ownsRow_base HR9.out (by omega)) HAP.out, (bstep HBZ.out HBV.out).grown HG9.out (bstep HBZ.out HBV.out).size (own_ge OOV.out)⟩
          case measure => simp [intOf]; omega
      · have hLp : 0 < L := by
          rw [← HL9.out]
          exact List.length_pos_iff.2 hl0
        have hk00 : (0 : Int) < (L : Int) := by omega
        have hk02 : decide ((L : Int) > 0) = true := by simp; omega
        have HRR := Lib.hid (RdR.of_own HO6.out (by rw [bandL_len, HSL.out]))
        have HRL := Lib.hid ((RdR.of_own HLO.out (by rw [bandL_len, HL9.out])).below HB6.out)
        cases hsame : decide (spR rs a = last)
        · have HNE := Lib.hid (show ¬ (last ≠ [] ∧ spR rs a = last) from fun h => absurd h.2 (of_decide_eq_false hsame))
          have HXW := Lib.hid ((xwL_band a (b - a) ly lh (spR rs a) last).trans hsame)
          clear hsame
          go_upto_region 12 with (go_at_call 47; refine (ralike_any Ar Al SL L cr cl _ _ _ (by omega) (by omega) HRR.out HRL.out).mono ?_; rintro e w7 ⟨rfl, hb7⟩; rw [HXW.out]; have HB7 := Lib.hid hb7; clear hb7)
          have HBV := Lib.hid (bstep HB6.out HB7.out)
          have HOR := Lib.hid (show w7.ownsRow wr.heap.size 45 4 (.slice Ar SL cr) SL (rcs (bandL a (b - a) (spR rs a))) from ownsRow_below HO6.out HB7.out)
          have hv := HOR.out.2
          have OOV := Lib.hid (ownsRow_below HOO.out HBV.out)
          have hVs := HBV.out.size
          rcases hv with ⟨hv, h0⟩ | ⟨gr, capr, cur, hv, hgr, _, hcr, hmr, _⟩
          · injection hv with q1 q2 q3
            subst q1 q2 q3
            have hnil : spR rs a = [] := List.eq_nil_of_length_eq_zero HSL.out
            have HNIL := Lib.hid hnil
            clear hnil
            go_upto_region 13 with (at_builtin; refine wpList_append_own_none rfl _ _ 52 rfl Z.heap.size 45 i0 4 Try.underlying52 hi _ _ _ rfl OOV.out rfl ?_)
            go_wp2_with fail
            go_roundw
            case rel => exact ⟨k + 1, newB bs a b (spR rs a), spR rs a, by go_num, by omega, rr_new HI.out HA.out HBB.out hlt2 (by omega) HNE.out (by rw [HSL.out]; exact hSLx) (by rw [HNIL.out, HN9.out]; simpa [bandL, rcs] using OOV.out) (by rw [HNIL.out]; simpa [bandL, rcs] using World.ownsRow_nil _ _ _ 4) (fun g _ h => by cases h), bstep HBZ.out HBV.out⟩
            case measure => simp [intOf]; omega
          · injection hv with q1 q2 q3
            subst q1 q3
            have hgrV := own_lt HOR.out gr rfl
            have hvoW := own_lt HOO.out
            have HNW := Lib.hid (show ∀ j u, (rcs (bandL a (b - a) (spR rs a)))[j]? = some u → w7.cell? ((⟨gr, 0, none⟩ : Addr).add j) = some u from fun j u hj => HOR.out.cells (g := gr) rfl j u hj)
            have HLN := Lib.hid (show (rcs (bandL a (b - a) (spR rs a))).length = SL * 4 by rw [rcs_len, bandL_len, HSL.out])
            have HVO := Lib.hid hvoW
            clear hvoW
            go_upto_region 13 with (at_builtin; refine wpList_append_own_at _ rfl _ _ 52 rfl Z.heap.size 45 i0 _ 4 32 Try.underlying52 hi hz0 hz1 hz2 rfl (by decide) _ _ _ rfl OOV.out ⟨gr, 0, none⟩ SL cr (rcs (bandL a (b - a) (spR rs a))) rfl HLN.out HNW.out (rcs_oneC _) (by simp only [maxLen]; omega) (by omega) (by omega) ?_; intro v9 w9 hown9 hgrow9 _ hat9; have HO9 := Lib.hid hown9; have HG9 := Lib.hid (show w7.grownBy w9 (Value.slice Ao N co).ownBlock from hgrow9); have HAT9 := Lib.hid (show v9.ownBlock = (Value.slice Ao N co).ownBlock ∨ v9.ownBlock = some w7.heap.size from hat9); clear hown9 hgrow9 hat9)
            obtain ⟨A9, c9, hv9, _⟩ := own_form HO9.out
            subst hv9
            have hrow9 : ∀ q, (Value.slice Ao N co).ownBlock = some q → gr ≠ q := fun q hq => by have := HVO.out q hq; omega
            have HR9 := Lib.hid (HOR.out.kept HG9.out (by
              cases hq : (Value.slice Ao N co).ownBlock with
              | none => exact .inr (fun e => by simp [Value.ownBlock] at e)
              | some q => exact .inr (fun e => hrow9 q hq (by injection e))))
            have HAP := Lib.hid (show ∀ q, (Value.slice A9 (N + SL) c9).ownBlock = some q → (Value.slice (some ⟨gr, 0, none⟩) SL cr).ownBlock ≠ some q from fun q hq e => by
              have e' : gr = q := by injection e
              rcases HAT9.out with h9 | h9
              · exact hrow9 q (h9.symm.trans hq) e'
              · rw [h9] at hq
                have hq' : w7.heap.size = q := by injection hq
                omega)
            go_wp2_with fail
            go_roundw
            case rel => exact ⟨k + 1, newB bs a b (spR rs a), spR rs a, by go_num, by omega, rr_new HI.out HA.out HBB.out hlt2 (by omega) HNE.out (by rw [HSL.out]; exact hSLx) (by rw [HSL.out, HN9.out]; exact HO9.out) (by rw [HSL.out]; exact ownsRow_base HR9.out (by omega)) HAP.out, (bstep HBZ.out HBV.out).grown HG9.out (bstep HBZ.out HBV.out).size (own_ge OOV.out)⟩
            case measure => simp [intOf]; omega
        · have hsm := of_decide_eq_true hsame
          have HXW := Lib.hid ((xwL_band a (b - a) ly lh (spR rs a) last).trans hsame)
          obtain ⟨bs0, d, hbs, hdsp⟩ := HI.out.on hl0
          obtain ⟨K0, hK0⟩ : ∃ K0, (flatB bs0).length = K0 := ⟨_, rfl⟩
          have hNK : N = K0 + L := by rw [← HN9.out, hbs, flatB_append, flatB_one, List.length_append, hK0, ← HL9.out, ← hdsp]; simp [Bd.rc, bandL_len]
          have HBS := Lib.hid hbs
          have HDS := Lib.hid hdsp
          have HK0 := Lib.hid hK0
          have HL0 := Lib.hid hl0
          have HSM := Lib.hid hsm
          clear hsame hsm hbs hdsp hK0 hl0
          obtain ⟨g, rfl⟩ : ∃ g, Ao = some ⟨g, 0, none⟩ := by
            rcases HOO.out.2 with ⟨_, h0⟩ | ⟨g, _, _, e, _⟩
            · omega
            · injection e with e _ _; exact ⟨g, e⟩
          have wNL : IntKind.i64.wrap ((N : Int) - (L : Int)) = (K0 : Int) := by rw [show (N : Int) - (L : Int) = (K0 : Int) from by omega]; exact IntWalk.i64_in _ (by omega)
          go_upto_region 8 with (go_at_call 47; refine (ralike_any Ar Al SL L cr cl _ _ _ (by omega) (by omega) HRR.out HRL.out).mono ?_; rintro e w7 ⟨rfl, hb7⟩; rw [HXW.out]; have HB7 := Lib.hid hb7; clear hb7)
          have hb67 := bstep HB6.out HB7.out
          have HOO7 := Lib.hid (ownsRow_below HOO.out hb67)
          have HLO7 := Lib.hid (ownsRow_below HLO.out hb67)
          obtain ⟨hZg, hnc, hcm, rest, hblk, hrl⟩ := own_rcs HOO7.out
          have HBK := Lib.hid (show Blk w7 g 45 (rcs (tallL K0 K0 (b - a) (flatB bs)) ++ rest).toArray by rw [tall_start]; exact hblk)
          have HRL7 := Lib.hid hrl
          have c70 := (hb67.cell (p := ⟨gy, k, none⟩) hgD).trans e0
          have c71 := (hb67.cell (p := ⟨gy, k + 1, none⟩) hgD).trans e1
          have HBZ7 := Lib.hid (bstep HBZ.out hb67)
          have HHB := Lib.hid HI.out.hb
          have hgne : gy ≠ g := by omega
          clear hblk hrl hb67 e0 e1 HRR HRL
          go_wp2_with fail
          go_loopw [9] (fun i wq => ∃ j : Nat, i = .int .i64 j ∧ K0 ≤ j ∧ j ≤ N ∧ Blk wq g 45 (rcs (tallL K0 j (b - a) (flatB bs)) ++ rest).toArray ∧ w7.grownBy wq (some g)) (fun i _ => N - (intOf i).toNat)
          case atStart => exact ⟨K0, rfl, Nat.le_refl _, by omega, HBK.out, grown_of_below (bre w7) _⟩
          case round =>
            obtain ⟨j, rfl, hj0, hj1, hbj, hgj⟩ := hrel
            have HGJ := Lib.hid hgj
            by_cases hjl : j < N
            · obtain ⟨x, hx⟩ : ∃ x, (flatB bs)[j]? = some x := ⟨_, List.getElem?_eq_getElem (by rw [HN9.out]; exact hjl)⟩
              have hxt : (tallL K0 j (b - a) (flatB bs))[j]? = some x := by
                rw [tall_get, hx]
                simp only [Option.map_some]
                rw [if_neg (by omega)]
              obtain ⟨d9, hd9, hxh⟩ := flat_h (List.mem_of_getElem? hx)
              have hxb := HHB.out d9 hd9
              rw [← hxh] at hxb
              obtain ⟨_, _, _, o3⟩ := blk_at hbj hxt
              have t0 := hgj.cell c70 (by intro e; injection e with e; exact hgne e)
              have t1 := hgj.cell c71 (by intro e; injection e with e; exact hgne e)
              have z3 := hbj.frozen (j * 4 + 3)
              have o3' : wr.drew.cell? ⟨g, j * 4 + 3, none⟩ = some (.int .i64 x.H) := o3
              have w1 : IntKind.i64.wrap (x.H + b) = x.H + b := IntWalk.i64_in _ (by omega)
              have w2 : IntKind.i64.wrap (x.H + b - a) = x.H + b - a := IntWalk.i64_in _ (by omega)
              have j0 : (0 : Int) ≤ (j : Int) := by omega
              have j1 : (j : Int) < (N : Int) := by omega
              have hTN := Lib.hid (tall_next (d := b - a) hx hj0)
              have HBJ := Lib.hid hbj
              have HXT := Lib.hid hxt
              clear hx hxt hd9 hxh hbj hgj o3
              go_upto_region 11 with fail
              refine wp_region_noPanic ?_
              refine wp_region_held_drew (S := (fun w' => w'.cell? ⟨gy, k, none⟩ = some (.int .i64 a) ∧ w'.cell? ⟨gy, k + 1, none⟩ = some (.int .i64 b))) (by kernel_rfl) ?_ (fun hHeld => ?_)
              · (try dsimp only)
                exact ⟨t0, t1⟩
              refine take_at 0 58 (.slice (some ⟨g, 0, none⟩) N co) rfl rfl (by kernel_rfl) (by kernel_rfl) (by kernel_rfl) (fun _ _ _ h => h) (Or.inl ⟨by rfl, ?_⟩) (by assumption) ?_
              · intro W0 hSw
                (try dsimp only at hSw)
                go_simp
              simp only [List.set_cons_zero, List.set_cons_succ]
              refine take_at 1 59 (.int .i64 (j : Int)) rfl rfl (by kernel_rfl) (by kernel_rfl) (by kernel_rfl) (fun _ _ _ h => h) (Or.inl ⟨by rfl, ?_⟩) (by assumption) ?_
              · intro W0 hSw
                (try dsimp only at hSw)
                go_simp
              simp only [List.set_cons_zero, List.set_cons_succ]
              refine take_at 2 60 (.slice (some ⟨g, 0, none⟩) N co) rfl rfl (by kernel_rfl) (by kernel_rfl) (by kernel_rfl) (fun _ _ _ h => h) (Or.inl ⟨by rfl, ?_⟩) (by assumption) ?_
              · intro W0 hSw
                (try dsimp only at hSw)
                go_simp
              simp only [List.set_cons_zero, List.set_cons_succ]
              refine take_at 3 61 (.int .i64 (j : Int)) rfl rfl (by kernel_rfl) (by kernel_rfl) (by kernel_rfl) (fun _ _ _ h => h) (Or.inl ⟨by rfl, ?_⟩) (by assumption) ?_
              · intro W0 hSw
                (try dsimp only at hSw)
                go_simp
              simp only [List.set_cons_zero, List.set_cons_succ]
              refine take_at 4 62 (.pointer (some ⟨g, j * 4, none⟩)) rfl rfl (by kernel_rfl) (by kernel_rfl) (by kernel_rfl) (fun _ _ _ h => h) (Or.inl ⟨by rfl, ?_⟩) (by assumption) ?_
              · intro W0 hSw
                (try dsimp only at hSw)
                go_simp
              simp only [List.set_cons_zero, List.set_cons_succ]
              refine take_at 5 63 (.pointer (some ⟨g, j * 4 + 3, none⟩)) rfl rfl (by kernel_rfl) (by kernel_rfl) (by kernel_rfl) (fun _ _ _ h => h) (Or.inl ⟨by rfl, ?_⟩) (by assumption) ?_
              · intro W0 hSw
                (try dsimp only at hSw)
                go_simp
              simp only [List.set_cons_zero, List.set_cons_succ]
              refine take_at 7 65 (.slice (some ⟨gy, 0, none⟩) my cy) rfl rfl (by kernel_rfl) (by kernel_rfl) (by kernel_rfl) (fun _ _ _ h => h) (Or.inl ⟨by rfl, ?_⟩) (by assumption) ?_
              · intro W0 hSw
                (try dsimp only at hSw)
                go_simp
              simp only [List.set_cons_zero, List.set_cons_succ]
              refine take_at 8 66 (.int .i64 (k : Int)) rfl rfl (by kernel_rfl) (by kernel_rfl) (by kernel_rfl) (fun _ _ _ h => h) (Or.inl ⟨by rfl, ?_⟩) (by assumption) ?_
              · intro W0 hSw
                (try dsimp only at hSw)
                go_simp
              simp only [List.set_cons_zero, List.set_cons_succ]
              refine take_at 9 67 (.int .i64 ((k + 1 : Nat) : Int)) rfl rfl (by kernel_rfl) (by kernel_rfl) (by kernel_rfl) (fun _ _ _ h => h) (Or.inl ⟨by rfl, ?_⟩) (by assumption) ?_
              · intro W0 hSw
                (try dsimp only at hSw)
                go_simp
              simp only [List.set_cons_zero, List.set_cons_succ]
              refine take_at 10 68 (.pointer (some ⟨gy, k + 1, none⟩)) rfl rfl (by kernel_rfl) (by kernel_rfl) (by kernel_rfl) (fun _ _ _ h => h) (Or.inl ⟨by rfl, ?_⟩) (by assumption) ?_
              · intro W0 hSw
                (try dsimp only at hSw)
                go_simp
              simp only [List.set_cons_zero, List.set_cons_succ]
              refine take_at 11 69 (.int .i64 b) rfl rfl (by kernel_rfl) (by kernel_rfl) (by kernel_rfl) (fun _ _ _ h => h) (Or.inl ⟨by rfl, ?_⟩) (by assumption) ?_
              · intro W0 hSw
                (try dsimp only at hSw)
                go_simp
              simp only [List.set_cons_zero, List.set_cons_succ]
              refine take_at 13 71 (.slice (some ⟨gy, 0, none⟩) my cy) rfl rfl (by kernel_rfl) (by kernel_rfl) (by kernel_rfl) (fun _ _ _ h => h) (Or.inl ⟨by rfl, ?_⟩) (by assumption) ?_
              · intro W0 hSw
                (try dsimp only at hSw)
                go_simp
              simp only [List.set_cons_zero, List.set_cons_succ]
              refine take_at 14 72 (.int .i64 (k : Int)) rfl rfl (by kernel_rfl) (by kernel_rfl) (by kernel_rfl) (fun _ _ _ h => h) (Or.inl ⟨by rfl, ?_⟩) (by assumption) ?_
              · intro W0 hSw
                (try dsimp only at hSw)
                go_simp
              simp only [List.set_cons_zero, List.set_cons_succ]
              refine take_at 15 73 (.pointer (some ⟨gy, k, none⟩)) rfl rfl (by kernel_rfl) (by kernel_rfl) (by kernel_rfl) (fun _ _ _ h => h) (Or.inl ⟨by rfl, ?_⟩) (by assumption) ?_
              · intro W0 hSw
                (try dsimp only at hSw)
                go_simp
              simp only [List.set_cons_zero, List.set_cons_succ]
              refine take_at 16 74 (.int .i64 a) rfl rfl (by kernel_rfl) (by kernel_rfl) (by kernel_rfl) (fun _ _ _ h => h) (Or.inl ⟨by rfl, ?_⟩) (by assumption) ?_
              · intro W0 hSw
                (try dsimp only at hSw)
                go_simp
              simp only [List.set_cons_zero, List.set_cons_succ]
              refine wpAnyH_ready (rs := [6]) (by kernel_rfl) (by simp) ?_
              refine AllReadyH.cons rfl (fun K hK => ?_) AllReadyH.nil
              go_simp
              refine hK.out _ _ ?_ (fun hHeld => ?_)
              · (try dsimp only)
                exact ⟨t0, t1⟩
              clear hK K
              refine take_at 12 70 (.int .i64 (x.H + b)) rfl rfl (by kernel_rfl) (by kernel_rfl) (by kernel_rfl) (fun _ _ _ h => h) (Or.inl ⟨by rfl, ?_⟩) (by assumption) ?_
              · intro W0 hSw
                (try dsimp only at hSw)
                go_simp
              simp only [List.set_cons_zero, List.set_cons_succ]
              refine take_at 17 75 (.int .i64 (x.H + b - a)) rfl rfl (by kernel_rfl) (by kernel_rfl) (by kernel_rfl) (fun _ _ _ h => h) (Or.inl ⟨by rfl, ?_⟩) (by assumption) ?_
              · intro W0 hSw
                (try dsimp only at hSw)
                go_simp
              simp only [List.set_cons_zero, List.set_cons_succ]
              refine take_at 18 76 (.pointer (some ⟨g, j * 4, none⟩)) rfl rfl (by kernel_rfl) (by kernel_rfl) (by kernel_rfl) (fun _ _ _ h => h) (Or.inl ⟨by rfl, ?_⟩) (by assumption) ?_
              · intro W0 hSw
                (try dsimp only at hSw)
                go_simp
              simp only [List.set_cons_zero, List.set_cons_succ]
              refine take_at 19 77 (.pointer (some ⟨g, j * 4 + 3, none⟩)) rfl rfl (by kernel_rfl) (by kernel_rfl) (by kernel_rfl) (fun _ _ _ h => h) (Or.inl ⟨by rfl, ?_⟩) (by assumption) ?_
              · intro W0 hSw
                (try dsimp only at hSw)
                go_simp
              simp only [List.set_cons_zero, List.set_cons_succ]
              refine wpAnyH_ready (rs := [20]) (by kernel_rfl) (by simp) ?_
              refine AllReadyH.cons rfl (fun K hK => ?_) AllReadyH.nil
              go_simp
              refine hK.out _ _ ?_ (fun hHeld => ?_)
              · (try dsimp only)
                exact ⟨(World.cell?_setCell_other _ _ _ _ (by intro e; injection e with q1 q2; omega)).trans t0, (World.cell?_setCell_other _ _ _ _ (by intro e; injection e with q1 q2; omega)).trans t1⟩
              clear hK K
              refine wpAnyH_done (by kernel_rfl) ?_ _
              refine NoPanic.normal ?_
              go_wp2_with fail
              go_roundw
              case rel => exact ⟨j + 1, by go_num, by omega, by omega, by rw [hTN.out]; exact blk_tall HBJ.out HXT.out, grown_drewN (HGJ.out.andThen (grown_setCell _ ⟨g, j * 4 + 3, none⟩ _) (fun q hq => .inr hq)) 1⟩
              case measure => simp [intOf]; omega
            · obtain rfl : j = N := by omega
              have HBJ := Lib.hid hbj
              clear hbj hgj
              go_wp2_with fail
              go_roundw
              case rel =>
                have htl : (tallL K0 j (b - a) (flatB bs)).length = j := by rw [tall_len, HN9.out]
                refine ⟨k + 1, bs0 ++ [⟨d.y, d.h + (b - a), d.sp⟩], last, by go_num, by omega, ?_, HBZ7.out.grown HGJ.out HBZ7.out.size (fun q e => by cases e; exact hZg)⟩
                refine rr_same (vo' := .slice (some ⟨g, 0, none⟩) _ co) HI6.out HA.out HBB.out hlt2 (by omega) HL0.out HSM.out HBS.out ?_ ⟨ly, lh, ?_⟩ rfl HDS.out
                · rw [HK0.out, HN9.out]
                  (try rw [← hNK])
                  refine rcs_own hZg hnc hcm HBJ.out ?_ ?_ htl
                  · have := HRL7.out
                    rw [List.length_append, rcs_len] at this ⊢
                    rw [htl]
                    rw [HN9.out] at this
                    exact this
                  · rw [List.take_append_of_le_length (by rw [rcs_len, htl]; exact Nat.le_refl _), List.take_of_length_le (by rw [rcs_len, htl]; exact Nat.le_refl _)]
                · rw [HL9.out]
                  exact HLO7.out.kept HGJ.out (.inr (HI6.out.apart g rfl))
              case measure => simp [intOf]; omega
    · have HE := Lib.hid (rw_end (S := spR rs) (bs := bs) (last := last) (k := k) (by rw [HMY.out]; omega) : rwGo (spR rs) bs last ((ysR rs).drop k) = bs)
      have d1 : decide (((k + 1 : Nat) : Int) < (my : Int)) = false := by simp; omega
      have d1' : decide ((k : Int) + 1 < (my : Int)) = false := by simp; omega
      have hgo := hI.go
      have hown := hI.own
      rw [HE.out] at hgo
      have e : flatB bs = refR rs := by rw [hgo]; rfl
      rw [e] at hown
      have HO := Lib.hid (ownsRow_base hown hwZ)
      clear hI hB hgo hown HE HI e
      go_wp2_with fail
      go_ret
      exact ⟨_, rfl, HO.out, HB.out⟩

end Go.Proofs.Ytcdecglbkcllaaa
