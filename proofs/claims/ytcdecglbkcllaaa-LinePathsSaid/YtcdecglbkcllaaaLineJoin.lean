/-
  The walk of line.join: rectangles with one more place.
-/
import Derived.Test.YtcdecglbkcllaaaBandWalkD
import Derived.Outline
namespace Go.Proofs.Ytcdecglbkcllaaa
open Go.RowKit

/-- the last rectangle with a place more, where the place goes on with it. -/
def growR (r : RC) (x y : Int) : Option RC :=
  if r.H = 1 ∧ y = r.Y ∧ x = r.X + r.W then some ⟨r.X, r.Y, r.W + 1, r.H⟩
  else if r.H = 1 ∧ y = r.Y ∧ x = r.X - 1 then some ⟨r.X - 1, r.Y, r.W + 1, r.H⟩
  else if r.W = 1 ∧ x = r.X ∧ y = r.Y + r.H then some ⟨r.X, r.Y, r.W, r.H + 1⟩
  else if r.W = 1 ∧ x = r.X ∧ y = r.Y - 1 then some ⟨r.X, r.Y - 1, r.W, r.H + 1⟩
  else none

theorem drewN2 (w : World) (a b : Nat) : (w.drewN a).drewN b = w.drewN (a + b) := by simp [World.drewN, Nat.add_assoc]
theorem grown_drewN {w X : World} {row : Option Nat} (h : w.grownBy X row) (n : Nat) : w.grownBy (X.drewN n) row := ⟨h.os, h.tape, h.output, h.size, h.block⟩
theorem blk_drewN {w : World} {g : Nat} {t : TypeId} {cs : Array Value} (h : Blk w g t cs) (n : Nat) : Blk (w.drewN n) g t cs := h
theorem len_of (l0 : List RC) (r : RC) (rest : List Value) {k c : Nat} (hl : l0.length = k) (h : (rcs (l0 ++ [r]) ++ rest).length = c * 4) : rest.length + (k + 1) * 4 = c * 4 := by
  rw [List.length_append, rcs_len] at h
  simp [hl] at h
  omega
theorem grown_one (w : World) (g o : Nat) (v : Value) (q : Obj) (n : Nat) : w.grownBy (((w.setCell ⟨g, o, none⟩ v).alloc q).drewN n) (some g) :=
  grown_drewN ((grown_setCell w ⟨g, o, none⟩ v).andThen (World.grownBy_alloc _ q (some g)) (fun j hj => .inr hj)) n
theorem grown_two (w : World) (g o o' : Nat) (v v' : Value) (q : Obj) (n : Nat) : w.grownBy ((((w.setCell ⟨g, o, none⟩ v).setCell ⟨g, o', none⟩ v').alloc q).drewN n) (some g) :=
  grown_drewN (((grown_setCell w ⟨g, o, none⟩ v).andThen (grown_setCell _ ⟨g, o', none⟩ v') (fun j hj => .inr hj)).andThen (World.grownBy_alloc _ q (some g)) (fun j hj => .inr hj)) n
/-- what join leaves: the rectangles l', in the row that was handed in, or in a new one. -/
def JoinP (B : Nat) (v : Value) (l' : List RC) (w : World) (e : Ending) (w' : World) : Prop :=
  ∃ v', e = .returned v' ∧ w'.ownsRow B 45 4 v' l'.length (rcs l') ∧ w.grownBy w' v.ownBlock ∧ (v'.ownBlock = v.ownBlock ∨ ∀ g, v'.ownBlock = some g → w.heap.size ≤ g)
theorem join_end {B g k cap : Nat} {l0 : List RC} {r' : RC} {rest : List Value} {w wx : World} {e : Ending} (hB : B ≤ g) (hl : l0.length = k) (h1 : k + 1 ≤ cap) (h2 : cap ≤ maxLen) (h3 : rest.length + (k + 1) * 4 = cap * 4) (hb : Blk wx g 45 (rcs (l0 ++ [r']) ++ rest).toArray) (hg : w.grownBy wx (some g)) (he : e = .returned (.slice (some ⟨g, 0, none⟩) (k + 1) cap)) :
    JoinP B (.slice (some ⟨g, 0, none⟩) (k + 1) cap) (l0 ++ [r']) w e wx := by
  have hll : (l0 ++ [r']).length = k + 1 := by simp [hl]
  refine ⟨_, he, ?_, hg, .inl rfl⟩
  rw [hll]
  refine rcs_own hB h1 h2 hb ?_ ?_ hll
  · rw [List.length_append, rcs_len, hll]; omega
  · rw [List.take_append_of_le_length (by rw [rcs_len, hll]; omega), List.take_of_length_le (by rw [rcs_len, hll]; omega)]
theorem rcs_set1 (l0 : List RC) (r r' : RC) (rest : List Value) (j : Nat) (v : Value) (h : (r.cells ++ rest).set j v = r'.cells ++ rest) : (rcs (l0 ++ [r]) ++ rest).set (l0.length * 4 + j) v = rcs (l0 ++ [r']) ++ rest := by
  rw [rcs_append, rcs_append, List.append_assoc, List.append_assoc]
  have e : l0.length * 4 + j = (rcs l0).length + j := by rw [rcs_len]
  rw [e, List.set_append_right _ _ (by omega), Nat.add_sub_cancel_left]
  have h1 : rcs [r] = r.cells := by simp [rcs]
  have h2 : rcs [r'] = r'.cells := by simp [rcs]
  rw [h1, h2, h]
theorem blk_set1 {w : World} {g k : Nat} {t : TypeId} {l0 : List RC} {r : RC} (r' : RC) {rest : List Value} (h : Blk w g t (rcs (l0 ++ [r]) ++ rest).toArray) (hl : l0.length = k) (j : Nat) (v : Value) (hs : (r.cells ++ rest).set j v = r'.cells ++ rest) :
    Blk (w.setCell ⟨g, k * 4 + j, none⟩ v) g t (rcs (l0 ++ [r']) ++ rest).toArray := by
  have := h.set_ (k * 4 + j) v
  rw [List.setIfInBounds_toArray, ← hl, rcs_set1 l0 r r' rest j v hs, hl] at this
  exact this
theorem Try.infoR2 : (Try.prog.info? 45).map (fun i => (i.zero, i.size, i.bytes)) = some (some (.agg #[.int .i64 0, .int .i64 0, .int .i64 0, .int .i64 0]), 4, 32) := by kernel_rfl
theorem four_new2 (w : World) (a b c d : Value) (t : TypeId) : ∀ j u, [a, b, c, d][j]? = some u → (w.alloc (.cells #[a, b, c, d] t)).cell? ((⟨w.heap.size, 0, none⟩ : Addr).add j) = some u := by
  intro j u hu
  match j, hu with
  | 0, hu => simp at hu; subst hu; simp [Addr.add]
  | 1, hu => simp at hu; subst hu; simp [Addr.add]
  | 2, hu => simp at hu; subst hu; simp [Addr.add]
  | 3, hu => simp at hu; subst hu; simp [Addr.add]
/-- the rectangles behind join. -/
def joinR (r : RC) (x y : Int) : List RC := match growR r x y with
  | some r' => [r']
  | none => [r, ⟨x, y, 1, 1⟩]
theorem joinR_1 {r : RC} {x y : Int} (h : (decide (r.H = 1) && decide (y = r.Y) && decide (x = r.X + r.W)) = true) : joinR r x y = [⟨r.X, r.Y, r.W + 1, r.H⟩] := by
  simp only [Bool.and_eq_true, decide_eq_true_eq] at h
  unfold joinR growR
  rw [if_pos ⟨h.1.1, h.1.2, h.2⟩]
theorem joinR_2 {r : RC} {x y : Int} (h1 : (decide (r.H = 1) && decide (y = r.Y) && decide (x = r.X + r.W)) = false) (h : (decide (r.H = 1) && decide (y = r.Y) && decide (x = r.X - 1)) = true) : joinR r x y = [⟨r.X - 1, r.Y, r.W + 1, r.H⟩] := by
  simp only [Bool.and_eq_true, decide_eq_true_eq, Bool.and_eq_false_iff, decide_eq_false_iff_not] at h h1
  unfold joinR growR
  rw [if_neg (by omega), if_pos ⟨h.1.1, h.1.2, h.2⟩]
theorem joinR_3 {r : RC} {x y : Int} (h1 : (decide (r.H = 1) && decide (y = r.Y) && decide (x = r.X + r.W)) = false) (h2 : (decide (r.H = 1) && decide (y = r.Y) && decide (x = r.X - 1)) = false) (h : (decide (r.W = 1) && decide (x = r.X) && decide (y = r.Y + r.H)) = true) : joinR r x y = [⟨r.X, r.Y, r.W, r.H + 1⟩] := by
  simp only [Bool.and_eq_true, decide_eq_true_eq, Bool.and_eq_false_iff, decide_eq_false_iff_not] at h h1 h2
  unfold joinR growR
  rw [if_neg (by omega), if_neg (by omega), if_pos ⟨h.1.1, h.1.2, h.2⟩]
theorem joinR_4 {r : RC} {x y : Int} (h1 : (decide (r.H = 1) && decide (y = r.Y) && decide (x = r.X + r.W)) = false) (h2 : (decide (r.H = 1) && decide (y = r.Y) && decide (x = r.X - 1)) = false) (h3 : (decide (r.W = 1) && decide (x = r.X) && decide (y = r.Y + r.H)) = false) (h : (decide (r.W = 1) && decide (x = r.X) && decide (y = r.Y - 1)) = true) : joinR r x y = [⟨r.X, r.Y - 1, r.W, r.H + 1⟩] := by
  simp only [Bool.and_eq_true, decide_eq_true_eq, Bool.and_eq_false_iff, decide_eq_false_iff_not] at h h1 h2 h3
  unfold joinR growR
  rw [if_neg (by omega), if_neg (by omega), if_neg (by omega), if_pos ⟨h.1.1, h.1.2, h.2⟩]
theorem joinR_5 {r : RC} {x y : Int} (h1 : (decide (r.H = 1) && decide (y = r.Y) && decide (x = r.X + r.W)) = false) (h2 : (decide (r.H = 1) && decide (y = r.Y) && decide (x = r.X - 1)) = false) (h3 : (decide (r.W = 1) && decide (x = r.X) && decide (y = r.Y + r.H)) = false) (h : (decide (r.W = 1) && decide (x = r.X) && decide (y = r.Y - 1)) = false) : joinR r x y = [r, ⟨x, y, 1, 1⟩] := by
  simp only [Bool.and_eq_true, decide_eq_true_eq, Bool.and_eq_false_iff, decide_eq_false_iff_not] at h h1 h2 h3
  unfold joinR growR
  rw [if_neg (by omega), if_neg (by omega), if_neg (by omega), if_neg (by omega)]

set_option maxRecDepth 100000 in
set_option maxHeartbeats 4000000 in
theorem join_last (B k cap g : Nat) (l0 : List RC) (x y : Int) (r : RC) (w : World) (hl : l0.length = k) (hk : k ≤ 1000000) (hb : -1048576 ≤ r.X ∧ r.X ≤ 1048576 ∧ -1048576 ≤ r.Y ∧ r.Y ≤ 1048576 ∧ 1 ≤ r.W ∧ r.W ≤ 2097152 ∧ 1 ≤ r.H ∧ r.H ≤ 2097152)
    (hown : w.ownsRow B 45 4 (.slice (some ⟨g, 0, none⟩) (k + 1) cap) (k + 1) (rcs (l0 ++ [r]))) (hBs : B ≤ w.heap.size) :
    Calls Try.prog 42 #[.slice (some ⟨g, 0, none⟩) (k + 1) cap, .agg #[.int .i64 x, .int .i64 y]] w (JoinP B (.slice (some ⟨g, 0, none⟩) (k + 1) cap) (l0 ++ joinR r x y) w) := by
  obtain ⟨hBg, hnc, hcm, rest, hblk, hrl⟩ := own_rcs hown
  have hat := blk_at hblk (k := k) (r := r) (by rw [List.getElem?_append_right (by omega)]; simp [hl])
  have hg := hblk.lt
  obtain ⟨h0, h1, h2, h3⟩ := hat
  have z0 := hblk.frozen (k * 4)
  have z1 := hblk.frozen (k * 4 + 1)
  have z2 := hblk.frozen (k * 4 + 2)
  have z3 := hblk.frozen (k * 4 + 3)
  have HL := Lib.hid hl
  have HRL := Lib.hid hrl
  have HBK := Lib.hid (show Blk (w.alloc (.cells #[.int .i64 x, .int .i64 y] 23)) g 45 (rcs (l0 ++ [r]) ++ rest).toArray from hblk.alloc _)
  have HO := Lib.hid (show (w.alloc (.cells #[.int .i64 x, .int .i64 y] 23)).ownsRow B 45 4 (.slice (some ⟨g, 0, none⟩) (k + 1) cap) (k + 1) (rcs (l0 ++ [r])) from hown.alloc _)
  have HG := Lib.hid (World.grownBy_alloc w (.cells #[.int .i64 x, .int .i64 y] 23) (some g))
  have c0 : (w.alloc (.cells #[.int .i64 x, .int .i64 y] 23)).heap.size = w.heap.size + 1 := World.size_alloc _ _
  have HB0 := Lib.hid hblk
  clear hl hrl hblk hown
  go_enter Try.func42, Try.ntmps42
  go_upto_region 3 with fail
  go_cut [14] (fun s14 wy => s14 = .bool (decide (r.H = 1) && decide (y = r.Y) && decide (x = r.X + r.W)) ∧ ∃ nq, wy = (w.alloc (.cells #[.int .i64 x, .int .i64 y] 23)).drewN nq)
  case first =>
    by_cases q1 : r.H = 1
    · have e1 : (r.H == 1) = true := by simp [q1]
      by_cases q2 : y = r.Y
      · have e2 : (y == r.Y) = true := by simp [q2]
        have Q1 := Lib.hid q1
        have Q2 := Lib.hid q2
        clear q1 q2
        go_quiet (fail)
        go_wp2_with fail
        go_meet
        refine ⟨?_, _, rfl⟩
        (simp [Q1.out, Q2.out]; try rfl)
      · have e2 : (y == r.Y) = false := by simp [q2]
        have Q1 := Lib.hid q1
        have Q2 := Lib.hid q2
        clear q1 q2
        go_quiet (fail)
        go_wp2_with fail
        go_meet
        refine ⟨?_, _, rfl⟩
        (simp [Q1.out, Q2.out]; try rfl)
    · have e1 : (r.H == 1) = false := by simp [q1]
      have Q1 := Lib.hid q1
      clear q1
      go_quiet (fail)
      go_wp2_with fail
      go_meet
      refine ⟨?_, _, rfl⟩
      simp [Q1.out]
  case rest =>
    obtain ⟨rfl, nq, rfl⟩ := hcut
    obtain ⟨j1, hj1⟩ : ∃ j1, (decide (r.H = 1) && decide (y = r.Y) && decide (x = r.X + r.W)) = j1 := ⟨_, rfl⟩
    rw [hj1]
    have J1 := Lib.hid hj1
    clear hj1
    cases j1
    · go_upto_region 6 with fail
      go_cut [51] (fun s51 wy => s51 = .bool (decide (r.H = 1) && decide (y = r.Y) && decide (x = r.X - 1)) ∧ ∃ nq, wy = (w.alloc (.cells #[.int .i64 x, .int .i64 y] 23)).drewN nq)
      case first =>
        by_cases q1 : r.H = 1
        · have e1 : (r.H == 1) = true := by simp [q1]
          by_cases q2 : y = r.Y
          · have e2 : (y == r.Y) = true := by simp [q2]
            have Q1 := Lib.hid q1
            have Q2 := Lib.hid q2
            clear q1 q2
            go_quiet (fail)
            go_wp2_with fail
            go_meet
            refine ⟨?_, _, drewN2 _ _ _⟩
            (simp [Q1.out, Q2.out]; try rfl)
          · have e2 : (y == r.Y) = false := by simp [q2]
            have Q1 := Lib.hid q1
            have Q2 := Lib.hid q2
            clear q1 q2
            go_quiet (fail)
            go_wp2_with fail
            go_meet
            refine ⟨?_, _, drewN2 _ _ _⟩
            (simp [Q1.out, Q2.out]; try rfl)
        · have e1 : (r.H == 1) = false := by simp [q1]
          have Q1 := Lib.hid q1
          clear q1
          go_quiet (fail)
          go_wp2_with fail
          go_meet
          refine ⟨?_, _, drewN2 _ _ _⟩
          simp [Q1.out]
      case rest =>
        obtain ⟨rfl, nr, rfl⟩ := hcut
        obtain ⟨j2, hj2⟩ : ∃ j2, (decide (r.H = 1) && decide (y = r.Y) && decide (x = r.X - 1)) = j2 := ⟨_, rfl⟩
        rw [hj2]
        have J2 := Lib.hid hj2
        clear hj2
        cases j2
        · go_upto_region 9 with fail
          go_cut [93] (fun s93 wy => s93 = .bool (decide (r.W = 1) && decide (x = r.X) && decide (y = r.Y + r.H)) ∧ ∃ nq, wy = (w.alloc (.cells #[.int .i64 x, .int .i64 y] 23)).drewN nq)
          case first =>
            by_cases q1 : r.W = 1
            · have e1 : (r.W == 1) = true := by simp [q1]
              by_cases q2 : x = r.X
              · have e2 : (x == r.X) = true := by simp [q2]
                have Q1 := Lib.hid q1
                have Q2 := Lib.hid q2
                clear q1 q2
                go_quiet (fail)
                go_wp2_with fail
                go_meet
                refine ⟨?_, _, drewN2 _ _ _⟩
                (simp [Q1.out, Q2.out]; try rfl)
              · have e2 : (x == r.X) = false := by simp [q2]
                have Q1 := Lib.hid q1
                have Q2 := Lib.hid q2
                clear q1 q2
                go_quiet (fail)
                go_wp2_with fail
                go_meet
                refine ⟨?_, _, drewN2 _ _ _⟩
                (simp [Q1.out, Q2.out]; try rfl)
            · have e1 : (r.W == 1) = false := by simp [q1]
              have Q1 := Lib.hid q1
              clear q1
              go_quiet (fail)
              go_wp2_with fail
              go_meet
              refine ⟨?_, _, drewN2 _ _ _⟩
              simp [Q1.out]
          case rest =>
            obtain ⟨rfl, ns, rfl⟩ := hcut
            obtain ⟨j3, hj3⟩ : ∃ j3, (decide (r.W = 1) && decide (x = r.X) && decide (y = r.Y + r.H)) = j3 := ⟨_, rfl⟩
            rw [hj3]
            have J3 := Lib.hid hj3
            clear hj3
            cases j3
            · go_upto_region 12 with fail
              go_cut [130] (fun s130 wy => s130 = .bool (decide (r.W = 1) && decide (x = r.X) && decide (y = r.Y - 1)) ∧ ∃ nq, wy = (w.alloc (.cells #[.int .i64 x, .int .i64 y] 23)).drewN nq)
              case first =>
                by_cases q1 : r.W = 1
                · have e1 : (r.W == 1) = true := by simp [q1]
                  by_cases q2 : x = r.X
                  · have e2 : (x == r.X) = true := by simp [q2]
                    have Q1 := Lib.hid q1
                    have Q2 := Lib.hid q2
                    clear q1 q2
                    go_quiet (fail)
                    go_wp2_with fail
                    go_meet
                    refine ⟨?_, _, drewN2 _ _ _⟩
                    (simp [Q1.out, Q2.out]; try rfl)
                  · have e2 : (x == r.X) = false := by simp [q2]
                    have Q1 := Lib.hid q1
                    have Q2 := Lib.hid q2
                    clear q1 q2
                    go_quiet (fail)
                    go_wp2_with fail
                    go_meet
                    refine ⟨?_, _, drewN2 _ _ _⟩
                    (simp [Q1.out, Q2.out]; try rfl)
                · have e1 : (r.W == 1) = false := by simp [q1]
                  have Q1 := Lib.hid q1
                  clear q1
                  go_quiet (fail)
                  go_wp2_with fail
                  go_meet
                  refine ⟨?_, _, drewN2 _ _ _⟩
                  simp [Q1.out]
              case rest =>
                obtain ⟨rfl, nt, rfl⟩ := hcut
                obtain ⟨j4, hj4⟩ : ∃ j4, (decide (r.W = 1) && decide (x = r.X) && decide (y = r.Y - 1)) = j4 := ⟨_, rfl⟩
                rw [hj4]
                have J4 := Lib.hid hj4
                clear hj4
                cases j4
                · trace "none"
                  have hBs2 : B ≤ (w.alloc (.cells #[.int .i64 x, .int .i64 y] 23)).heap.size := by rw [c0]; omega
                  obtain ⟨i0, hi, hi1, hi2, hi3⟩ := info_parts Try.infoR2
                  have bP := Blk.new w 23 #[.int .i64 x, .int .i64 y]
                  have hgw : w.grownBy ((w.alloc (.cells #[.int .i64 x, .int .i64 y] 23)).drewN nt) (some g) := grown_drewN HG.out nt
                  obtain ⟨V, hV⟩ : ∃ V, (w.alloc (.cells #[.int .i64 x, .int .i64 y] 23)).drewN nt = V := ⟨_, rfl⟩
                  have v0 : V.cell? ⟨w.heap.size, 0, none⟩ = some (.int .i64 x) := by rw [← hV]; exact bP.cellV (i := 0) rfl
                  have v1 : V.cell? ⟨w.heap.size, 1, none⟩ = some (.int .i64 y) := by rw [← hV]; exact bP.cellV (i := 1) rfl
                  have hov : V.ownsRow B 45 4 (.slice (some ⟨g, 0, none⟩) (k + 1) cap) (k + 1) (rcs (l0 ++ [r])) := by rw [← hV]; exact HO.out
                  have hvs : V.heap.size = w.heap.size + 1 := by rw [← hV]; exact c0
                  rw [hV] at hgw ⊢
                  have HOV := Lib.hid hov
                  have HGW := Lib.hid hgw
                  have HVS := Lib.hid hvs
                  clear hV bP hov hgw hvs c0 h0 h1 h2 h3 z0 z1 z2 z3
                  go_wp2_with (at_builtin; refine wpList_append_own_at _ rfl _ _ 52 rfl B 45 i0 _ 4 32 Try.underlying52 hi hi1 hi2 hi3 rfl (by decide) _ _ _ rfl (HOV.out.alloc _) ⟨V.heap.size, 0, none⟩ 1 1 [.int .i64 x, .int .i64 y, .int .i64 1, .int .i64 1] rfl rfl (four_new2 _ _ _ _ _ _) (by simp [Value.oneCell']) (by simp only [maxLen]; omega) (by omega) (by have := HVS.out; simp; omega) ?_; intro v' w4 hown' hgrow _ hat)
                  go_ret
                  rw [joinR_5 J1.out J2.out J3.out J4.out]
                  refine ⟨v', rfl, ?_, ?_, ?_⟩
                  · have e1 : (l0 ++ [r, ⟨x, y, 1, 1⟩]).length = k + 1 + 1 := by simp [HL.out]
                    have e2 : rcs (l0 ++ [r, ⟨x, y, 1, 1⟩]) = rcs (l0 ++ [r]) ++ [.int .i64 x, .int .i64 y, .int .i64 1, .int .i64 1] := by simp [rcs, RC.cells]
                    rw [e1, e2]
                    exact hown'
                  · exact (HGW.out.andThen (World.grownBy_alloc V _ (some g)) (fun j hj => .inr hj)).andThen hgrow (fun j hj => .inr hj)
                  · rcases hat with h | h
                    · exact .inl h
                    · refine .inr (fun g' hg' => ?_)
                      rw [h] at hg'
                      cases hg'
                      have := HVS.out
                      simp
                      omega
                · trace "4"
                  go_wp2_with fail
                  go_region
                  go_wp2_with fail
                  go_ret
                  rw [joinR_4 J1.out J2.out J3.out J4.out]
                  exact join_end hBg HL.out hnc hcm (len_of l0 r rest HL.out HRL.out) (blk_drewN ((blk_set1 ⟨r.X, r.Y - 1, r.W, r.H + 1⟩ (blk_set1 ⟨r.X, r.Y - 1, r.W, r.H⟩ HB0.out HL.out 1 _ rfl) HL.out 3 _ rfl).alloc _) _) (grown_two w g (k * 4 + 1) (k * 4 + 3) _ _ _ _) rfl
            · trace "3"
              go_wp2_with fail
              go_ret
              rw [joinR_3 J1.out J2.out J3.out]
              exact join_end hBg HL.out hnc hcm (len_of l0 r rest HL.out HRL.out) (blk_drewN ((blk_set1 ⟨r.X, r.Y, r.W, r.H + 1⟩ HB0.out HL.out 3 _ rfl).alloc _) _) (grown_one w g (k * 4 + 3) _ _ _) rfl
        · trace "2"
          go_wp2_with fail
          go_region
          go_wp2_with fail
          go_ret
          rw [joinR_2 J1.out J2.out]
          exact join_end hBg HL.out hnc hcm (len_of l0 r rest HL.out HRL.out) (blk_drewN ((blk_set1 ⟨r.X - 1, r.Y, r.W + 1, r.H⟩ (blk_set1 ⟨r.X - 1, r.Y, r.W, r.H⟩ HB0.out HL.out 0 _ rfl) HL.out 2 _ rfl).alloc _) _) (grown_two w g (k * 4) (k * 4 + 2) _ _ _ _) rfl
    · trace "1"
      go_wp2_with fail
      go_ret
      rw [joinR_1 J1.out]
      exact join_end hBg HL.out hnc hcm (len_of l0 r rest HL.out HRL.out) (blk_drewN ((blk_set1 ⟨r.X, r.Y, r.W + 1, r.H⟩ HB0.out HL.out 2 _ rfl).alloc _) _) (grown_one w g (k * 4 + 2) _ _ _) rfl

end Go.Proofs.Ytcdecglbkcllaaa
