/-
  The walks of the document's Pixels and Same, and of the law's awake.
-/
import Derived.Test.YtcdecglbkcllaaaLineWalkE
import Derived.Test.YtcdecglbkcllaaaLineWalkC
namespace Go.Proofs.Ytcdecglbkcllaaa.Ln
open Go.RowKit Go.Shelf

/-- a slice value reads as places. -/
def RdP (w : World) (v : Value) (l : List (Int × Int)) : Prop :=
  (l = [] ∧ ∃ A c, v = .slice A 0 c) ∨
  (∃ g cap, v = .slice (some ⟨g, 0, none⟩) l.length cap ∧ g < w.heap.size ∧ ∀ k p, l[k]? = some p → w.cell? ⟨g, k * 2, none⟩ = some (.int .i64 p.1) ∧ w.cell? ⟨g, k * 2 + 1, none⟩ = some (.int .i64 p.2))
theorem RdP.below {w w' : World} {v : Value} {l : List (Int × Int)} (h : RdP w v l) (hb : Below w.heap.size w w') : RdP w' v l := by
  rcases h with h | ⟨g, cap, e, hg, hc⟩
  · exact .inl h
  · exact .inr ⟨g, cap, e, Nat.lt_of_lt_of_le hg hb.size, fun k p hk => ⟨(hb.cell (p := ⟨g, k * 2, none⟩) hg).trans (hc k p hk).1, (hb.cell (p := ⟨g, k * 2 + 1, none⟩) hg).trans (hc k p hk).2⟩⟩

theorem run_eql_pt (w : World) (a b c d : Int) : (binOp .eql 23 (.agg #[.int .i64 a, .int .i64 b]) (.agg #[.int .i64 c, .int .i64 d])).run Try.prog w = .ok (.bool (a == c && b == d)) w := by
  cases h1 : (a == c) <;> cases h2 : (b == d) <;> simp [go_sem, h1, h2]
theorem run_neq_pt (w : World) (a b c d : Int) : (binOp .neq 23 (.agg #[.int .i64 a, .int .i64 b]) (.agg #[.int .i64 c, .int .i64 d])).run Try.prog w = .ok (.bool (!(a == c && b == d))) w := by
  cases h1 : (a == c) <;> cases h2 : (b == d) <;> simp [go_sem, h1, h2]

attribute [local go_sem ↓] run_eql_pt run_neq_pt
set_option maxHeartbeats 1000000 in
theorem same_go (ga gb ca cb : Nat) (la lb : List (Int × Int)) (w : World) (hl : la.length = lb.length) (hm : la.length ≤ 9223372036854775807)
    (ha : ∀ k p, la[k]? = some p → w.cell? ⟨ga, k * 2, none⟩ = some (.int .i64 p.1) ∧ w.cell? ⟨ga, k * 2 + 1, none⟩ = some (.int .i64 p.2))
    (hb : ∀ k p, lb[k]? = some p → w.cell? ⟨gb, k * 2, none⟩ = some (.int .i64 p.1) ∧ w.cell? ⟨gb, k * 2 + 1, none⟩ = some (.int .i64 p.2)) :
    Calls Try.prog 16 #[.slice (some ⟨ga, 0, none⟩) la.length ca, .slice (some ⟨gb, 0, none⟩) la.length cb] w fun e w' => e = .returned (.bool (decide (la = lb))) ∧ Below w.heap.size w w' := by
  have HA := Lib.hid ha
  have HB := Lib.hid hb
  have HL := Lib.hid hl
  clear ha hb hl
  go_enter Try.func16, Try.ntmps16
  go_wp2_with fail
  go_loopw [5] (fun i wr => ∃ k : Nat, i = .int .i64 k ∧ k ≤ la.length ∧ la.take k = lb.take k ∧ ∃ m, wr = w.drewN m) (fun i _ => la.length - (intOf i).toNat)
  case atStart => exact ⟨0, rfl, Nat.zero_le _, rfl, 0, rfl⟩
  case round =>
    obtain ⟨k, rfl, hk, htk, m, rfl⟩ := hrel
    have HT := Lib.hid htk
    clear htk
    by_cases hlt : k < la.length
    · have hlt' : k < lb.length := HL.out ▸ hlt
      obtain ⟨p, hp⟩ : ∃ p, la[k]? = some p := ⟨_, List.getElem?_eq_getElem hlt⟩
      obtain ⟨q, hq⟩ : ∃ q, lb[k]? = some q := ⟨_, List.getElem?_eq_getElem hlt'⟩
      obtain ⟨a1, a2⟩ := HA.out k p hp
      obtain ⟨b1, b2⟩ := HB.out k q hq
      have HP := Lib.hid hp
      have HQ := Lib.hid hq
      clear hp hq
      have k0 : (0 : Int) ≤ (k : Int) := by omega
      have k1 : (k : Int) < (la.length : Int) := by omega
      by_cases hpq : p = q
      · subst hpq
        go_wp2_with fail
        go_quiet (fail)
        go_wp2_with fail
        go_roundw
        case rel => exact ⟨k + 1, by go_num, by omega, by rw [List.take_add_one, List.take_add_one, HT.out, HP.out, HQ.out], _, rfl⟩
        case measure => simp [intOf]; omega
      · have hne : (p.1 == q.1 && p.2 == q.2) = false := by
          rw [Bool.and_eq_false_iff, beq_eq_false_iff_ne, beq_eq_false_iff_ne]
          rcases p with ⟨p1, p2⟩; rcases q with ⟨q1, q2⟩
          simp at hpq ⊢; omega
        have hab : la ≠ lb := fun e => hpq (by have h1 := HP.out; rw [e, HQ.out] at h1; exact (Option.some.inj h1).symm)
        clear hpq
        have HAB := Lib.hid hab
        clear hab
        go_wp2_with fail
        go_quiet (fail)
        go_wp2_with fail
        go_ret
        exact ⟨by rw [decide_eq_false HAB.out]; rfl, below_drewN (below_drewN (Below.refl _ _) _) _⟩
    · have hk' : k = la.length := by omega
      have hab : la = lb := by have h := HT.out; rw [hk', List.take_length, HL.out, List.take_length] at h; exact h
      have HAB := Lib.hid hab
      clear hab hk'
      go_wp2_with fail
      go_ret
      exact ⟨by rw [decide_eq_true HAB.out]; rfl, below_drewN (Below.refl _ _) _⟩

set_option maxHeartbeats 400000 in
theorem same_len (A B : Option Addr) (n m c d : Nat) (w : World) (hnm : n ≠ m) : Calls Try.prog 16 #[.slice A n c, .slice B m d] w fun e w' => e = .returned (.bool false) ∧ Below w.heap.size w w' := by
  have h1 : ((n : Int) != (m : Int)) = true := by simp; omega
  have h2 : (n != m) = true := by simp; omega
  clear hnm
  go_enter Try.func16, Try.ntmps16
  go_wp2_with fail
  go_ret
  exact ⟨rfl, Below.refl _ _⟩
set_option maxHeartbeats 400000 in
theorem same_none (A B : Option Addr) (c d : Nat) (w : World) : Calls Try.prog 16 #[.slice A 0 c, .slice B 0 d] w fun e w' => e = .returned (.bool true) ∧ Below w.heap.size w w' := by
  go_enter Try.func16, Try.ntmps16
  go_wp2_with fail
  refine wp_loop_rounds 1 ?_
  rw [rounds_succ]
  go_wp2_with fail
  go_ret
  exact ⟨rfl, Below.refl _ _⟩
theorem RdP.form {w : World} {v : Value} {l : List (Int × Int)} (h : RdP w v l) : ∃ A c, v = .slice A l.length c := by
  rcases h with ⟨rfl, A, c, e⟩ | ⟨g, cap, e, _⟩ <;> exact ⟨_, _, e⟩
theorem same_any {va vb : Value} {la lb : List (Int × Int)} {w : World} (ha : RdP w va la) (hb : RdP w vb lb) (hm : la.length ≤ 9223372036854775807) :
    Calls Try.prog 16 #[va, vb] w fun e w' => e = .returned (.bool (decide (la = lb))) ∧ Below w.heap.size w w' := by
  by_cases hl : la.length = lb.length
  · by_cases h0 : la.length = 0
    · obtain ⟨A, c, rfl⟩ := ha.form
      obtain ⟨B, d, rfl⟩ := hb.form
      obtain rfl : la = [] := List.eq_nil_of_length_eq_zero h0
      obtain rfl : lb = [] := List.eq_nil_of_length_eq_zero (hl ▸ h0)
      exact same_none _ _ _ _ _
    · rcases ha with ⟨rfl, _⟩ | ⟨ga, ca, rfl, _, ha⟩
      · simp at h0
      · rcases hb with ⟨rfl, _⟩ | ⟨gb, cb, rfl, _, hb⟩
        · simp at hl; simp [hl] at h0
        · rw [← hl]
          exact same_go ga gb ca cb la lb w hl hm ha hb
  · obtain ⟨A, c, rfl⟩ := ha.form
    obtain ⟨B, d, rfl⟩ := hb.form
    have : decide (la = lb) = false := decide_eq_false (fun e => hl (by rw [e]))
    rw [this]
    exact same_len _ _ _ _ _ _ _ hl

/-- what owns cells of places reads as places. -/
def unR (l : List PtR) : List (Int × Int) := l.map fun p => p.1
theorem pcs_at (l : List PtR) (k : Nat) (p : PtR) (h : l[k]? = some p) : (pcs l)[k * 2]? = some (.int .i64 p.1.1) ∧ (pcs l)[k * 2 + 1]? = some (.int .i64 p.1.2) := by
  induction l generalizing k with
  | nil => simp at h
  | cons q l ih =>
    cases k with
    | zero => simp at h; subst h; simp [pcs]
    | succ k =>
      simp at h
      have := ih k h
      rw [show (k + 1) * 2 = k * 2 + 2 from by omega, show k * 2 + 2 + 1 = (k * 2 + 1) + 2 from by omega]
      simpa [pcs] using this
theorem RdP.of_own {w : World} {base e : Nat} {v : Value} {n : Nat} {l : List PtR} (h : w.ownsRow base e 2 v n (pcs l)) (hn : n = l.length) : RdP w v (unR l) := by
  subst hn
  rcases Nat.eq_zero_or_pos l.length with h0 | h0
  · obtain rfl : l = [] := List.eq_nil_of_length_eq_zero h0
    rcases h.2 with ⟨rfl, _⟩ | ⟨g, cap, cur, rfl, _⟩
    · exact .inl ⟨rfl, _, _, rfl⟩
    · exact .inl ⟨rfl, _, _, rfl⟩
  · obtain ⟨g, cap, rfl, hlt⟩ : ∃ g cap, v = .slice (some ⟨g, 0, none⟩) l.length cap ∧ g < w.heap.size := by
      rcases h.2 with ⟨_, h1⟩ | ⟨g, cap, cur, rfl, _, hg, _⟩
      · omega
      · exact ⟨g, cap, rfl, (Array.getElem?_eq_some_iff.1 hg).1⟩
    refine .inr ⟨g, cap, by simp [unR], hlt, fun k p hk => ?_⟩
    have hc := h.cells (g := g) rfl
    obtain ⟨q, hq, rfl⟩ : ∃ q, l[k]? = some q ∧ q.1 = p := by simpa [unR] using hk
    have := pcs_at l k q hq
    have h1 := hc _ _ this.1
    have h2 := hc _ _ this.2
    simp only [Addr.add] at h1 h2
    split at h1 <;> split at h2 <;> simp_all

theorem ownsRow_below {w w' : World} {base e size n : Nat} {v : Value} {xs : List Value} (h : w.ownsRow base e size v n xs) (hb : Below w.heap.size w w') : w'.ownsRow base e size v n xs :=
  h.kept (grown_of_below hb none) (by cases v.ownBlock <;> simp)
theorem ownsRow_base {w : World} {base base' e size n : Nat} {v : Value} {xs : List Value} (h : w.ownsRow base e size v n xs) (hb : base' ≤ base) : w.ownsRow base' e size v n xs := by
  refine ⟨h.1, ?_⟩
  rcases h.2 with h | ⟨g, cap, cur, e, hg, r⟩
  · exact .inl h
  · exact .inr ⟨g, cap, cur, e, by omega, r⟩
theorem own_ge {w : World} {base e size n : Nat} {v : Value} {xs : List Value} (h : w.ownsRow base e size v n xs) : ∀ g, v.ownBlock = some g → base ≤ g := fun g hg => (h.lt g hg).1

set_option maxHeartbeats 1000000 in
theorem rpixels_any (ax ay bx by' : Int) (w : World) (h1 : rightB ax ay = true) (h2 : rightB bx by' = true) (h3 : stpI ax ay bx by' ≤ 1500) :
    Calls Try.prog 15 #[.agg #[.int .i64 ax, .int .i64 ay], .agg #[.int .i64 bx, .int .i64 by']] w fun e w' => ∃ v, e = .returned (.tuple #[v, .int .i64 0]) ∧ w'.ownsRow w.heap.size 23 2 v (stp ax ay bx by' + 1) (pcs (ptsR ax ay bx by' 0 (stp ax ay bx by' + 1))) ∧ Below w.heap.size w w' := by
  have hs := stpI_bd h1 h2
  obtain ⟨i0, hi, hz0, hz1, hz2⟩ := info_parts Try.infoPt
  have hd : decide (65536 < stpI ax ay bx by' + 1) = false := by simp; omega
  have H1 := Lib.hid h1
  have H2 := Lib.hid h2
  go_enter Try.func15, Try.ntmps15
  go_wp2_with (first
    | (go_at_call 11; refine (rright_any _ _ _).mono ?_; rintro e w' ⟨rfl, rfl⟩)
    | (go_at_call 13; refine (rlong_any _ _ _ _ _ H1.out H2.out).mono ?_; rintro e w1 ⟨rfl, hb⟩))
  have hb01 : Below w.heap.size w w1 := (((((Below.refl _ w).alloc (Nat.le_refl _) _).alloc (by simp) _).alloc (by simp; omega) _).alloc (by simp; omega) _).trans (hb.mono (by simp; omega))
  have hz := hb.size
  simp only [World.size_alloc] at hz
  have a0 : w1.cell? ⟨w.heap.size, 0, none⟩ = some (.int .i64 ax) := (hb.cell (p := ⟨w.heap.size, 0, none⟩) (by simp; omega)).trans (by go_simp)
  have a1 : w1.cell? ⟨w.heap.size, 1, none⟩ = some (.int .i64 ay) := (hb.cell (p := ⟨w.heap.size, 1, none⟩) (by simp; omega)).trans (by go_simp)
  have a2 : w1.cell? ⟨w.heap.size + 1, 0, none⟩ = some (.int .i64 bx) := (hb.cell (p := ⟨w.heap.size + 1, 0, none⟩) (by simp)).trans (by go_simp)
  have a3 : w1.cell? ⟨w.heap.size + 1, 1, none⟩ = some (.int .i64 by') := (hb.cell (p := ⟨w.heap.size + 1, 1, none⟩) (by simp)).trans (by go_simp)
  clear hb
  go_loopw [6, 7] (fun out i wr => ∃ k : Nat, i = .int .i64 k ∧ (k : Int) ≤ stpI ax ay bx by' + 1 ∧ wr.ownsRow w1.heap.size 23 2 out k (pcs (ptsR ax ay bx by' 0 k)) ∧ Below w1.heap.size w1 wr) (fun _ i _ => (stpI ax ay bx by' + 1 - intOf i).toNat)
  case atStart => exact ⟨0, rfl, by omega, World.ownsRow_nil _ _ _ _, Below.refl _ _⟩
  case round =>
    obtain ⟨k, rfl, hk, hown, hB⟩ := hrel
    have c0 := (hB.cell (p := ⟨w.heap.size, 0, none⟩) (by dsimp only; omega)).trans a0
    have c1 := (hB.cell (p := ⟨w.heap.size, 1, none⟩) (by dsimp only; omega)).trans a1
    have c2 := (hB.cell (p := ⟨w.heap.size + 1, 0, none⟩) (by dsimp only; omega)).trans a2
    have c3 := (hB.cell (p := ⟨w.heap.size + 1, 1, none⟩) (by dsimp only; omega)).trans a3
    have hBz := hB.size
    have HO := Lib.hid hown
    clear hown a0 a1 a2 a3
    by_cases hlt : (k : Int) < stpI ax ay bx by' + 1
    · have hd2 : decide ((k : Int) < stpI ax ay bx by' + 1) = true := by simp; omega
      go_wp2_with (go_at_call 13; refine (rlong_any _ _ _ _ _ H1.out H2.out).mono ?_; rintro e w2 ⟨rfl, hb2⟩; obtain ⟨hc2, hf2⟩ := bcell hb2; have z1 : w.heap.size < wr.heap.size := (by omega); have z2 : w.heap.size + 1 < wr.heap.size := (by omega))
      refine (rat_any ax ay bx by' k _ H1.out H2.out (by omega) (by omega)).mono ?_
      rintro e w3 ⟨rfl, hb3⟩
      have hs23 := hb3.size
      have hs2 := hb2.size
      have hBB : Below wr.heap.size wr w3 := hb2.trans (hb3.mono hb2.size)
      have HO3 := Lib.hid (ownsRow_below HO.out hBB)
      have hpr := pt_right H1.out H2.out (k : Int) (by omega) (by unfold stpI at hlt; omega)
      clear hc2 hf2
      go_wp2_with (at_builtin; refine wpList_append_own _ rfl _ _ 25 rfl w1.heap.size 23 i0 _ 2 16 Try.underlying25 hi hz0 hz1 hz2 rfl (by decide) _ _ _ rfl (HO3.out.alloc _) ⟨w3.heap.size, 0, none⟩ 1 1 [.int .i64 (ptx ax ay bx by' k), .int .i64 (pty ax ay bx by' k)] rfl rfl (two_new _ _ _ _) (by simp [Value.oneCell']) (by simp only [maxLen]; omega) (by omega) (by simp; omega) ?_; intro v' w4 hown' hgrow _)
      have hlast : w4.ownsRow w1.heap.size 23 2 v' (k + 1) (pcs (ptsR ax ay bx by' 0 (k + 1))) := by
        rw [ptsR_succ, pcs_snoc, Int.zero_add, mkR_x hpr, mkR_y hpr]
        exact hown'
      have hB4 : Below w1.heap.size w1 w4 := ((hB.trans (hBB.mono hBz)).alloc (by omega) _).grown hgrow (by simp; omega) (own_ge HO3.out)
      go_roundw
      case rel => exact ⟨k + 1, by go_num, by omega, hlast, hB4⟩
      case measure => simp [intOf]; omega
    · have hd2 : decide ((k : Int) < stpI ax ay bx by' + 1) = false := by simp; omega
      have hkk : k = stp ax ay bx by' + 1 := by unfold stpI at hlt hk; omega
      have HKK := Lib.hid hkk
      clear hkk
      go_wp2_with (go_at_call 13; refine (rlong_any _ _ _ _ _ H1.out H2.out).mono ?_; rintro e w2 ⟨rfl, hb2⟩)
      go_ret2
      have hw := ownsRow_below HO.out hb2
      rw [HKK.out] at hw
      exact ⟨_, rfl, ownsRow_base hw hb01.size, (hb01.trans (hB.mono hb01.size)).trans (hb2.mono (by omega))⟩

end Go.Proofs.Ytcdecglbkcllaaa.Ln
