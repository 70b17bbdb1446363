/-
  The walks of line.walk and of its iterator: it hands on the places of a line from one step to another one, in order.
-/
import Derived.RangeFuncNested
import Derived.RangeFuncBound
import Derived.RangeFuncCalls
import Derived.RangeFuncLeaves
import Derived.Shelf.Abstract
import Derived.Shelf.RegionOpen
import Derived.OwnWalkIn
import Derived.TacticsInMore
import Derived.LoopNIn
import Derived.LoopIn
import Derived.Maps.AppendAt
import Derived.Laws.EntriesVeiled
import Derived.Test.YtcdecglbkcllaaaLineWalkB
namespace Go.Proofs.Ytcdecglbkcllaaa.Ln
open Go.RowKit Go.Shelf
attribute [local go_sem] Oper.semAt_some

/-- a right point. -/
abbrev PtR := { p : Int × Int // rightB p.1 p.2 = true }
def mkR (x y : Int) : PtR := if h : rightB x y = true then ⟨(x, y), h⟩ else ⟨(0, 0), by decide⟩
theorem mkR_x {x y : Int} (h : rightB x y = true) : (mkR x y).1.1 = x := by unfold mkR; rw [dif_pos h]
theorem mkR_y {x y : Int} (h : rightB x y = true) : (mkR x y).1.2 = y := by unfold mkR; rw [dif_pos h]
/-- the first k places of a line from a step on. -/
def ptsR (ax ay bx by' from' : Int) (k : Nat) : List PtR := (List.range k).map fun j : Nat => mkR (ptx ax ay bx by' (from' + j)) (pty ax ay bx by' (from' + j))
theorem ptsR_length (ax ay bx by' from' : Int) (k : Nat) : (ptsR ax ay bx by' from' k).length = k := by simp [ptsR]
theorem ptsR_succ (ax ay bx by' from' : Int) (k : Nat) : ptsR ax ay bx by' from' (k + 1) = ptsR ax ay bx by' from' k ++ [mkR (ptx ax ay bx by' (from' + k)) (pty ax ay bx by' (from' + k))] := by
  simp [ptsR, List.range_succ]
theorem ptsR_prefix (ax ay bx by' from' : Int) {k m : Nat} (h : k ≤ m) : ptsR ax ay bx by' from' k <+: ptsR ax ay bx by' from' m := by
  unfold ptsR
  obtain ⟨d, rfl⟩ : ∃ d, m = k + d := ⟨m - k, by omega⟩
  rw [List.range_add, List.map_append]
  exact List.prefix_append _ _

/-- the function value that walk hands back: in which boxes it finds what. -/
def WalkFn (W : World) (lo hi : Nat) (g : Value) (ax ay bx by' from' to' : Int) : Prop :=
  ∃ bf bt ba f, g = .func (.func 55) #[] #[.pointer (some ⟨bf, 0, none⟩), .pointer (some ⟨bt, 0, none⟩), .pointer (some ⟨ba, 0, none⟩)] ∧
    (lo ≤ bf ∧ bf < hi ∧ lo ≤ bt ∧ bt < hi ∧ lo ≤ ba ∧ ba < hi) ∧
    W.cell? ⟨bf, 0, none⟩ = some (I from') ∧ W.cell? ⟨bt, 0, none⟩ = some (I to') ∧ W.cell? ⟨ba, 0, none⟩ = some f ∧ AtFn W lo hi f ax ay bx by'

theorem AtFn.wider {W : World} {lo hi hi' : Nat} {f : Value} {ax ay bx by' : Int} (hA : AtFn W lo hi f ax ay bx by') (h : hi ≤ hi') : AtFn W lo hi' f ax ay bx by' := by
  rcases hA with ⟨hf, p1, p2, p3, p4, e, hr, c⟩ | ⟨hf, p1, p2, p3, p4, e, hr, c⟩
  · exact .inl ⟨hf, p1, p2, p3, p4, e, by omega, c⟩
  · exact .inr ⟨hf, p1, p2, p3, p4, e, by omega, c⟩
theorem AtFn.lower {W : World} {lo lo' hi : Nat} {f : Value} {ax ay bx by' : Int} (hA : AtFn W lo hi f ax ay bx by') (h : lo' ≤ lo) : AtFn W lo' hi f ax ay bx by' := by
  rcases hA with ⟨hf, p1, p2, p3, p4, e, hr, c⟩ | ⟨hf, p1, p2, p3, p4, e, hr, c⟩
  · exact .inl ⟨hf, p1, p2, p3, p4, e, by omega, c⟩
  · exact .inr ⟨hf, p1, p2, p3, p4, e, by omega, c⟩

theorem AtFn.form {W : World} {lo hi : Nat} {f : Value} {ax ay bx by' : Int} (hA : AtFn W lo hi f ax ay bx by') : ∃ k caps, f = .func (.func k) #[] caps := by
  rcases hA with ⟨hf, p1, p2, p3, p4, e, hr, c⟩ | ⟨hf, p1, p2, p3, p4, e, hr, c⟩ <;> exact ⟨_, _, e⟩

set_option maxHeartbeats 1000000 in
theorem walk_any (ax ay bx by' from' to' : Int) (w : World) (h1 : rightB ax ay = true) (h2 : rightB bx by' = true) :
    Calls Try.prog 35 #[.agg #[.int .i64 ax, .int .i64 ay], .agg #[.int .i64 bx, .int .i64 by'], .int .i64 from', .int .i64 to'] w fun e w' => ∃ g, e = .returned g ∧ WalkFn w' w.heap.size w'.heap.size g ax ay bx by' from' to' ∧ Below w.heap.size w w' := by
  have H1 := Lib.hid h1
  have H2 := Lib.hid h2
  clear h1 h2
  go_enter Try.func35, Try.ntmps35
  go_wp2_with (go_at_call 34; refine (track_any _ _ _ _ _ H1.out H2.out).mono ?_; rintro e w1 ⟨f, rfl, hA, hb⟩; obtain ⟨hc, hfz⟩ := bcell hb; have hz := hb.size; simp at hz; obtain ⟨fk, caps, rfl⟩ := hA.form; have HA := Lib.hid hA; clear hA)
  go_ret
  have hbb : Below w.heap.size w w1 := (((((Below.refl _ w).alloc (Nat.le_refl _) _).alloc (by simp) _).alloc (by simp; omega) _).alloc (by simp; omega) _).trans (hb.mono (by simp; omega))
  have ha := hbb.alloc hbb.size (.cells #[.func (.func fk) #[] caps] 67)
  refine ⟨_, rfl, ⟨w.heap.size + 1 + 1, w.heap.size + 1 + 1 + 1, w1.heap.size, .func (.func fk) #[] caps, rfl, by simp; omega, ?_, ?_, ?_, ?_⟩, ha⟩
  · rw [World.cell?_alloc_lt _ _ _ (by dsimp only; omega)]; go_simp
  · rw [World.cell?_alloc_lt _ _ _ (by dsimp only; omega)]; go_simp
  · go_simp
  · exact ((HA.out.below ((Below.refl w1.heap.size w1).alloc (Nat.le_refl _) _) (Nat.le_refl _)).wider (by simp)).lower (by simp; omega)

/-- the blocks from lo on, below hi, lie as they lay. -/
structure Keep (lo hi : Nat) (W W' : World) : Prop where
  size : W.heap.size ≤ W'.heap.size
  block : ∀ b, lo ≤ b → b < hi → W'.heap[b]? = W.heap[b]?
section
variable {lo hi : Nat} {A B C : World}
theorem Keep.refl (lo hi : Nat) (W : World) : Keep lo hi W W := ⟨Nat.le_refl _, fun _ _ _ => rfl⟩
theorem Keep.trans (h : Keep lo hi A B) (k : Keep lo hi B C) : Keep lo hi A C := ⟨Nat.le_trans h.size k.size, fun b h1 h2 => (k.block b h1 h2).trans (h.block b h1 h2)⟩
theorem Keep.of_below {n : Nat} (h : Below n A B) (hn : hi ≤ n) : Keep lo hi A B := ⟨h.size, fun b _ h2 => h.block b (Nat.lt_of_lt_of_le h2 hn)⟩
theorem Keep.cell (h : Keep lo hi A B) {p : Addr} (h1 : lo ≤ p.block) (h2 : p.block < hi) : B.cell? p = A.cell? p := World.cell?_of_block (h.block p.block h1 h2)
theorem Keep.setCell (h : Keep lo hi A B) {p : Addr} (hp : p.block < lo ∨ hi ≤ p.block) (u : Value) : Keep lo hi A (B.setCell p u) :=
  ⟨by simpa [World.setCell] using h.size, fun b h1 h2 => (Below.heap_setCell B p u b (by omega)).trans (h.block b h1 h2)⟩
theorem Keep.alloc (h : Keep lo hi A B) (hB : hi ≤ B.heap.size) (o : Obj) : Keep lo hi A (B.alloc o) :=
  ⟨Nat.le_trans h.size (by simp), fun b h1 h2 => (Below.heap_alloc B o b (by omega)).trans (h.block b h1 h2)⟩
theorem Keep.grown (h : Keep lo hi A B) {row : Option Nat} (hg : B.grownBy C row) (hB : hi ≤ B.heap.size) (hr : ∀ g, row = some g → g < lo ∨ hi ≤ g) : Keep lo hi A C :=
  ⟨Nat.le_trans h.size hg.size, fun b h1 h2 => (hg.block b (by omega) (fun e => by have := hr _ e.symm; omega)).trans (h.block b h1 h2)⟩
theorem Keep.putObj {w : World} (hn : hi ≤ w.heap.size) (W : World) (l : Nat) (o o' : Obj) (hl : w.heap.size ≤ l) (_ : W.heap[l]? = some o) (_ : o.isCells = false) (_ : o.isWalk = false) : Keep lo hi W (W.putObj l o') :=
  ⟨by simp, fun b _ h2 => World.putObj_heap_other (by omega)⟩
end

theorem AtFn.keep {W W' : World} {lo hi : Nat} {f : Value} {ax ay bx by' : Int} (hA : AtFn W lo hi f ax ay bx by') (hb : Keep lo hi W W') : AtFn W' lo hi f ax ay bx by' := by
  rcases hA with ⟨hf, p1, p2, p3, p4, e, hr, c1, c2, c3, c4, c5⟩ | ⟨hf, p1, p2, p3, p4, e, hr, c1, c2, c3, c4, c5⟩
  · exact .inl ⟨hf, p1, p2, p3, p4, e, hr, (hb.cell (p := ⟨p1, 0, none⟩) (by dsimp only; omega) (by dsimp only; omega)).trans c1, (hb.cell (p := ⟨p1, 1, none⟩) (by dsimp only; omega) (by dsimp only; omega)).trans c2, (hb.cell (p := ⟨p2, 0, none⟩) (by dsimp only; omega) (by dsimp only; omega)).trans c3, (hb.cell (p := ⟨p3, 0, none⟩) (by dsimp only; omega) (by dsimp only; omega)).trans c4, (hb.cell (p := ⟨p4, 0, none⟩) (by dsimp only; omega) (by dsimp only; omega)).trans c5⟩
  · exact .inr ⟨hf, p1, p2, p3, p4, e, hr, (hb.cell (p := ⟨p1, 0, none⟩) (by dsimp only; omega) (by dsimp only; omega)).trans c1, (hb.cell (p := ⟨p1, 1, none⟩) (by dsimp only; omega) (by dsimp only; omega)).trans c2, (hb.cell (p := ⟨p2, 0, none⟩) (by dsimp only; omega) (by dsimp only; omega)).trans c3, (hb.cell (p := ⟨p3, 0, none⟩) (by dsimp only; omega) (by dsimp only; omega)).trans c4, (hb.cell (p := ⟨p4, 0, none⟩) (by dsimp only; omega) (by dsimp only; omega)).trans c5⟩

theorem grown_of_below {a w : World} (h : Below a.heap.size a w) (row : Option Nat) : a.grownBy w row := ⟨h.os, h.tape, h.output, h.size, fun i hi _ => h.block i hi⟩

set_option maxRecDepth 100000 in
set_option maxHeartbeats 1000000 in
/-- the iterator hands on the places from the step from' on, as far as to'. -/
theorem walk1_stops (n : Nat) (hn : 1 ≤ n) (lo hi : Nat) (ax ay bx by' from' to' : Int) (h1 : rightB ax ay = true) (h2 : rightB bx by' = true) (hf0 : 0 ≤ from') (hf1 : from' ≤ 8388608) (ht : to' ≤ stp ax ay bx by') (ht0 : -8388608 ≤ to')
    (bf bt ba : Nat) (f : Value) (w : World) (hhi : hi ≤ w.heap.size) (hrg : lo ≤ bf ∧ bf < hi ∧ lo ≤ bt ∧ bt < hi ∧ lo ≤ ba ∧ ba < hi)
    (cf : w.cell? ⟨bf, 0, none⟩ = some (I from')) (ct : w.cell? ⟨bt, 0, none⟩ = some (I to')) (ca : w.cell? ⟨ba, 0, none⟩ = some f) (hA : AtFn w lo hi f ax ay bx by') :
    SeqStopsK Fence.wide n Try.prog 55 #[.pointer (some ⟨bf, 0, none⟩), .pointer (some ⟨bt, 0, none⟩), .pointer (some ⟨ba, 0, none⟩)] (fun p : PtR => #[Value.agg #[.int .i64 p.1.1, .int .i64 p.1.2]]) (Keep lo hi)
      (fun ys => ys = ptsR ax ay bx by' from' (to' - from' + 1).toNat) (fun pre => pre <+: ptsR ax ay bx by' from' (to' - from' + 1).toNat) (to' - from' + 1).toNat w := by
  intro l J Jx W hW hJ _ hY h0
  have hst := stp_le h1 h2
  have cf := (hW.cell (p := ⟨bf, 0, none⟩) (by dsimp only; omega)).trans cf
  have ct := (hW.cell (p := ⟨bt, 0, none⟩) (by dsimp only; omega)).trans ct
  have ca := (hW.cell (p := ⟨ba, 0, none⟩) (by dsimp only; omega)).trans ca
  have hA := hA.below hW (by omega)
  have hWs := hW.size
  have H1 := Lib.hid h1
  have H2 := Lib.hid h2
  have HA := Lib.hid hA
  have HJ := Lib.hid hJ
  have HY := Lib.hid hY
  have HW := Lib.hid hW
  clear h1 h2 hA hJ hY hW
  refine callsIn_of_wp Try.func55 rfl trivial ?_ rfl
  simp only [Try.ntmps55, List.size_toArray, List.length_cons, List.length_nil, Nat.reduceAdd, Nat.reduceSub, Array.replicate_succ, Array.replicate_zero, List.push_toArray, List.append_toArray, List.nil_append, List.cons_append]
  gi_wp2_with fail
  gi_loopw [5] (fun i wr => ∃ k : Nat, i = .int .i64 (from' + k) ∧ k ≤ (to' - from' + 1).toNat ∧ J (ptsR ax ay bx by' from' k) wr ∧ Keep lo hi W wr)
    (fun i _ => (to' + 1 - intOf i).toNat)
  case atStart =>
    exact ⟨0, by simp, Nat.zero_le _, by simpa [ptsR] using h0, Keep.refl _ _ _⟩
  case round =>
    obtain ⟨k, rfl, hk, hJk, hB⟩ := hrel
    have cf' := (hB.cell (p := ⟨bf, 0, none⟩) (by dsimp only; omega) (by dsimp only; omega)).trans cf
    have ct' := (hB.cell (p := ⟨bt, 0, none⟩) (by dsimp only; omega) (by dsimp only; omega)).trans ct
    have ca' := (hB.cell (p := ⟨ba, 0, none⟩) (by dsimp only; omega) (by dsimp only; omega)).trans ca
    have HB := Lib.hid hB
    have hBs := hB.size
    clear hB cf ct ca cf'
    by_cases hlt : from' + k ≤ to'
    · have hA' := HA.out.keep HB.out
      obtain ⟨fk, caps, rfl, hfk, hcall⟩ := atfn_any hA' H1.out H2.out (from' + k) (by omega) (by omega)
      have hpr := pt_right H1.out H2.out (from' + k) (by omega) (by omega)
      have HC := Lib.hid hcall
      clear hcall hA'
      rcases hfk with rfl | rfl
      all_goals
        gi_wp2_with fail
        refine ⟨trivial, (callsIn_wide.2 HC.out).mono ?_⟩
        rintro e w1 ⟨rfl, hb1⟩
        have hJ1 := HJ.out _ _ _ none hJk (grown_of_below hb1 none) (by simp)
        obtain ⟨fn, tmps, assign, body, hy, hR⟩ := HY.out _ (mkR (ptx ax ay bx by' (from' + k)) (pty ax ay bx by' (from' + k))) w1 hJ1 (by rw [ptsR_length]; omega)
        rw [mkR_x hpr, mkR_y hpr] at hy
        rw [← ptsR_succ] at hR
        have HR := Lib.hid hR
        have HB1 := Lib.hid hb1
        clear hR hJ1 hb1
        gi_wp2_with fail
        refine HR.out.mono ?_
        rintro e W3 (⟨rfl, hJ3, hk3⟩ | ⟨rfl, hJx3⟩)
        · have hb1 := HB1.out
          have hbw : Keep lo hi W W3 := (HB.out.trans (Keep.of_below hb1 (by omega))).trans hk3
          gi_wp2_with fail
          go_roundw
          case rel => exact ⟨k + 1, by go_num, by omega, hJ3, hbw⟩
          case measure => simp [intOf]; omega
        · gi_wp2_with fail
          refine bodyPost_ret (results_none rfl _ _ _) rfl ?_
          exact ⟨⟨_, rfl⟩, .inr ⟨_, ptsR_prefix _ _ _ _ _ (by omega), hJx3⟩⟩
    · gi_wp2_with fail
      obtain rfl : k = (to' - from' + 1).toNat := by omega
      go_end0
      exact ⟨⟨_, rfl⟩, .inl hJk⟩

end Go.Proofs.Ytcdecglbkcllaaa.Ln
