/-
  A range over a function whose iterator tells, at each yield, what holds of the element then.
  A range over a function whose iterator keeps state in a cell of its own, and may be left early.
  A text's lines, one by one: strings.Cut at a line feed, screen.lines, screen.formed.
  screen.formed.
  A map of lists of rectangles, that grows: each pixel's places.
  Plain: the places of each pixel, and a grid that is filled pixel by pixel.
  Operations, one at a time, whatever world they meet.
-/
import Derived.RangeFuncNested
import Derived.RangeFuncBound
import Derived.RangeFuncCalls
import Derived.RangeFuncLeaves
import Derived.Shelf.Abstract
import Derived.Shelf.RegionOpen
import Derived.OwnWalkIn
import Derived.TacticsInMore
import Derived.LoopNIn
import Derived.LoopIn
import Derived.Maps.AppendAt
import Derived.Maps.OwnIn
import Derived.Laws.EntriesVeiled
import Derived.Lib.CutLaws
import Derived.BigQuiet
import Derived.Test.YtdaedkolpfkdjaaGreatShelfC
import Derived.Test.YtdaedkolpfkdjaaGreatZT32
import Derived.Test.YtdaedkolpfkdjaaGreatZT28
import Derived.Test.YtdaedkolpfkdjaaGreatZT26
import Derived.Test.YtdaedkolpfkdjaaGreatZT13
import Derived.Test.YtdaedkolpfkdjaaGreatZT09
import Derived.Test.YtdaedkolpfkdjaaGreatZT25
import Derived.Test.YtdaedkolpfkdjaaGreatZT07
section
namespace Go.Proofs.YtdaedkolpfkdjaaGreat
open Go.RowKit

section
variable {F : Fence} {n : Nat} {P : Program} {α : Type}
/-- an iterator that is never left early; at x's yield 'T x' holds. -/
def SeqTells (F : Fence) (n : Nat) (P : Program) (g : Nat) (lb : Array Value) (encs : α → Array Value) (Kp : World → World → Prop) (T : α → World → Prop) (S : List α → Prop) (N : Nat) (w : World) : Prop :=
  ∀ (l : Nat) (J : List α → World → Prop) (W : World), Below w.heap.size w W → AbidesFrom W.heap.size J →
    (∀ pre x W1, J pre W1 → T x W1 → pre.length < N → YieldAt F (n - 1) P l (encs x) W1 fun e W' => e = .returned (.bool true) ∧ J (pre ++ [x]) W' ∧ Kp W1 W') →
    J [] W → CallsIn F n P g (#[.func (.yield l) #[] #[]] ++ lb) W fun e W' => (∃ v, e = .returned v) ∧ ∃ xs, S xs ∧ J xs W'
/-- a loop's two blocks: its record, and the block of its rounds' deferred calls. -/
structure Book (B : Nat) (r : Loop) (W : World) : Prop where
  own1 : W.heap[B + 1]? = some (.loop r)
  own0 : W.heap[B]? = some (.deferred (some []))
theorem Book.lt {B : Nat} {r : Loop} {W : World} (h : Book B r W) : B + 1 < W.heap.size := (Array.getElem?_eq_some_iff.1 h.own1).1
theorem Book.keep {B : Nat} {r : Loop} {W W' : World} (h : Book B r W) (k : KeepsFrom B W W') : Book B r W' := ⟨k.same _ _ (by omega) h.own1 rfl, k.same _ _ (Nat.le_refl _) h.own0 rfl⟩
theorem Book.put {B : Nat} {r : Loop} {W : World} (h : Book B r W) (r' : Loop) : Book B r' (W.putObj (B + 1) (.loop r')) := ⟨World.putObj_heap_same h.lt, (World.putObj_heap_other (by omega)).trans h.own0⟩
theorem Book.own {B B' : Nat} {r : Loop} {A W : World} {row : Option Nat} (h : Book B r A) (hg : A.grownBy W row) (hr : ∀ q, row = some q → B' ≤ q ∧ ∃ o : Obj, A.heap[q]? = some o ∧ o.isWalk = true) : Book B r W :=
  ⟨(grownBy_keeps hg (fun q e => (hr q e).2) h.own1 rfl).trans h.own1, (grownBy_keeps hg (fun q e => (hr q e).2) h.own0 rfl).trans h.own0⟩
end
end Go.Proofs.YtdaedkolpfkdjaaGreat
end

section
namespace Go.Proofs.YtdaedkolpfkdjaaGreat
open Go.RowKit

section
variable {F : Fence} {n : Nat} {P : Program} {α : Type}
/-- an iterator that may be left early; behind 'pre' x comes only where 'T pre x'; it writes as 'Wr' says, besides. -/
def SeqTellsX (F : Fence) (n : Nat) (P : Program) (g : Nat) (lb : Array Value) (encs : α → Array Value) (Kp : World → World → Prop) (T : List α → α → Prop) (S Sp : List α → Prop) (N : Nat) (Wr : World → World → Prop) (w : World) : Prop :=
  ∀ (l : Nat) (J Jx : List α → World → Prop) (W : World), Below w.heap.size w W → AbidesFrom W.heap.size J → (∀ s A B, Wr A B → J s A → J s B) →
    (∀ pre x W1, J pre W1 → T pre x → pre.length < N → YieldAt F (n - 1) P l (encs x) W1 fun e W' => (e = .returned (.bool true) ∧ J (pre ++ [x]) W' ∧ Kp W1 W') ∨ (e = .returned (.bool false) ∧ Jx (pre ++ [x]) W')) →
    J [] W → CallsIn F n P g (#[.func (.yield l) #[] #[]] ++ lb) W fun e W' => (∃ v, e = .returned v) ∧ ((∃ xs, S xs ∧ J xs W') ∨ ∃ pre, Sp pre ∧ Jx pre W')
theorem wpIn_rangeTellsX {g : Operand} {ps : Array Tmp} {assign body : Code} {Q : Exit → Act → World → Prop} {a : Act} {w : World}
    (hro : F.round = none) (h1 : 1 ≤ n) {gf : Nat} {lb : Array Value} (hg : a.eval g = .func (.func gf) #[] lb) (hFg : F.fn gf) (eg : ∀ args w, (callFunc gf args).run P w = .ok (.enter gf args) w)
    {encs : α → Array Value} {Kp : World → World → Prop} {T : List α → α → Prop} {S Sp : List α → Prop} {N : Nat} {Wr : World → World → Prop} {w0 : World} (hseq : SeqTellsX F (n - 1) P gf lb encs Kp T S Sp N Wr w0)
    (hKt : ∀ {A B C : World}, Kp A B → Kp B C → Kp A C) (hKb : ∀ (W : World) (l : Nat) (o o' : Obj), w.heap.size ≤ l → W.heap[l]? = some o → o.isCells = false → o.isWalk = false → Kp W (W.putObj l o')) (hb0 : Below w0.heap.size w0 w) (hps : ∀ x, (encs x).size = ps.size)
    (hWb : ∀ (A B : World) (k : Nat) (o : Obj), Wr A B → A.heap[k]? = some o → o.isCells = false → B.heap[k]? = some o)
    (I : List α → World → Prop) (Ix : Code → List α → World → Prop) (hI : OwnFrom w.heap.size I) (hIx : ∀ c, OwnFrom w.heap.size (Ix c)) (hIw : ∀ s A B, Wr A B → I s A → I s B) (h0 : I [] w)
    (Ax : α → Act → World → Prop) (hAx : ∀ x a', OwnFrom w.heap.size (fun (_ : Unit) W => Ax x a' W))
    (hassign : ∀ (l : Nat) (pre : List α) (x : α) (W : World) (K : Act → World → Prop), I pre W → T pre x → (∀ a' W', KeepsFrom w.heap.size W W' → Kp W W' → I pre W' → Ax x a' W' → K a' W') →
      assign.wpIn (F.inRound l) (n - 1 - 1) P (Exit.then K (fun _ _ _ => False)) { tmps := (ps.zip (encs x)).foldl (fun t (p, v) => t.setIfInBounds p v) a.tmps, defers := [] } W)
    (hbody : ∀ (l : Nat) (pre : List α) (x : α) (a' : Act) (W : World), w.heap.size ≤ l → I pre W → T pre x → Ax x a' W → pre.length < N → body.wpIn (F.inRound l) (n - 1 - 1) P (ownPostG w.heap.size Kp I Ix (pre ++ [x]) W) a' W)
    (hdone : ∀ (D : Nat) (xs : List α) (W : World), w.heap.size ≤ D → S xs → I xs W → W.heap[D]? = some (.deferred (some [])) → Q .normal { a with defers := { target := .collected D, args := #[] } :: a.defers } W)
    (hstop : ∀ (D : Nat) (c : Code) (pre : List α) (W : World), w.heap.size ≤ D → Sp pre → Ix c pre W → W.heap[D]? = some (.deferred (some [])) → c.wpIn F n P Q { a with defers := { target := .collected D, args := #[] } :: a.defers } W) :
    (Code.rangeFunc g ps assign body).wpIn F n P Q a w := by
  refine wpIn_rangeFunc fun fn hfn => ?_
  rw [hro]
  obtain ⟨R, hR⟩ : ∃ R : LoopState → Option Code → Loop, R = fun st pe => { state := st, pending := pe, fn, tmps := a.tmps, params := ps, assign, body, defers := w.heap.size } := ⟨_, rfl⟩
  obtain ⟨W1, hW1⟩ : ∃ W1, (w.alloc (.deferred (some []))).alloc (.loop (R .ready none)) = W1 := ⟨_, rfl⟩
  have hs1 : W1.heap.size = w.heap.size + 1 + 1 := by rw [← hW1]; simp
  have hB1 : Book w.heap.size (R .ready none) W1 := by
    rw [← hW1]
    exact ⟨by have := World.alloc_heap_new (w.alloc (.deferred (some []))) (.loop (R .ready none)); rwa [World.size_alloc] at this, (Below.heap_alloc _ _ _ (by simp)).trans (World.alloc_heap_new w _)⟩
  have hI1 : I [] W1 := by rw [← hW1]; exact hI.alloc _ (hI.alloc _ h0)
  have hb1 : Below w0.heap.size w0 W1 := by
    rw [← hW1]; exact hb0.trans ((((Below.refl _ w).alloc (Nat.le_refl _) _).alloc (by simp) _).mono hb0.size)
  have hbw : ∀ {A B : World} {r : Loop}, Wr A B → Book w.heap.size r A → Book w.heap.size r B := fun h hb => ⟨hWb _ _ _ _ h hb.own1 rfl, hWb _ _ _ _ h hb.own0 rfl⟩
  refine ⟨w.heap.size + 1, [{ target := .collected w.heap.size, args := #[] }], W1, { target := .fn (.func gf) lb, args := #[.func (.yield (w.heap.size + 1)) #[] #[]] }, W1, gf,
    #[.func (.yield (w.heap.size + 1)) #[] #[]] ++ lb, W1, by rw [← hW1, hR]; exact run_enterLoop_outer _ _ _ _ _, by simp only [resolve, hg]; simp [go_sem], fun f' hf' => by simp [Target.leads] at hf'; subst hf'; exact hFg, by simp [invoke, go_sem, eg], fun _ => h1, ?_⟩
  refine (hseq (w.heap.size + 1) (fun pre W => I pre W ∧ Book w.heap.size (R .ready none) W) (fun pre W => ∃ c, Ix c pre W ∧ Book w.heap.size (R .done (some c)) W) W1 hb1
    (fun s A B row hs hg' hr => ⟨hI s A B row hs.1 hg' (fun q e => by obtain ⟨h, o, ho, hw⟩ := hr q e; exact ⟨by omega, o, ho, Obj.not_cells_of_walk hw⟩), hs.2.own hg' hr⟩)
    (fun s A B hw hs => ⟨hIw s A B hw hs.1, hbw hw hs.2⟩) ?_ ⟨hI1, hB1⟩).mono ?_
  · rintro pre x W ⟨hi, hbk⟩ hT hlen
    have hy := run_yield (P := P) (args := encs x) hbk.own1 (by rw [hR]; exact hps x)
    rw [hR] at hy
    refine ⟨fn, _, assign, body, hy, roundIn_of_wpIn hfn (hassign _ pre x W _ hi hT ?_)⟩
    intro a' Wa hk1 hp1 hia hax
    have hba := hbk.keep hk1
    have hbb := hba.put { R .ready none with state := .busy }
    have hp2 : Kp Wa (Wa.putObj (w.heap.size + 1) (.loop { R .ready none with state := .busy })) := hKb _ _ _ _ (by omega) hba.own1 rfl rfl
    refine ⟨_, run_beginRound hba.own1 (by rw [hR]), ?_⟩
    refine wpIn_mono (hbody _ pre x a' _ (by omega) (hI.putObj _ hia (by omega) hba.own1 rfl) hT ((hAx x a').putObj (s := ()) _ hax (by omega) hba.own1 rfl) hlen) ?_
    have e4 : ∀ (s : LoopState) (p : Option Code), ({ { R .ready none with state := .busy } with state := s, pending := p } : Loop) = R s p := fun s p => by rw [hR]
    rintro e a3 W3 hp
    cases e with
    | normal =>
      obtain ⟨hk3, hp3, hi3⟩ := hp
      have hb3 := hbb.keep hk3
      have hend := run_endRound (P := P) none hb3.own1
      refine ⟨_, W3.putObj (w.heap.size + 1) (.loop (R .ready none)), ?_, .inl ⟨rfl, ⟨hI.putObj _ hi3 (by omega) hb3.own1 rfl, hb3.put (R .ready none)⟩, hKt hp1 (hKt (hKt hp2 hp3) (hKb _ _ _ _ (by omega) hb3.own1 rfl rfl))⟩⟩
      rw [hend]
      simp only [Option.isNone_none, if_true]
      rw [e4]
    | ret =>
      obtain ⟨hk3, hi3⟩ := hp
      have hb3 := hbb.keep hk3
      have hend := run_endRound (P := P) (some .ret) hb3.own1
      refine ⟨_, W3.putObj (w.heap.size + 1) (.loop (R .done (some .ret))), ?_, .inr ⟨rfl, .ret, (hIx _).putObj _ hi3 (by omega) hb3.own1 rfl, hb3.put (R .done (some .ret))⟩⟩
      rw [hend]
      simp only [Option.isNone_some, Bool.false_eq_true, if_false]
      rw [e4]
    | exit id =>
      obtain ⟨hk3, hi3⟩ := hp
      have hb3 := hbb.keep hk3
      have hend := run_endRound (P := P) (some (.exit id)) hb3.own1
      refine ⟨_, W3.putObj (w.heap.size + 1) (.loop (R .done (some (.exit id)))), ?_, .inr ⟨rfl, .exit id, (hIx _).putObj _ hi3 (by omega) hb3.own1 rfl, hb3.put (R .done (some (.exit id)))⟩⟩
      rw [hend]
      simp only [Option.isNone_some, Bool.false_eq_true, if_false]
      rw [e4]
    | goto t =>
      obtain ⟨hk3, hi3⟩ := hp
      have hb3 := hbb.keep hk3
      have hend := run_endRound (P := P) (some (.goto t)) hb3.own1
      refine ⟨_, W3.putObj (w.heap.size + 1) (.loop (R .done (some (.goto t)))), ?_, .inr ⟨rfl, .goto t, (hIx _).putObj _ hi3 (by omega) hb3.own1 rfl, hb3.put (R .done (some (.goto t)))⟩⟩
      rw [hend]
      simp only [Option.isNone_some, Bool.false_eq_true, if_false]
      rw [e4]
    | panic ch => exact hp.elim
    | outgrown => exact hp.elim
  · rintro e W2 ⟨⟨v, rfl⟩, (⟨xs, hS, hi, hbk⟩ | ⟨pre, hSp, c, hi, hbk⟩)⟩
    · have hend := run_endLoop (P := P) hbk.own1 (by rw [hR]; simp)
      refine ⟨none, _, by rw [hend, hR], hdone _ xs _ (Nat.le_refl _) hS (hI.putObj _ hi (by omega) hbk.own1 rfl) ((World.putObj_heap_other (by omega)).trans hbk.own0)⟩
    · have hend := run_endLoop (P := P) hbk.own1 (by rw [hR]; simp)
      refine ⟨some c, _, by rw [hend, hR], hstop _ c pre _ (Nat.le_refl _) hSp ((hIx c).putObj _ hi (by omega) hbk.own1 rfl) ((World.putObj_heap_other (by omega)).trans hbk.own0)⟩
end
end Go.Proofs.YtdaedkolpfkdjaaGreat
end

section
namespace Go.Proofs.YtdaedkolpfkdjaaGreat
open Go.RowKit Go.Shelf
attribute [local go_sem] Oper.semAt_some

theorem index10_any (s : ByteArray) (w : World) : Calls Tryz.prog 204 #[.string s, .string ⟨#[10]⟩] w fun e w' => e = .returned (.int .i64 (Lib.indexByte s.data.toList 10)) ∧ w' = w := Tryz.stringslite_Index_one s 10 w
theorem dig_any (b : UInt8) (w : World) : Calls Tryz.prog 110 #[.string ⟨#[48, 49, 50, 51, 52, 53, 54, 55, 56, 57, 97, 98, 99, 100, 101, 102]⟩, .int .u8 b.toNat] w fun e w' => e = .returned (.int .i64 (if isDig b then (digV b : Int) else -1)) ∧ w' = w := by
  refine (Tryz.strings_IndexByte _ (b.toNat : Int) w).mono ?_
  rintro e w' ⟨rfl, rfl⟩
  refine ⟨?_, rfl⟩
  rw [← idx_dig, Int.toNat_natCast]
  show Ending.returned (.int .i64 (Lib.indexByte digs (UInt8.ofNat b.toNat))) = _
  rw [UInt8.ofNat_toNat]

set_option maxRecDepth 100000 in
set_option maxHeartbeats 2000000 in
theorem cutL_any (s : ByteArray) (w : World) (hs : s.size ≤ 1000000) :
    Calls Tryz.prog 189 #[.string s, .string ⟨#[10]⟩] w fun e w' => e = .returned (.tuple #[.string ⟨(Lib.cut s.data.toList [10]).1.toArray⟩, .string ⟨(Lib.cut s.data.toList [10]).2.1.toArray⟩, .bool (Lib.cut s.data.toList [10]).2.2]) ∧ Below w.heap.size w w' := by
  rcases Lib.indexB_cases s ⟨#[10]⟩ with hix | ⟨i, hix, hroom⟩
  · obtain ⟨e1, e2, e3⟩ := Lib.cutB_miss s ⟨#[10]⟩ hix
    have hx1 : Lib.indexByte s.data.toList 10 = -1 := by rw [← Lib.index_one]; exact hix
    have g1 : (⟨(Lib.cut s.data.toList [10]).1.toArray⟩ : ByteArray) = s := e1
    have g2 : (⟨(Lib.cut s.data.toList [10]).2.1.toArray⟩ : ByteArray) = ByteArray.empty := e2
    have g3 : (Lib.cut s.data.toList [10]).2.2 = false := e3
    rw [g1, g2, g3]
    clear e1 e2 e3 g1 g2 g3
    go_enter Tryz.func189, Tryz.ntmps189
    go_wp2_with (refine (index10_any s _).mono ?_; rintro e w' ⟨rfl, rfl⟩; rw [hx1])
    go_ret3
    exact ⟨rfl, Below.refl _ _⟩
  · obtain ⟨e1, e2, e3⟩ := Lib.cutB_hit s ⟨#[10]⟩ i hix
    have hx1 : Lib.indexByte s.data.toList 10 = i := by rw [← Lib.index_one]; exact hix
    have g1 : (⟨(Lib.cut s.data.toList [10]).1.toArray⟩ : ByteArray) = s.extract 0 i := e1
    have g2 : (⟨(Lib.cut s.data.toList [10]).2.1.toArray⟩ : ByteArray) = s.extract (i + 1) s.size := e2
    have g3 : (Lib.cut s.data.toList [10]).2.2 = true := e3
    rw [g1, g2, g3]
    clear e1 e2 e3 g1 g2 g3
    have hr1 : i + 1 ≤ s.size := hroom
    have c0 : IntKind.i64.wrap ((i : Int) + 1) = (i : Int) + 1 := IntWalk.i64_in _ (by omega)
    have c1 : (0 : Int) ≤ ↑i := by omega
    have c2 : (↑i : Int) ≤ ↑s.size := by omega
    have c3 : (0 : Int) ≤ ↑i + 1 := by omega
    have c4 : (↑i + 1 : Int) ≤ ↑s.size := by omega
    go_enter Tryz.func189, Tryz.ntmps189
    go_wp2_with (refine (index10_any s _).mono ?_; rintro e w' ⟨rfl, rfl⟩; rw [hx1])
    go_quiet (fail)
    go_wp2
    go_ret3
    exact ⟨rfl, (Below.refl _ _).trans ⟨rfl, rfl, rfl, Nat.le_refl _, fun _ _ => rfl⟩⟩
theorem cut_ten (s : List UInt8) : ((∀ x ∈ s, x ≠ 10) ∧ Lib.cut s [10] = (s, [], false)) ∨ ∃ c r, s = c ++ 10 :: r ∧ (∀ x ∈ c, x ≠ 10) ∧ Lib.cut s [10] = (c, r, true) := by
  unfold Lib.cut
  rw [Lib.index_one]
  rcases idx_or s 10 with h | ⟨o, h⟩
  · rw [h, if_neg (by omega)]
    exact .inl ⟨idx_miss h, rfl⟩
  · obtain ⟨h1, h2, h3⟩ := idx_hit h
    rw [h, if_pos (by omega)]
    exact .inr ⟨s.take o, s.drop (o + 1), h2, h3, by simp⟩
set_option maxRecDepth 100000 in
set_option maxHeartbeats 2000000 in
theorem cut10_any (s : List UInt8) (w : World) (hs : s.length ≤ 1000000) :
    Calls Tryz.prog 160 #[.string ⟨s.toArray⟩, .string ⟨#[10]⟩] w fun e w' => Below w.heap.size w w' ∧ (((∀ x ∈ s, x ≠ 10) ∧ e = .returned (.tuple #[.string ⟨s.toArray⟩, .string ⟨#[]⟩, .bool false])) ∨ ∃ c r, s = c ++ 10 :: r ∧ (∀ x ∈ c, x ≠ 10) ∧ e = .returned (.tuple #[.string ⟨c.toArray⟩, .string ⟨r.toArray⟩, .bool true])) := by
  have key := cutL_any ⟨s.toArray⟩ w (by show s.toArray.size ≤ _; simpa using hs)
  have hct := Lib.hid (cut_ten s)
  simp only at key
  obtain ⟨q, hq⟩ : ∃ q, Lib.cut s [10] = q := ⟨_, rfl⟩
  rw [hq] at key
  have HQ := Lib.hid hq
  clear hq
  go_enter Tryz.func160, Tryz.ntmps160
  go_wp2_with fail
  refine key.mono ?_
  rintro e w' ⟨rfl, hb⟩
  go_wp2_with fail
  go_ret3
  refine ⟨hb, ?_⟩
  rcases hct.out with ⟨h1, h2⟩ | ⟨c, r, h1, h2, h3⟩
  · rw [HQ.out] at h2
    subst h2
    exact .inl ⟨h1, rfl⟩
  · rw [HQ.out] at h3
    subst h3
    exact .inr ⟨c, r, h1, h2, rfl⟩

set_option maxRecDepth 100000 in
theorem lines_any (s : List UInt8) (w : World) :
    Calls Tryz.prog 108 #[.string ⟨s.toArray⟩] w fun e w' => e = .returned (.func (.func 159) #[] #[.pointer (some ⟨w.heap.size, 0, none⟩)]) ∧ w' = w.alloc (.cells #[.string ⟨s.toArray⟩] 9) := by
  go_enter Tryz.func108, Tryz.ntmps108
  go_wp2_with fail
  go_ret
  exact ⟨rfl, rfl⟩

/-- a line, and whether it is ended. -/
abbrev LN := List UInt8 × Bool
def linesOf (pre : List LN) : List (List UInt8) := pre.map (·.1)
def allE (pre : List LN) : Prop := ∀ x ∈ pre, x.2 = true
def LT (s : List UInt8) (pre : List LN) (x : LN) : Prop := allE pre ∧ ((x.2 = true ∧ ∃ r, s = joinL (linesOf pre) ++ (x.1 ++ 10 :: r)) ∨ (x.2 = false ∧ x.1 ≠ [] ∧ s = joinL (linesOf pre) ++ x.1)) ∧ ∀ b ∈ x.1, b ≠ 10
def LS (s : List UInt8) (xs : List LN) : Prop := allE xs → s = joinL (linesOf xs)
theorem linesOf_snoc (pre : List LN) (x : LN) : linesOf (pre ++ [x]) = linesOf pre ++ [x.1] := by simp [linesOf]
theorem allE_snoc {pre : List LN} {x : LN} : allE (pre ++ [x]) ↔ allE pre ∧ x.2 = true := by
  unfold allE
  constructor
  · exact fun h => ⟨fun y hy => h y (List.mem_append_left _ hy), h x (by simp)⟩
  · rintro ⟨h1, h2⟩ y hy
    rcases List.mem_append.1 hy with hy | hy
    · exact h1 y hy
    · rw [List.mem_singleton.1 hy]
      exact h2
/-- what a round keeps: the cell in which the rest of the text is, and what lay ahead. -/
structure KpS (n0 bs : Nat) (A B : World) : Prop where
  below : Below n0 A B
  kept : ∀ cs t, A.heap[bs]? = some (.cells cs t) → B.heap[bs]? = some (.cells cs t)
def WrS (bs : Nat) (A B : World) : Prop := ∃ v, B = A.setCell ⟨bs, 0, none⟩ v
section
variable {n0 bs : Nat} {A B C : World}
theorem KpS.trans (h : KpS n0 bs A B) (k : KpS n0 bs B C) : KpS n0 bs A C := ⟨h.below.trans k.below, fun cs t e => k.kept cs t (h.kept cs t e)⟩
theorem KpS.of_below (hn : n0 ≤ A.heap.size) (h : Below A.heap.size A B) : KpS n0 bs A B := ⟨h.mono hn, fun cs t e => by
  rw [h.block bs (Array.getElem?_eq_some_iff.1 e).1]
  exact e⟩
theorem KpS.putObj {w : World} (hn : n0 ≤ w.heap.size) (W : World) (l : Nat) (o o' : Obj) (hl : w.heap.size ≤ l) (he : W.heap[l]? = some o) (hc : o.isCells = false) (hw : o.isWalk = false) : KpS n0 bs W (W.putObj l o') :=
  ⟨belowK_b hn W l o o' hl he hc hw, fun cs t e => by
    have hne : bs ≠ l := fun h => by
      subst h
      rw [he] at e
      injection e with e
      subst e
      cases hc
    rw [World.putObj_heap_other hne]
    exact e⟩
theorem WrS.other (h : WrS bs A B) {k : Nat} (hk : k ≠ bs) : B.heap[k]? = A.heap[k]? := by
  obtain ⟨v, rfl⟩ := h
  exact Below.heap_setCell A _ v k hk
theorem WrS.plain (h : WrS bs A B) (k : Nat) (o : Obj) (hk : A.heap[k]? = some o) (hc : o.isCells = false) : B.heap[k]? = some o := by
  obtain ⟨v, rfl⟩ := h
  exact (KeepsOthers.setCell A ⟨bs, 0, none⟩ v).same k o hk hc
end
def strLen (w : World) (b : Nat) : Nat := match w.cell? ⟨b, 0, none⟩ with | some (.string q) => q.size | _ => 0
theorem strLen_eq {w : World} {b : Nat} {r : List UInt8} (h : w.cell? ⟨b, 0, none⟩ = some (.string ⟨r.toArray⟩)) : strLen w b = r.length := by
  unfold strLen
  rw [h]
  rfl
set_option maxRecDepth 100000 in
set_option maxHeartbeats 4000000 in
theorem lines1_tells (nf : Nat) (hn : 1 ≤ nf) (s : List UInt8) (hs : s.length ≤ 1000000) (n0 bs : Nat) (w : World) (hk : Boxed w bs 9 (.string ⟨s.toArray⟩)) :
    SeqTellsX Fence.wide nf Tryz.prog 159 #[.pointer (some ⟨bs, 0, none⟩)] (fun x : LN => #[.string ⟨x.1.toArray⟩, .bool x.2]) (KpS n0 bs) (LT s) (LS s) (fun _ => True) (s.length + 1) (WrS bs) w := by
  intro l J Jx W hW hJ hJw hY h0
  have HJ := Lib.hid hJ
  have HJW := Lib.hid hJw
  have HY := Lib.hid hY
  have HK := Lib.hid (show Boxed W bs 9 (.string ⟨s.toArray⟩) from Blk.belowS (show Blk w bs 9 #[.string ⟨s.toArray⟩] from hk) hW)
  have HJ0 := Lib.hid h0
  clear hk hJ hJw hY hW h0
  refine callsIn_of_wp Tryz.func159 rfl trivial ?_ rfl
  simp only [Tryz.ntmps159, List.size_toArray, List.length_cons, List.length_nil, Nat.reduceAdd, Nat.reduceSub, Array.replicate_succ, Array.replicate_zero, List.push_toArray, List.append_toArray, List.nil_append, List.cons_append]
  gi_wp2_with fail
  gi_loopw [3, 4, 5] (fun _ _ _ wr => ∃ (pre : List LN) (r : List UInt8), J pre wr ∧ Boxed wr bs 9 (.string ⟨r.toArray⟩) ∧ (allE pre → s = joinL (linesOf pre) ++ r) ∧ (r ≠ [] → allE pre) ∧ pre.length + r.length ≤ s.length) (fun _ _ _ wr => strLen wr bs)
  case atStart => exact ⟨[], s, HJ0.out, HK.out, fun _ => by simp [linesOf, joinL], fun _ => by simp [allE], by simp⟩
  case round =>
    obtain ⟨pre, r, hJk, hkr, hst, hall, hlen⟩ := hrel
    have HJK := Lib.hid hJk
    have HKR := Lib.hid hkr
    have HST := Lib.hid hst
    have HALL := Lib.hid hall
    have c0 := hkr.cell
    clear hJk hkr hst hall
    by_cases hr : r = []
    · subst hr
      gi_wp2_with fail
      go_end0
      exact ⟨⟨_, rfl⟩, .inl ⟨pre, fun h => by rw [HST.out h, List.append_nil], HJK.out⟩⟩
    · have hne : r.isEmpty = false := by simpa using hr
      have hpos : 0 < r.length := List.length_pos_iff.2 hr
      have HAL := Lib.hid (HALL.out hr)
      have HSR := Lib.hid (HST.out HAL.out)
      gi_wp2_with fail
      refine ⟨trivial, (callsIn_wide.2 (cut10_any r _ (by omega))).mono ?_⟩
      rintro e w2 ⟨hb2, hcase⟩
      have hJ2 := HJ.out _ _ _ none HJK.out (grown_of_below hb2 none) (by simp)
      have HK2 := Lib.hid (show Boxed w2 bs 9 (.string ⟨r.toArray⟩) from Blk.belowS (show Blk wr bs 9 #[.string ⟨r.toArray⟩] from HKR.out) hb2)
      clear hb2 c0
      rcases hcase with ⟨hno, rfl⟩ | ⟨c, r', hcr, hno, rfl⟩
      · obtain ⟨fn, tmps, assign, body, hy, hR⟩ := HY.out pre (r, false) w2 hJ2 ⟨HAL.out, .inr ⟨rfl, hr, HSR.out⟩, hno⟩ (by omega)
        have HR := Lib.hid hR
        clear hR hJ2 hno
        gi_wp2_with fail
        refine HR.out.mono ?_
        rintro e W3 (⟨rfl, hJ3, hk3⟩ | ⟨rfl, hJx3⟩)
        · have HJ3 := Lib.hid hJ3
          have hk4 : Boxed W3 bs 9 (.string ⟨r.toArray⟩) := hk3.kept _ _ HK2.out
          have c3 := hk4.cell
          have f3 := hk4.frozen
          have HK4 := Lib.hid hk4
          clear hJ3 hk3 hk4
          gi_wp2_with fail
          go_roundw
          case rel => exact ⟨pre ++ [(r, false)], [], HJW.out _ _ _ ⟨_, rfl⟩ HJ3.out, HK4.out.set _, fun h => absurd (allE_snoc.1 h).2 (by simp), fun h => absurd rfl h, by simp; omega⟩
          case measure =>
            rw [strLen_eq (r := []) (HK4.out.set _).cell, strLen_eq HKR.out.cell]
            simpa using hpos
        · gi_wp2_with fail
          refine bodyPost_ret (results_none rfl _ _ _) rfl ?_
          exact ⟨⟨_, rfl⟩, .inr ⟨_, trivial, hJx3⟩⟩
      · obtain ⟨fn, tmps, assign, body, hy, hR⟩ := HY.out pre (c, true) w2 hJ2 ⟨HAL.out, .inl ⟨rfl, r', by rw [← hcr]; exact HSR.out⟩, hno⟩ (by omega)
        have HR := Lib.hid hR
        have HCR := Lib.hid hcr
        clear hR hJ2 hno hcr
        gi_wp2_with fail
        refine HR.out.mono ?_
        rintro e W3 (⟨rfl, hJ3, hk3⟩ | ⟨rfl, hJx3⟩)
        · have HJ3 := Lib.hid hJ3
          have hk4 : Boxed W3 bs 9 (.string ⟨r.toArray⟩) := hk3.kept _ _ HK2.out
          have c3 := hk4.cell
          have f3 := hk4.frozen
          have HK4 := Lib.hid hk4
          clear hJ3 hk3 hk4
          have hll : r.length = c.length + 1 + r'.length := by rw [HCR.out]; simp; omega
          gi_wp2_with fail
          go_roundw
          case rel => exact ⟨pre ++ [(c, true)], r', HJW.out _ _ _ ⟨_, rfl⟩ HJ3.out, HK4.out.set _, fun _ => by rw [linesOf_snoc, joinL_snoc, HSR.out, HCR.out]; simp, fun _ => allE_snoc.2 ⟨HAL.out, rfl⟩, by simp; omega⟩
          case measure =>
            rw [strLen_eq (r := r') (HK4.out.set _).cell, strLen_eq HKR.out.cell]
            omega
        · gi_wp2_with fail
          refine bodyPost_ret (results_none rfl _ _ _) rfl ?_
          exact ⟨⟨_, rfl⟩, .inr ⟨_, trivial, hJx3⟩⟩
end Go.Proofs.YtdaedkolpfkdjaaGreat
end

section
namespace Go.Proofs.YtdaedkolpfkdjaaGreat
open Go.RowKit Go.Shelf

set_option maxRecDepth 100000 in
set_option maxHeartbeats 2000000 in
theorem formed_any (l : List UInt8) (w : World) (hl : l.length ≤ 1000000) : Calls Tryz.prog 109 #[.string ⟨l.toArray⟩] w fun e w' => e = .returned (.bool (formB l)) ∧ Below w.heap.size w w' := by
  by_cases h2 : l.length < 2
  · have i2 : (l.length : Int) < 2 := by omega
    have e : formB l = false := by
      unfold formB
      rw [decide_eq_false (by omega)]
      rfl
    rw [e]
    go_enter Tryz.func109, Tryz.ntmps109
    go_wp2_with fail
    go_ret
    exact ⟨rfl, bre w⟩
  have i2 : ¬ (l.length : Int) < 2 := by omega
  have h2' : 2 ≤ l.length := by omega
  have hn0 : (0 : Int) ≤ (l.length : Int) := by omega
  obtain ⟨r, hr⟩ : ∃ r : Nat, l.length % 2 = r := ⟨_, rfl⟩
  have tr : (l.length : Int).tmod 2 = (r : Int) := by rw [Int.tmod_eq_emod_of_nonneg hn0]; omega
  have wr0 : IntKind.i64.wrap (r : Int) = (r : Int) := IntWalk.i64_in _ (by omega)
  by_cases h3 : r = 0
  · subst h3
    obtain ⟨n, hn⟩ : ∃ n, l.length = n := ⟨_, rfl⟩
    have HN := Lib.hid hn
    have HEV := Lib.hid hr
    have d0 : ((0 : Nat) : Int) = 0 := rfl
    have hnn : n ≤ 1000000 := by omega
    rw [hn] at i2 hn0 tr
    clear hr
    go_enter Tryz.func109, Tryz.ntmps109
    go_wp2_with fail
    go_loopw [15, 3] (fun i _ wr => ∃ k : Nat, i = .int .i64 k ∧ k ≤ n ∧ (∀ b ∈ l.take k, isDig b = true) ∧ Below w.heap.size w wr) (fun i _ _ => n - (intOf i).toNat)
    case atStart => exact ⟨0, rfl, by omega, by simp, bre w⟩
    case round =>
      obtain ⟨k, rfl, hk, hd, hb⟩ := hrel
      have HD := Lib.hid hd
      have HB := Lib.hid hb
      clear hd hb
      have k0 : (0 : Int) ≤ (k : Int) := by omega
      by_cases hlt : k < n
      · have k1 : (k : Int) < (n : Int) := by omega
        obtain ⟨q, hq⟩ : ∃ q, l[k]? = some q := ⟨_, List.getElem?_eq_getElem (by rw [hn]; exact hlt)⟩
        have hix : ∀ (h : k < (⟨l.toArray⟩ : ByteArray).size), (⟨l.toArray⟩ : ByteArray)[k]'h = q := fun h => str_at hq h
        have HQ := Lib.hid hq
        clear hq
        go_wp2_with fail
        refine (dig_any q _).mono ?_
        rintro e w' ⟨rfl, rfl⟩
        cases hdq : isDig q with
        | true =>
          have hv : ¬ ((digV q : Nat) : Int) < 0 := by omega
          have HDQ := Lib.hid hdq
          clear hdq
          simp only [if_true]
          go_wp2_with fail
          go_roundw
          case rel => exact ⟨k + 1, by go_num, by omega, fun b hb => by
            rw [take_snocT HQ.out] at hb
            rcases List.mem_append.1 hb with hb | hb
            · exact HD.out b hb
            · rw [List.mem_singleton.1 hb]; exact HDQ.out, HB.out⟩
          case measure => simp [intOf]; omega
        | false =>
          have e : formB l = false := by
            unfold formB
            have : l.all isDig = false := by
              rw [Bool.eq_false_iff]
              intro h
              have := List.all_eq_true.1 h q (List.mem_of_getElem? HQ.out)
              rw [hdq] at this
              cases this
            rw [this, Bool.and_false]
          have HE := Lib.hid e
          clear hdq e
          simp only [Bool.false_eq_true, if_false]
          go_wp2_with fail
          go_ret
          exact ⟨by rw [HE.out]; rfl, HB.out⟩
      · obtain rfl : k = n := by omega
        have k1 : ¬ (k : Int) < (k : Int) := by omega
        have e : formB l = true := (formB_iff l).2 ⟨h2', HEV.out, fun b hb => HD.out b (by rw [List.take_of_length_le (by rw [HN.out]; exact Nat.le_refl _)]; exact hb)⟩
        have HE := Lib.hid e
        clear e
        go_wp2_with fail
        go_ret
        exact ⟨by rw [HE.out]; rfl, HB.out⟩
  · have h4 : ¬ (r : Int) = 0 := by omega
    have e : formB l = false := by
      unfold formB
      rw [decide_eq_false (p := l.length % 2 = 0) (by omega)]
      simp
    rw [e]
    go_enter Tryz.func109, Tryz.ntmps109
    go_wp2_with fail
    go_ret
    exact ⟨rfl, bre w⟩
end Go.Proofs.YtdaedkolpfkdjaaGreat
end

section
namespace Go.Proofs.YtdaedkolpfkdjaaGreat
open Go.RowKit Go.Maps

def nilS : Value := .slice none 0 0
/-- each key's list, in a row of its own from block n0 on. -/
structure LikeM (w : World) (n0 b m : Nat) (f : Int → Option Value) (G : Int → List RC) : Prop where
  map : MapIs Tryz.prog 79 .u8 w b m f
  low : b < n0
  size : n0 ≤ w.heap.size
  own : ∀ p, w.ownsRow n0 103 4 ((f p).getD nilS) (G p).length (rcs (G p))
  apart : ∀ p q g, p ≠ q → ((f p).getD nilS).ownBlock = some g → ((f q).getD nilS).ownBlock ≠ some g
  key : ∀ p, (f p).isSome = true ↔ G p ≠ []
  rng : ∀ p, (f p).isSome = true → 0 ≤ p ∧ p < 256
section
variable {w w' : World} {n0 b m : Nat} {f : Int → Option Value} {G : Int → List RC}
theorem own_blk_base {w : World} {base e size n : Nat} {v : Value} {xs : List Value} (h : w.ownsRow base e size v n xs) {g : Nat} (hg : v.ownBlock = some g) : base ≤ g ∧ g < w.heap.size := by
  rcases h.2 with ⟨rfl, _⟩ | ⟨g', cap, cur, rfl, hb, h1, _⟩
  · cases hg
  · injection hg with hg
    subst hg
    exact ⟨hb, (Array.getElem?_eq_some_iff.1 h1).1⟩
theorem LikeM.made (w : World) : LikeM (w.alloc (.map #[] 0)) (w.heap.size + 1) w.heap.size 0 (fun _ => none) (fun _ => []) :=
  ⟨MapIs.made w, by omega, by simp, fun _ => World.ownsRow_nil _ _ _ _, fun p q g _ h => absurd h (by simp [nilS, Value.ownBlock]), fun _ => by simp, fun p h => absurd h (by simp)⟩
theorem LikeM.kept {row : Option Nat} (h : LikeM w n0 b m f G) (hg : w.grownBy w' row) (hb : row ≠ some b) (hr : ∀ p g, ((f p).getD nilS).ownBlock = some g → row ≠ some g) : LikeM w' n0 b m f G :=
  ⟨h.map.kept hg (fun e => hb e.symm), h.low, Nat.le_trans h.size hg.size, fun p => (h.own p).kept hg (by
    cases e : ((f p).getD nilS).ownBlock with
    | none => exact .inl rfl
    | some g => exact .inr (fun e' => hr p g e e'.symm)), h.apart, h.key, h.rng⟩
theorem LikeM.alloc (h : LikeM w n0 b m f G) (o : Obj) : LikeM (w.alloc o) n0 b m f G := h.kept (World.grownBy_alloc w o none) (by simp) (by simp)
theorem LikeM.most (h : LikeM w n0 b m f G) : m ≤ 256 := by
  have := h.map.atMost Tryz.underlying79 (L := (List.range 256).map fun k : Nat => (k : Int)) (fun i hi => by
    obtain ⟨h1, h2⟩ := h.rng i hi
    exact List.mem_map.2 ⟨i.toNat, List.mem_range.2 (by omega), by omega⟩)
  simpa using this
/-- one more place. -/
theorem LikeM.step {w1 : World} {v' : Value} {p : Int} {r : RC} (h : LikeM w n0 b m f G) (hp : 0 ≤ p ∧ p < 256) (hown : w1.ownsRow n0 103 4 v' ((G p).length + 1) (rcs (G p) ++ r.cells)) (hg : w.grownBy w1 ((f p).getD nilS).ownBlock)
    (hloc : v'.ownBlock = ((f p).getD nilS).ownBlock ∨ v'.ownBlock = some w.heap.size) :
    MapIs Tryz.prog 79 .u8 w1 b m f ∧ ∀ w2 m', MapIs Tryz.prog 79 .u8 w2 b m' (fun j => if j = p then some v' else f j) → w1.grownBy w2 (some b) →
      LikeM w2 n0 b m' (fun j => if j = p then some v' else f j) (fun j => if j = p then G p ++ [r] else G j) := by
  have hne : ∀ g, ((f p).getD nilS).ownBlock = some g → g ≠ b := fun g e => by
    have := (own_blk_base (h.own p) e).1
    have := h.low
    omega
  refine ⟨h.map.kept hg (fun e => hne b e.symm rfl), fun w2 m' hm hg2 => ⟨hm, h.low, Nat.le_trans h.size (Nat.le_trans hg.size hg2.size), fun j => ?_, fun i j g hij => ?_, fun j => ?_, fun j hj => ?_⟩⟩
  · by_cases hj : j = p
    · subst hj
      simp only [if_true, Option.getD_some]
      rw [List.length_append, List.length_singleton, rcs_append, show rcs [r] = r.cells by simp [rcs]]
      refine hown.kept hg2 ?_
      cases e : v'.ownBlock with
      | none => exact .inl rfl
      | some g => exact .inr (fun e' => by
          have := (own_blk_base hown e).1
          injection e' with e'
          have := h.low
          omega)
    · simp only [if_neg hj]
      have h1 : w1.ownsRow n0 103 4 ((f j).getD nilS) (G j).length (rcs (G j)) := (h.own j).kept hg (by
        cases e : ((f j).getD nilS).ownBlock with
        | none => exact .inl rfl
        | some g => exact .inr (fun e' => h.apart j p g hj e e'.symm))
      refine h1.kept hg2 ?_
      cases e : ((f j).getD nilS).ownBlock with
      | none => exact .inl rfl
      | some g => exact .inr (fun e' => by
          have := (own_blk_base (h.own j) e).1
          injection e' with e'
          have := h.low
          omega)
  · have fresh : ∀ q : Int, ((f q).getD nilS).ownBlock ≠ some w.heap.size := fun q e => Nat.lt_irrefl _ (own_blk_base (h.own q) e).2
    by_cases hi : i = p
    · subst hi
      have hj : j ≠ i := fun e => hij e.symm
      simp only [if_true, Option.getD_some, if_neg hj]
      intro e e'
      rcases hloc with hl | hl
      · exact h.apart i j g hij (by rw [← hl]; exact e) e'
      · rw [hl] at e
        injection e with e
        subst e
        exact fresh j e'
    · by_cases hj : j = p
      · subst hj
        simp only [if_true, Option.getD_some, if_neg hi]
        intro e e'
        rcases hloc with hl | hl
        · exact h.apart i j g hij e (by rw [← hl]; exact e')
        · rw [hl] at e'
          injection e' with e'
          subst e'
          exact fresh i e
      · simp only [if_neg hi, if_neg hj]
        exact h.apart i j g hij
  · by_cases hj : j = p
    · subst hj
      simp
    · simp only [if_neg hj]
      exact h.key j
  · by_cases hj' : j = p
    · subst hj'
      exact hp
    · simp only [if_neg hj'] at hj
      exact h.rng j hj
theorem LikeM.rows (h : LikeM w n0 b m f G) (p : Int) : ∃ A c, (f p).getD nilS = .slice A (G p).length c ∧ RdR w A (G p).length (G p) := by
  have ho := h.own p
  obtain ⟨A, c, e, _⟩ := own_form ho
  rw [e] at ho
  exact ⟨A, c, e, RdR.of_own ho rfl⟩
end
end Go.Proofs.YtdaedkolpfkdjaaGreat
end

section
namespace Go.Proofs.YtdaedkolpfkdjaaGreat

/-- the places of a pixel among the first k. -/
def plG (W : Nat) (px : List Int) (k : Nat) (p : Int) : List RC := ((List.range k).filter fun i => decide (px[i]? = some p)).map fun i => ⟨((i % W : Nat) : Int), ((i / W : Nat) : Int), 1, 1⟩
section
variable {W H k : Nat} {px : List Int} {p : Int}
theorem plG_zero : plG W px 0 = fun _ => [] := by
  funext p
  rfl
theorem plG_step (h : px[k]? = some p) {x y : Nat} (hk : k = y * W + x) (hx : x < W) : plG W px (k + 1) = fun j => if j = p then plG W px k p ++ [⟨x, y, 1, 1⟩] else plG W px k j := by
  obtain ⟨d1, d2⟩ := Gr.idx_div (W := W) (x := x) (y := y) hx
  rw [← hk] at d1 d2
  funext j
  unfold plG
  rw [List.range_succ, List.filter_append, List.map_append]
  by_cases hj : j = p
  · subst hj
    simp only [List.filter_cons, h, decide_true, if_true, List.filter_nil, List.map_cons, List.map_nil, d1, d2]
  · have : ¬ (px[k]? = some j) := fun e => by
      rw [h] at e
      injection e with e
      exact hj e.symm
    simp only [List.filter_cons, this, decide_false, Bool.false_eq_true, if_false, List.filter_nil, List.map_nil, List.append_nil, if_neg hj]
theorem plG_len : (plG W px k p).length ≤ k := by
  unfold plG
  rw [List.length_map]
  exact Nat.le_trans (List.length_filter_le _ _) (by simp)
theorem plG_mem {r : RC} : r ∈ plG W px k p ↔ ∃ i, i < k ∧ px[i]? = some p ∧ r = ⟨((i % W : Nat) : Int), ((i / W : Nat) : Int), 1, 1⟩ := by
  unfold plG
  rw [List.mem_map]
  constructor
  · rintro ⟨i, hi, rfl⟩
    rw [List.mem_filter, List.mem_range, decide_eq_true_eq] at hi
    exact ⟨i, hi.1, hi.2, rfl⟩
  · rintro ⟨i, h1, h2, rfl⟩
    exact ⟨i, by rw [List.mem_filter, List.mem_range, decide_eq_true_eq]; exact ⟨h1, h2⟩, rfl⟩
theorem plG_in {x y : Nat} (hx : x < W) : InR (plG W px k p) x y ↔ y * W + x < k ∧ px[y * W + x]? = some p := by
  obtain ⟨d1, d2⟩ := Gr.idx_div (W := W) (x := x) (y := y) hx
  constructor
  · rintro ⟨r, hr, h1, h2, h3, h4⟩
    obtain ⟨i, hi, hp, rfl⟩ := plG_mem.1 hr
    simp only at h1 h2 h3 h4
    have e : i = y * W + x := Gr.idx_eq hx (by omega) (by omega)
    rw [← e]
    exact ⟨hi, hp⟩
  · rintro ⟨h1, h2⟩
    refine ⟨_, plG_mem.2 ⟨_, h1, h2, rfl⟩, ?_⟩
    simp only [d1, d2]
    omega
theorem plG_ne : plG W px px.length p ≠ [] ↔ p ∈ px := by
  constructor
  · intro h
    obtain ⟨r, hr⟩ := List.exists_mem_of_ne_nil _ h
    obtain ⟨i, -, hi, -⟩ := plG_mem.1 hr
    exact List.mem_of_getElem? hi
  · intro h e
    obtain ⟨i, hi, hp⟩ := List.getElem_of_mem h
    have := plG_mem (W := W) (k := px.length) (px := px) (p := p).2 ⟨i, hi, by rw [List.getElem?_eq_getElem hi, hp], rfl⟩
    rw [e] at this
    exact absurd this List.not_mem_nil
theorem plG_ok (hk : k ≤ 100000) : ∀ r ∈ plG W px k p, r.cnt = true ∧ r.X ≤ 9223372036854775807 ∧ r.Y ≤ 9223372036854775807 := by
  intro r hr
  obtain ⟨i, hi, -, rfl⟩ := plG_mem.1 hr
  have h1 : i % W ≤ i := Nat.mod_le _ _
  have h2 : i / W ≤ i := Nat.div_le_self _ _
  refine ⟨?_, by simp only; omega, by simp only; omega⟩
  obtain ⟨a, ha⟩ : ∃ a : Nat, i % W = a := ⟨_, rfl⟩
  obtain ⟨b, hb⟩ : ∃ b : Nat, i / W = b := ⟨_, rfl⟩
  rw [ha] at h1 ⊢
  rw [hb] at h2 ⊢
  simp only [RC.cnt, fitsB, Bool.and_eq_true, decide_eq_true_eq]
  omega
/-- the pixels that are done. -/
def curP (px : List Int) (left : Int → Bool) : List Int := px.map fun p => if left p then 0 else p
theorem curP_start {left : Int → Bool} (h : ∀ p ∈ px, left p = true) : curP px left = List.replicate px.length 0 := by
  unfold curP
  refine List.ext_getElem? fun i => ?_
  rw [List.getElem?_map, List.getElem?_replicate]
  cases hi : px[i]? with
  | none =>
    rw [if_neg (by have := List.getElem?_eq_none_iff.1 hi; omega)]
    rfl
  | some p =>
    rw [if_pos (List.getElem?_eq_some_iff.1 hi).1, Option.map_some, h p (List.mem_of_getElem? hi)]
    rfl
theorem curP_done {left : Int → Bool} (h : ∀ i, left i = false) : curP px left = px := by
  unfold curP
  simp [h]
theorem curP_step {out : List RC} {left : Int → Bool} {i : Int} (hl : px.length = W * H) (hin : ∀ x y : Int, InR out x y ↔ InR (plG W px px.length i) x y) : Gr.lay W (fun _ _ => some i) (Gr.anyP out) (curP px left) = curP px (fun j => left j && !decide (j = i)) := by
  refine List.ext_getElem? fun k => ?_
  rw [Gr.lay_get]
  unfold curP
  rw [List.getElem?_map, List.getElem?_map]
  cases hk : px[k]? with
  | none => rfl
  | some q =>
    simp only [Option.map_some, Option.getD_some, Option.some.injEq]
    have hlt : k < px.length := (List.getElem?_eq_some_iff.1 hk).1
    obtain ⟨g1, g2⟩ := Gr.in_grid hl hlt
    have hkk : k / W * W + k % W = k := by rw [Nat.mul_comm]; exact Nat.div_add_mod k W
    have key : Gr.anyP out (k % W) (k / W) = true ↔ q = i := by
      rw [Gr.anyP_iff, hin, plG_in g1, hkk, hk]
      simp [hlt]
    by_cases hq : q = i
    · rw [key.2 hq]
      simp [hq]
    · have : Gr.anyP out (k % W) (k / W) = false := by
        rw [Bool.eq_false_iff]
        exact fun h => hq (key.1 h)
      rw [this]
      simp [hq]
end
end Go.Proofs.YtdaedkolpfkdjaaGreat
end

section
namespace Go.Proofs.YtdaedkolpfkdjaaGreat
open Go.RowKit Go.Maps Go.Shelf

section
variable {P : Program} {o : Oper} {a : Act} {w : World} {K : Act → World → Prop} {Q : Exit → Act → World → Prop}
theorem put_eq (ts : List Value) (d : Nat) (v : Value) : (⟨ts.toArray, []⟩ : Act).put (some d) v = ⟨(ts.set d v).toArray, []⟩ := by simp [Act.put]
/-- a slice of one record. -/
theorem wpU_one {ts : List Value} (d : Nat) (hd : o.dst = some d) (t e : TypeId) (x : Operand) (ho : o.op = .buildSlice t 1 #[(0, x)]) (s : Nat) (z : Value) (ie : TypeInfo) (hu : P.underlying t = some (.slice e)) (hie : P.info? e = some ie) (hz : ie.zero = some z) (hs : ie.size = s) (hzs : z.cells.size = s) (h0 : 0 < s) (hsm : s ≤ 1000)
    (v : Value) (hx : (⟨ts.toArray, []⟩ : Act).eval x = v) (cs : Array Value) (hc : v.cells = cs) (hv : cs.size = s)
    (h : ∀ (g : Nat) (w' : World), Blk w' g e cs → g = w.heap.size → Below w.heap.size w w' → K ⟨(ts.set d (.slice (some ⟨g, 0, none⟩) 1 1)).toArray, []⟩ w') : o.wp P ⟨ts.toArray, []⟩ w K Q := by
  subst hs hc hx
  have hpos : ¬ 1 * ie.size = 0 := Nat.mul_ne_zero (by omega) (by omega)
  refine wp_buildSlice t e 1 _ ho ((⟨ts.toArray, []⟩ : Act).eval x).cells ie z hu hie hz (by omega) hpos ?_ (by rw [hd, put_eq]; exact h _ _ (Blk.new w e _) rfl (bal (bre w) _))
  have := Great.fill_whole h0 [(⟨ts.toArray, []⟩ : Act).eval x] ((Array.range (1 * ie.size)).map (z.cells[· % z.cells.size]!)) (by intro u hu; simp only [List.mem_singleton] at hu; rw [hu]; exact hv) (by simp)
  simpa using this
/-- append, at a row of the call's own. -/
theorem wpU_append {ts : List Value} (d : Nat) (hd : o.dst = some d) (s x : Operand) (t : TypeId) (ho : o.op = .call { callee := .builtin .append, args := #[s, x], argTypes := #[t, t] })
    (base : Nat) (e : TypeId) (i : TypeInfo) (z : Value) (size bytes : Nat) (ht : P.underlying t = some (.slice e)) (hi : P.info? e = some i) (hz : i.zero = some z)
    (hsize : i.size = size) (hby : i.bytes = bytes) (hzs : z.cells.size = size) (hsz : 0 < size)
    (v : Value) (n : Nat) (xs : List Value) (hs : (⟨ts.toArray, []⟩ : Act).eval s = v) (hown : w.ownsRow base e size v n xs)
    (ad : Addr) (m c : Nat) (news : List Value) (hx : (⟨ts.toArray, []⟩ : Act).eval x = .slice (some ad) m c) (hl : news.length = m * size) (hnews : ∀ j u, news[j]? = some u → w.cell? (ad.add j) = some u) (h1 : ∀ u ∈ news, u.oneCell' = true)
    (h63 : n + m ≤ maxLen) (hbytes : (n + m) * bytes ≤ 140737488355328) (hbase : base ≤ w.heap.size)
    (h : ∀ (A : Option Addr) (cap : Nat) (w' : World), w'.ownsRow base e size (.slice A (n + m) cap) (n + m) (xs ++ news) → w.grownBy w' v.ownBlock → ((Value.slice A (n + m) cap).ownBlock = v.ownBlock ∨ (Value.slice A (n + m) cap).ownBlock = some w.heap.size) → K ⟨(ts.set d (.slice A (n + m) cap)).toArray, []⟩ w') :
    o.wp P ⟨ts.toArray, []⟩ w K Q := by
  obtain ⟨v', w', hr, h2, h3, h4, h5⟩ := run_append_own_at (P := P) w base t o.type e i z size bytes ht hi hz hsize hby hzs hsz v n xs hown ad m c news hl hnews h1 h63 hbytes hbase
  obtain ⟨A, cap, rfl, _⟩ := own_form h2
  unfold Oper.wp execOp
  simp only [ho, resolve, invoke, builtin, Sem.run_bind, Sem.run_pure, Result.andThen_ok, List.map_toArray, List.map_cons, List.map_nil, hs, hx, hr]
  show K ((⟨ts.toArray, []⟩ : Act).put o.dst _) _
  rw [hd, put_eq]
  exact h _ _ _ h2 h3 h5
theorem news_blk {g : Nat} {t : TypeId} {cs : List Value} (h : Blk w g t cs.toArray) : ∀ j u, cs[j]? = some u → w.cell? ((⟨g, 0, none⟩ : Addr).add j) = some u := by
  intro j u hj
  have h := h.cellV (i := j) (v := u) (by simpa using hj)
  unfold Addr.add
  split
  · rename_i e; rw [e] at h; exact h
  · rw [Nat.zero_add]; exact h
end
end Go.Proofs.YtdaedkolpfkdjaaGreat
end
