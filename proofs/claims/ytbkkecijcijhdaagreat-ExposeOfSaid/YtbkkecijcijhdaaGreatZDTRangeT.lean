/-
  A range over a function whose iterator tells, at each yield, what holds of the element then.
-/
import Derived.RangeFuncNested
section
namespace Go.Proofs.YtbkkecijcijhdaaGreat
open Go.RowKit

section
variable {F : Fence} {n : Nat} {P : Program} {α : Type}
/-- an iterator that is never left early; at x's yield 'T x' holds. -/
def SeqTells (F : Fence) (n : Nat) (P : Program) (g : Nat) (lb : Array Value) (encs : α → Array Value) (Kp : World → World → Prop) (T : α → World → Prop) (S : List α → Prop) (N : Nat) (w : World) : Prop :=
  ∀ (l : Nat) (J : List α → World → Prop) (W : World), Below w.heap.size w W → AbidesFrom W.heap.size J →
    (∀ pre x W1, J pre W1 → T x W1 → pre.length < N → YieldAt F (n - 1) P l (encs x) W1 fun e W' => e = .returned (.bool true) ∧ J (pre ++ [x]) W' ∧ Kp W1 W') →
    J [] W → CallsIn F n P g (#[.func (.yield l) #[] #[]] ++ lb) W fun e W' => (∃ v, e = .returned v) ∧ ∃ xs, S xs ∧ J xs W'
/-- a loop's two blocks: its record, and the block of its rounds' deferred calls. -/
structure Book (B : Nat) (r : Loop) (W : World) : Prop where
  own1 : W.heap[B + 1]? = some (.loop r)
  own0 : W.heap[B]? = some (.deferred (some []))
theorem Book.lt {B : Nat} {r : Loop} {W : World} (h : Book B r W) : B + 1 < W.heap.size := (Array.getElem?_eq_some_iff.1 h.own1).1
theorem Book.keep {B : Nat} {r : Loop} {W W' : World} (h : Book B r W) (k : KeepsFrom B W W') : Book B r W' := ⟨k.same _ _ (by omega) h.own1 rfl, k.same _ _ (Nat.le_refl _) h.own0 rfl⟩
theorem Book.put {B : Nat} {r : Loop} {W : World} (h : Book B r W) (r' : Loop) : Book B r' (W.putObj (B + 1) (.loop r')) := ⟨World.putObj_heap_same h.lt, (World.putObj_heap_other (by omega)).trans h.own0⟩
theorem Book.own {B B' : Nat} {r : Loop} {A W : World} {row : Option Nat} (h : Book B r A) (hg : A.grownBy W row) (hr : ∀ q, row = some q → B' ≤ q ∧ ∃ o : Obj, A.heap[q]? = some o ∧ o.isWalk = true) : Book B r W :=
  ⟨(grownBy_keeps hg (fun q e => (hr q e).2) h.own1 rfl).trans h.own1, (grownBy_keeps hg (fun q e => (hr q e).2) h.own0 rfl).trans h.own0⟩
theorem wpIn_rangeTells {g : Operand} {ps : Array Tmp} {assign body : Code} {Q : Exit → Act → World → Prop} {a : Act} {w : World}
    (hro : F.round = none) (h1 : 1 ≤ n) {gf : Nat} {lb : Array Value} (hg : a.eval g = .func (.func gf) #[] lb) (hFg : F.fn gf) (eg : ∀ args w, (callFunc gf args).run P w = .ok (.enter gf args) w)
    {encs : α → Array Value} {Kp : World → World → Prop} {T : α → World → Prop} {S : List α → Prop} {N : Nat} {w0 : World} (hseq : SeqTells F (n - 1) P gf lb encs Kp T S N w0)
    (hKt : ∀ {A B C : World}, Kp A B → Kp B C → Kp A C) (hKb : ∀ (W : World) (l : Nat) (o o' : Obj), w.heap.size ≤ l → W.heap[l]? = some o → o.isCells = false → o.isWalk = false → Kp W (W.putObj l o')) (hb0 : Below w0.heap.size w0 w) (hps : ∀ x, (encs x).size = ps.size)
    (I : List α → World → Prop) (hI : OwnFrom w.heap.size I) (h0 : I [] w) (Ax : α → Act → World → Prop) (hAx : ∀ x a', OwnFrom w.heap.size (fun (_ : Unit) W => Ax x a' W))
    (hassign : ∀ (l : Nat) (pre : List α) (x : α) (W : World) (K : Act → World → Prop), I pre W → T x W → (∀ a' W', KeepsFrom w.heap.size W W' → Kp W W' → I pre W' → Ax x a' W' → K a' W') →
      assign.wpIn (F.inRound l) (n - 1 - 1) P (Exit.then K (fun _ _ _ => False)) { tmps := (ps.zip (encs x)).foldl (fun t (p, v) => t.setIfInBounds p v) a.tmps, defers := [] } W)
    (hbody : ∀ (l : Nat) (pre : List α) (x : α) (a' : Act) (W : World), w.heap.size ≤ l → I pre W → Ax x a' W → pre.length < N → body.wpIn (F.inRound l) (n - 1 - 1) P (ownPostG w.heap.size Kp I (fun _ _ _ => False) (pre ++ [x]) W) a' W)
    (hdone : ∀ (D : Nat) (xs : List α) (W : World), w.heap.size ≤ D → S xs → I xs W → W.heap[D]? = some (.deferred (some [])) → Q .normal { a with defers := { target := .collected D, args := #[] } :: a.defers } W) :
    (Code.rangeFunc g ps assign body).wpIn F n P Q a w := by
  refine wpIn_rangeFunc fun fn hfn => ?_
  rw [hro]
  obtain ⟨R, hR⟩ : ∃ R : LoopState → Loop, R = fun st => { state := st, pending := none, fn, tmps := a.tmps, params := ps, assign, body, defers := w.heap.size } := ⟨_, rfl⟩
  obtain ⟨W1, hW1⟩ : ∃ W1, (w.alloc (.deferred (some []))).alloc (.loop (R .ready)) = W1 := ⟨_, rfl⟩
  have hs1 : W1.heap.size = w.heap.size + 1 + 1 := by rw [← hW1]; simp
  have hB1 : Book w.heap.size (R .ready) W1 := by
    rw [← hW1]
    exact ⟨by have := World.alloc_heap_new (w.alloc (.deferred (some []))) (.loop (R .ready)); rwa [World.size_alloc] at this, (Below.heap_alloc _ _ _ (by simp)).trans (World.alloc_heap_new w _)⟩
  have hI1 : I [] W1 := by rw [← hW1]; exact hI.alloc _ (hI.alloc _ h0)
  have hb1 : Below w0.heap.size w0 W1 := by
    rw [← hW1]; exact hb0.trans ((((Below.refl _ w).alloc (Nat.le_refl _) _).alloc (by simp) _).mono hb0.size)
  refine ⟨w.heap.size + 1, [{ target := .collected w.heap.size, args := #[] }], W1, { target := .fn (.func gf) lb, args := #[.func (.yield (w.heap.size + 1)) #[] #[]] }, W1, gf,
    #[.func (.yield (w.heap.size + 1)) #[] #[]] ++ lb, W1, by rw [← hW1, hR]; exact run_enterLoop_outer _ _ _ _ _, by simp only [resolve, hg]; simp [go_sem], fun f' hf' => by simp [Target.leads] at hf'; subst hf'; exact hFg, by simp [invoke, go_sem, eg], fun _ => h1, ?_⟩
  refine (hseq (w.heap.size + 1) (fun pre W => I pre W ∧ Book w.heap.size (R .ready) W) W1 hb1
    (fun s A B row hs hg' hr => ⟨hI s A B row hs.1 hg' (fun q e => by obtain ⟨h, o, ho, hw⟩ := hr q e; exact ⟨by omega, o, ho, Obj.not_cells_of_walk hw⟩), hs.2.own hg' hr⟩) ?_ ⟨hI1, hB1⟩).mono ?_
  · rintro pre x W ⟨hi, hbk⟩ hT hlen
    have hy := run_yield (P := P) (args := encs x) hbk.own1 (by rw [hR]; exact hps x)
    rw [hR] at hy
    refine ⟨fn, _, assign, body, hy, roundIn_of_wpIn hfn (hassign _ pre x W _ hi hT ?_)⟩
    intro a' Wa hk1 hp1 hia hax
    have hba := hbk.keep hk1
    have hbb := hba.put { R .ready with state := .busy }
    have hp2 : Kp Wa (Wa.putObj (w.heap.size + 1) (.loop { R .ready with state := .busy })) := hKb _ _ _ _ (by omega) hba.own1 rfl rfl
    refine ⟨_, run_beginRound hba.own1 (by rw [hR]), ?_⟩
    refine wpIn_mono (hbody _ pre x a' _ (by omega) (hI.putObj _ hia (by omega) hba.own1 rfl) ((hAx x a').putObj (s := ()) _ hax (by omega) hba.own1 rfl) hlen) ?_
    rintro e a3 W3 hp
    cases e with
    | normal =>
      obtain ⟨hk3, hp3, hi3⟩ := hp
      have hb3 := hbb.keep hk3
      have hend := run_endRound (P := P) none hb3.own1
      have hb4 := hb3.put (R .ready)
      have e4 : ({ { R .ready with state := .busy } with state := .ready, pending := none } : Loop) = R .ready := by rw [hR]
      have hp4 : Kp W3 (W3.putObj (w.heap.size + 1) (.loop (R .ready))) := hKb _ _ _ _ (by omega) hb3.own1 rfl rfl
      refine ⟨_, W3.putObj (w.heap.size + 1) (.loop (R .ready)), ?_, rfl, ⟨hI.putObj _ hi3 (by omega) hb3.own1 rfl, hb4⟩, hKt hp1 (hKt (hKt hp2 hp3) hp4)⟩
      rw [hend]
      simp only [Option.isNone_none, if_true]
      rw [e4]
    | ret => exact hp.2.elim
    | exit id => exact hp.2.elim
    | goto t => exact hp.2.elim
    | panic ch => exact hp.elim
    | outgrown => exact hp.elim
  · rintro e W2 ⟨⟨v, rfl⟩, xs, hS, hi, hbk⟩
    have hend := run_endLoop (P := P) hbk.own1 (by rw [hR]; simp)
    refine ⟨none, _, by rw [hend, hR], hdone _ xs _ (Nat.le_refl _) hS (hI.putObj _ hi (by omega) hbk.own1 rfl) ((World.putObj_heap_other (by omega)).trans hbk.own0)⟩
end
end Go.Proofs.YtbkkecijcijhdaaGreat
end
