/-
  Small words that all walks of this seat share: what lay when a call began lies as it lay, step by step; blocks that are known whole; slices that read as values.
-/
import Derived.Test.YtbfefkhejknmoaaGreatDoorProg
import Derived.WalkKit
import Derived.WalkSpells
import Derived.WalkLawsBesides
import Derived.RegionTactic
import Derived.Deep.QuietTactic
import Derived.BigQuiet
import Derived.Deep.RegionHeld3
import Derived.Deep.DeepCutAuto
import Derived.Lib.Hide
import Derived.Maps.AppendAt
import Derived.Laws.CopyOwn
import Derived.Laws.EntriesVeiled
namespace Go.Proofs.YtbfefkhejknmoaaGreatDoor
open Go.RowKit

theorem setCell_drewN (w : World) (n : Nat) (a : Addr) (v : Value) : (w.drewN n).setCell a v = (w.setCell a v).drewN n := rfl
theorem alloc_drewN (w : World) (n : Nat) (o : Obj) : (w.drewN n).alloc o = (w.alloc o).drewN n := rfl
attribute [go_sem] setCell_drewN alloc_drewN

theorem bstep {w W w' : World} (h : Below w.heap.size w W) (hb : Below W.heap.size W w') : Below w.heap.size w w' := h.trans (hb.mono h.size)
theorem bal {w W : World} (h : Below w.heap.size w W) (o : Obj) : Below w.heap.size w (W.alloc o) := h.alloc h.size o
theorem bre (w : World) : Below w.heap.size w w := Below.refl _ _
theorem bset {w W : World} (h : Below w.heap.size w W) {p : Addr} (hp : w.heap.size ≤ p.block) (v : Value) : Below w.heap.size w (W.setCell p v) := h.setCell hp v
theorem undrewX {w X w' : World} (h : Below X.heap.size X w') (hh : X.heap = w.heap) (ho : X.os = w.os) (ht : X.tape = w.tape) (hp : X.output = w.output) : Below w.heap.size w w' :=
  ⟨h.os.trans ho, h.tape.trans ht, h.output.trans hp, by rw [← hh]; exact h.size, fun b hb => by rw [← hh] at hb ⊢; exact h.block b hb⟩
theorem bcell {W w1 : World} (hb : Below W.heap.size W w1) : (∀ b o, b < W.heap.size → w1.cell? ⟨b, o, none⟩ = W.cell? ⟨b, o, none⟩) ∧ (∀ b o, b < W.heap.size → w1.frozen? ⟨b, o, none⟩ = W.frozen? ⟨b, o, none⟩) :=
  ⟨fun b o h => hb.cell (p := ⟨b, o, none⟩) h, fun b o h => hb.frozen (p := ⟨b, o, none⟩) h⟩
theorem same_of {P : Program} {f : FuncId} {args : Array Value} {w : World} {v : Value} (h : Calls P f args w fun e w' => e = .returned v ∧ w = w') :
    Calls P f args w fun e w' => e = .returned v ∧ w' = w := h.mono fun _ _ ⟨a, b⟩ => ⟨a, b.symm⟩
theorem grown_of_below {a w : World} (h : Below a.heap.size a w) (row : Option Nat) : a.grownBy w row := ⟨h.os, h.tape, h.output, h.size, fun i hi _ => h.block i hi⟩
theorem below_of_grown {a w : World} (h : a.grownBy w none) : Below a.heap.size a w := (Below.refl _ a).grown h (Nat.le_refl _) (by simp)
theorem ownsRow_below {w w' : World} {base e size n : Nat} {v : Value} {xs : List Value} (h : w.ownsRow base e size v n xs) (hb : Below w.heap.size w w') : w'.ownsRow base e size v n xs :=
  h.kept (grown_of_below hb none) (by cases v.ownBlock <;> simp)
theorem ownsRow_base {w : World} {base base' e size n : Nat} {v : Value} {xs : List Value} (h : w.ownsRow base e size v n xs) (hb : base' ≤ base) : w.ownsRow base' e size v n xs := by
  refine ⟨h.1, ?_⟩
  rcases h.2 with h | ⟨g, cap, cur, e, hg, r⟩
  · exact .inl h
  · exact .inr ⟨g, cap, cur, e, by omega, r⟩
theorem own_ge {w : World} {base e size n : Nat} {v : Value} {xs : List Value} (h : w.ownsRow base e size v n xs) : ∀ g, v.ownBlock = some g → base ≤ g := fun g hg => (h.lt g hg).1
theorem ret_int {k : IntKind} {a b : Int} (h : a = b) : Ending.returned (.int k a) = .returned (.int k b) := by rw [h]
theorem ret_bool {a b : Bool} (h : a = b) : Ending.returned (.bool a) = .returned (.bool b) := by rw [h]

/-- a block that is known whole. -/
def Blk (w : World) (g : Nat) (t : TypeId) (cs : Array Value) : Prop := w.heap[g]? = some (.cells cs t (0, 0))
section
variable {w w' : World} {g : Nat} {t : TypeId} {cs : Array Value}
theorem Blk.lt (h : Blk w g t cs) : g < w.heap.size := (Array.getElem?_eq_some_iff.1 h).1
theorem Blk.cell (h : Blk w g t cs) (i : Nat) : w.cell? ⟨g, i, none⟩ = cs[i]? := cell_of_row w g i cs t (0, 0) h
theorem Blk.frozen (h : Blk w g t cs) (i : Nat) : w.frozen? ⟨g, i, none⟩ = false := by
  unfold Blk at h
  simp [World.frozen?, h]
theorem Blk.new (w : World) (t : TypeId) (cs : Array Value) : Blk (w.alloc (.cells cs t)) w.heap.size t cs := heap_alloc_new w _
theorem Blk.below {B : Nat} (h : Blk w g t cs) (hb : Below B w w') (hg : g < B) : Blk w' g t cs := (hb.block g hg).trans h
theorem Blk.belowS (h : Blk w g t cs) (hb : Below w.heap.size w w') : Blk w' g t cs := (hb.block g h.lt).trans h
theorem Blk.set_ (h : Blk w g t cs) (i : Nat) (u : Value) : Blk (w.setCell ⟨g, i, none⟩ u) g t (cs.setIfInBounds i u) := by
  unfold Blk at h ⊢
  simp [World.setCell, Array.getElem?_modify, h]
theorem Blk.far (h : Blk w g t cs) {p : Addr} (hp : g ≠ p.block) (u : Value) : Blk (w.setCell p u) g t cs := (Below.heap_setCell w p u g hp).trans h
theorem Blk.alloc (h : Blk w g t cs) (o : Obj) : Blk (w.alloc o) g t cs := (Below.heap_alloc w o g h.lt).trans h
theorem Blk.grown {row : Option Nat} (h : Blk w g t cs) (hb : w.grownBy w' row) (hg : some g ≠ row) : Blk w' g t cs := (hb.block g h.lt hg).trans h
theorem Blk.cellV (h : Blk w g t cs) {i : Nat} {v : Value} (hv : cs[i]? = some v) : w.cell? ⟨g, i, none⟩ = some v := (h.cell i).trans hv
theorem own_form {base e size n : Nat} {v : Value} {xs : List Value} (h : w.ownsRow base e size v n xs) : ∃ A cap, v = .slice A n cap ∧ n ≤ cap := by
  rcases h.2 with ⟨rfl, rfl⟩ | ⟨g, cap, cur, rfl, _, _, hc, _⟩
  · exact ⟨_, _, rfl, Nat.le_refl _⟩
  · exact ⟨_, _, rfl, hc⟩
theorem grown_setCell (w : World) (p : Addr) (u : Value) : w.grownBy (w.setCell p u) (some p.block) :=
  ⟨rfl, rfl, rfl, by simp [World.setCell], fun k _ hk => Below.heap_setCell _ _ _ k (fun e => hk (by rw [e]))⟩
theorem own_far {base e size n : Nat} {v : Value} {xs : List Value} (h : w.ownsRow base e size v n xs) {p : Addr} (hp : p.block < base) (u : Value) : (w.setCell p u).ownsRow base e size v n xs :=
  h.kept (grown_setCell w p u) (.inr (fun e' => by have := own_ge h _ e'; omega))
/-- a row that is full, as a block that is known whole, and back. -/
theorem own_blk {base e n : Nat} {xs : List Value} (h : w.ownsRow base e 1 (.slice (some ⟨g, 0, none⟩) n n) n xs) : base ≤ g ∧ Blk w g e xs.toArray := by
  rcases h.2 with ⟨e1, _⟩ | ⟨g', cap, cur, e1, hb, hg, h1, h2, h3, h4⟩
  · cases e1
  · injection e1 with e1 _ e3
    injection e1 with e1
    injection e1 with e1 _ _
    subst e1 e3
    refine ⟨hb, ?_⟩
    have : cur = xs.toArray := by
      rw [← h4, List.take_of_length_le (by simp; omega)]
    rw [← this]
    exact hg
theorem blk_own {base e n : Nat} {xs : List Value} (h : Blk w g e xs.toArray) (hb : base ≤ g) (hl : xs.length = n) (hm : n ≤ maxLen) : w.ownsRow base e 1 (.slice (some ⟨g, 0, none⟩) n n) n xs := by
  refine ⟨by omega, .inr ⟨g, n, xs.toArray, rfl, hb, h, Nat.le_refl _, hm, by simp; omega, ?_⟩⟩
  exact List.take_of_length_le (by simp; omega)
theorem own_ne {base e size n : Nat} {v : Value} {xs : List Value} (h : w.ownsRow base e size v n xs) {g : Nat} (hg : g < base) : some g ≠ v.ownBlock := fun e' => by
  have := own_ge h g e'.symm
  omega
end

/-- a slice reads as these values, a cell each; it lies in a block below the heap's end. -/
def Rd (w : World) (A : Option Addr) (n : Nat) (vs : List Value) : Prop :=
  vs.length = n ∧ (0 < n → ∃ b off, A = some ⟨b, off, none⟩ ∧ b < w.heap.size ∧ ∀ k v, vs[k]? = some v → w.cell? ⟨b, off + k, none⟩ = some v)
theorem Rd.nil (w : World) (A : Option Addr) : Rd w A 0 [] := ⟨rfl, fun h => absurd h (by omega)⟩
theorem Rd.keep {w w' : World} {A : Option Addr} {n : Nat} {vs : List Value} (h : Rd w A n vs) (hs : w.heap.size ≤ w'.heap.size) (hk : ∀ b o v, w.cell? ⟨b, o, none⟩ = some v → w'.cell? ⟨b, o, none⟩ = some v) : Rd w' A n vs :=
  ⟨h.1, fun hn => by
    obtain ⟨b, off, e, hb, hc⟩ := h.2 hn
    exact ⟨b, off, e, by omega, fun k v hv => hk _ _ _ (hc k v hv)⟩⟩
theorem Rd.below {w w' : World} {A : Option Addr} {n : Nat} {vs : List Value} (h : Rd w A n vs) (hb : Below w.heap.size w w') : Rd w' A n vs :=
  h.keep hb.size (fun b o _ hc => (hb.cell (p := ⟨b, o, none⟩) (block_lt_of_cell hc)).trans hc)
/-- the slice lies in memory from lo on. -/
def Fr (lo : Nat) (A : Option Addr) : Prop := ∀ a, A = some a → lo ≤ a.block
theorem Fr.own {w : World} {base e size n m cap : Nat} {A : Option Addr} {xs : List Value} (h : w.ownsRow base e size (.slice A m cap) n xs) : Fr base A := fun a ea => by
  subst ea
  rcases h.2 with ⟨e1, _⟩ | ⟨g, _, _, e1, hg, _⟩
  · cases e1
  · injection e1 with e1 _ _
    injection e1 with e1
    subst e1
    exact hg
theorem Fr.mono {lo lo' : Nat} {A : Option Addr} (h : Fr lo A) (hl : lo' ≤ lo) : Fr lo' A := fun a e => Nat.le_trans hl (h a e)
theorem Rd.lt {w : World} {A : Option Addr} {n : Nat} {vs : List Value} (h : Rd w A n vs) (hn : 0 < n) : ∀ a, A = some a → a.block < w.heap.size := fun a e => by
  obtain ⟨b, off, e', hb, _⟩ := h.2 hn
  rw [e'] at e
  cases e
  exact hb
theorem Rd.far' {w : World} {A : Option Addr} {n : Nat} {vs : List Value} (h : Rd w A n vs) {p : Addr} (hA : 0 < n → ∀ a, A = some a → a.block ≠ p.block) (u : Value) : Rd (w.setCell p u) A n vs :=
  ⟨h.1, fun hn => by
    obtain ⟨b, off, e, hb, hc⟩ := h.2 hn
    exact ⟨b, off, e, by simpa [World.setCell] using hb, fun k v hv => (World.cell?_setCell_other w p ⟨b, off + k, none⟩ u (fun e' => by subst e'; exact hA hn _ e rfl)).trans (hc k v hv)⟩⟩
theorem Rd.far {w : World} {A : Option Addr} {n : Nat} {vs : List Value} (h : Rd w A n vs) {p : Addr} (hA : ∀ a, A = some a → a.block ≠ p.block) (u : Value) : Rd (w.setCell p u) A n vs :=
  ⟨h.1, fun hn => by
    obtain ⟨b, off, e, hb, hc⟩ := h.2 hn
    exact ⟨b, off, e, by simpa [World.setCell] using hb, fun k v hv => (World.cell?_setCell_other w p ⟨b, off + k, none⟩ u (fun e' => by subst e'; exact hA _ e rfl)).trans (hc k v hv)⟩⟩
theorem Rd.of_own {w : World} {base e n cap : Nat} {A : Option Addr} {vs : List Value} (h : w.ownsRow base e 1 (.slice A n cap) n vs) : Rd w A n vs := by
  refine ⟨by simpa using h.1, fun hn => ?_⟩
  rcases h.2 with ⟨e1, e2⟩ | ⟨g, cap', cur, e1, hb, hg, _⟩
  · omega
  · injection e1 with e1 _ _
    subst e1
    refine ⟨g, 0, rfl, (Array.getElem?_eq_some_iff.1 hg).1, fun k v hk => ?_⟩
    have hkn : k < n * 1 := by
      have := (List.getElem?_eq_some_iff.1 hk).1
      have h1 := h.1
      omega
    have hc := h.cells (g := g) rfl k v hk
    simp only [Addr.add] at hc
    split at hc
    · rename_i h0; subst h0; exact hc
    · exact hc

end Go.Proofs.YtbfefkhejknmoaaGreatDoor
