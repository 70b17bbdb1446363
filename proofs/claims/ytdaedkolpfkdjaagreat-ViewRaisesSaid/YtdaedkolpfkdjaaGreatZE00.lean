/-
  The last step of every law's row: a call that answers true and leaves whatever lay as it lay meets the row 'true; each argument reads as it did', whatever the arguments are.
  Small words that all walks of this seat share: what lay when a call began lies as it lay, step by step; blocks that are known whole; slices that read as values.
  Maps keyed by numbers, their elements taken as they are: what a map's block holds is a function from keys to values, and how many there are.
-/
import Derived.Test.YtdaedkolpfkdjaaGreatRows
import Derived.ProofKit
import Derived.OpenShut
import Derived.Lib.SmallJoins
import Derived.Test.YtdaedkolpfkdjaaGreatProg
import Derived.WalkKit
import Derived.WalkSpells
import Derived.WalkLawsBesides
import Derived.RegionTactic
import Derived.Deep.QuietTactic
import Derived.BigQuiet
import Derived.Deep.RegionHeld3
import Derived.Deep.DeepCutAuto
import Derived.Lib.Hide
import Derived.Maps.AppendAt
import Derived.Laws.CopyOwn
import Derived.Laws.EntriesVeiled
import Derived.Maps.OwnSet
import Derived.Maps.RangeWalk
import Derived.Maps.Ext
section
namespace Go.Proofs.YtdaedkolpfkdjaaGreat
open Go.ChangeShapes Go.WideShapes Go.ChangeAt Go.RowKit

theorem Tryz.own : ownKnob Tryz.prog.godebug = none := by kernel_rfl
theorem Tryz.laidOut : laidOutB Tryz.prog = true := by kernel_rfl

section
variable {H : Type} {enc : TypeId × Value → H} {P : Program}

/-- whatever was read reads behind the call as it did. -/
theorem trodAll_stays (hl : laidOutB P = true) {W W' : World} (hb : Below W.heap.size W W') : ∀ {ts : List TypeId} {vs : List Value} {ds : List (DataW H)} {ps : List MemPlace},
    (∀ t ∈ ts, P.readableRec t = true ∧ t < P.types.size) → DataW.TrodAll enc P W 0 (fun _ => true) true ts vs ds ps → (∀ x ∈ ps, x.block < W.heap.size) →
    ∀ sp : Nat → Bool, (∀ x ∈ ps, sp x.block = true) → DataW.TrodAll enc P W' 0 sp true ts vs ds ps
  | [], vs, ds, ps, _, h, _, sp, _ => by
    obtain ⟨rfl, rfl, rfl⟩ := trodAll_nil h
    exact trodAll_mk0
  | t :: ts, vs, ds, ps, hts, h, hlt, sp, hsp => by
    obtain ⟨v, vs', d, ds', p, q, rfl, rfl, rfl, h1, h2⟩ := trodAll_cons h
    obtain ⟨ht1, ht2⟩ := hts t (by simp)
    refine trodAll_cons_mk (WideElems.Trod_stays hl ht1 ht2 h1 (fun x hx => hb.same (hlt x (by simp [hx]))) (fun x hx => hsp x (by simp [hx]))) ?_
    exact trodAll_stays hl hb (fun t' ht' => hts t' (by simp [ht'])) h2 (fun x hx => hlt x (by simp [hx])) sp (fun x hx => hsp x (by simp [hx]))

theorem law_post {f : Func} {s : ChangeSpec} {apart fresh handsOn again : Bool} {W W' : World} {args : Array Value} {ds : List (DataW H)} {before : List MemPlace} {tb : TypeId}
    (hl : laidOutB P = true) (hts : ∀ t ∈ f.params.toList, P.readableRec t = true ∧ t < P.types.size) (hv : s.vars = [])
    (hW : DataW.Whole enc P f.params.toList s.vars apart W args.toList ds [] before) (hA : DataW.TrodAll enc P W 0 (fun _ => true) true f.params.toList args.toList ds before)
    (hs : s.fn H (ds ++ []) = { results := [.lit (.bool true)], args := ds }) (hr : f.resultTypes = #[tb]) (htb : P.underlying tb = some .bool) (hb : Below W.heap.size W W') :
    s.post enc P f apart fresh handsOn again W args (.bool true) W' := by
  have hlt : ∀ p ∈ before, p.block < W.heap.size := fun p hp => hW.lt p hp
  have hold : ∀ p ∈ before, (fun b => decide (b < W.heap.size)) p.block = true := fun p hp => by simpa using hlt p hp
  have hargs : ∀ sp : Nat → Bool, (∀ p ∈ before, sp p.block = true) → DataW.TrodAll enc P W' 0 sp true f.params.toList args.toList (s.fn H (ds ++ [])).args before := by
    intro sp hsp
    rw [hs]
    exact trodAll_stays hl hb hts hA hlt sp hsp
  have hres : ∀ (b : Nat) (sp : Nat → Bool) (hd : Bool), DataW.TrodAll enc P W' b sp hd f.resultTypes.toList ((Value.bool true).resultList f.resultTypes.size) (s.fn H (ds ++ [])).results [] := by
    intro b sp hd
    rw [hs, hr]
    exact trodAll_mk1 (shut_bool htb true)
  have hvars : ∀ sp : Nat → Bool, DataW.TrodVars enc P W' sp s.vars (s.fn H (ds ++ [])).vars [] := by
    intro sp
    rw [hs, hv]
    exact rfl
  refine ⟨ds, [], before, [], before, [], hW, hres _ _ _, hargs _ hold, hvars _, World.keptBut_mono (fun p hp => ⟨hp, ?_⟩) (hb.frame (· ∈ before)), fun _ => ?_⟩
  · exact Or.inr (.inl hp)
  · obtain ⟨_, _, _, _, _, hz, hn⟩ := hW
    refine ⟨?_, _, _, ([] ++ before) ++ [], ⟨[] ++ before, [], trodAll_append (hargs _ (fun _ _ => rfl)) (hres _ _ _), hvars _, rfl, ?_, ?_⟩, ?_⟩
    · exact ok_one hr rfl (okWide_bool_mk htb true)
    · intro b off hp
      have hin : MemPlace.cell b off ∈ before := by simpa using hp
      rw [hb.frozen (hlt _ hin)]
      exact hz b off hin
    · intro ha
      simpa using hn ha
    · intro p hp _
      simpa using hp
end

end Go.Proofs.YtdaedkolpfkdjaaGreat
end

section
namespace Go.Proofs.YtdaedkolpfkdjaaGreat
open Go.RowKit

theorem setCell_drewN (w : World) (n : Nat) (a : Addr) (v : Value) : (w.drewN n).setCell a v = (w.setCell a v).drewN n := rfl
theorem alloc_drewN (w : World) (n : Nat) (o : Obj) : (w.drewN n).alloc o = (w.alloc o).drewN n := rfl
attribute [go_sem] setCell_drewN alloc_drewN

theorem bstep {w W w' : World} (h : Below w.heap.size w W) (hb : Below W.heap.size W w') : Below w.heap.size w w' := h.trans (hb.mono h.size)
theorem bal {w W : World} (h : Below w.heap.size w W) (o : Obj) : Below w.heap.size w (W.alloc o) := h.alloc h.size o
theorem bre (w : World) : Below w.heap.size w w := Below.refl _ _
theorem bset {w W : World} (h : Below w.heap.size w W) {p : Addr} (hp : w.heap.size ≤ p.block) (v : Value) : Below w.heap.size w (W.setCell p v) := h.setCell hp v
theorem undrewX {w X w' : World} (h : Below X.heap.size X w') (hh : X.heap = w.heap) (ho : X.os = w.os) (ht : X.tape = w.tape) (hp : X.output = w.output) : Below w.heap.size w w' :=
  ⟨h.os.trans ho, h.tape.trans ht, h.output.trans hp, by rw [← hh]; exact h.size, fun b hb => by rw [← hh] at hb ⊢; exact h.block b hb⟩
theorem bcell {W w1 : World} (hb : Below W.heap.size W w1) : (∀ b o, b < W.heap.size → w1.cell? ⟨b, o, none⟩ = W.cell? ⟨b, o, none⟩) ∧ (∀ b o, b < W.heap.size → w1.frozen? ⟨b, o, none⟩ = W.frozen? ⟨b, o, none⟩) :=
  ⟨fun b o h => hb.cell (p := ⟨b, o, none⟩) h, fun b o h => hb.frozen (p := ⟨b, o, none⟩) h⟩
theorem grown_of_below {a w : World} (h : Below a.heap.size a w) (row : Option Nat) : a.grownBy w row := ⟨h.os, h.tape, h.output, h.size, fun i hi _ => h.block i hi⟩
theorem ownsRow_below {w w' : World} {base e size n : Nat} {v : Value} {xs : List Value} (h : w.ownsRow base e size v n xs) (hb : Below w.heap.size w w') : w'.ownsRow base e size v n xs :=
  h.kept (grown_of_below hb none) (by cases v.ownBlock <;> simp)
theorem ownsRow_base {w : World} {base base' e size n : Nat} {v : Value} {xs : List Value} (h : w.ownsRow base e size v n xs) (hb : base' ≤ base) : w.ownsRow base' e size v n xs := by
  refine ⟨h.1, ?_⟩
  rcases h.2 with h | ⟨g, cap, cur, e, hg, r⟩
  · exact .inl h
  · exact .inr ⟨g, cap, cur, e, by omega, r⟩
theorem own_ge {w : World} {base e size n : Nat} {v : Value} {xs : List Value} (h : w.ownsRow base e size v n xs) : ∀ g, v.ownBlock = some g → base ≤ g := fun g hg => (h.lt g hg).1
theorem ret_int {k : IntKind} {a b : Int} (h : a = b) : Ending.returned (.int k a) = .returned (.int k b) := by rw [h]
theorem ret_bool {a b : Bool} (h : a = b) : Ending.returned (.bool a) = .returned (.bool b) := by rw [h]

/-- a block that is known whole. -/
def Blk (w : World) (g : Nat) (t : TypeId) (cs : Array Value) : Prop := w.heap[g]? = some (.cells cs t (0, 0))
section
variable {w w' : World} {g : Nat} {t : TypeId} {cs : Array Value}
theorem Blk.lt (h : Blk w g t cs) : g < w.heap.size := (Array.getElem?_eq_some_iff.1 h).1
theorem Blk.cell (h : Blk w g t cs) (i : Nat) : w.cell? ⟨g, i, none⟩ = cs[i]? := cell_of_row w g i cs t (0, 0) h
theorem Blk.frozen (h : Blk w g t cs) (i : Nat) : w.frozen? ⟨g, i, none⟩ = false := by
  unfold Blk at h
  simp [World.frozen?, h]
theorem Blk.new (w : World) (t : TypeId) (cs : Array Value) : Blk (w.alloc (.cells cs t)) w.heap.size t cs := heap_alloc_new w _
theorem Blk.below {B : Nat} (h : Blk w g t cs) (hb : Below B w w') (hg : g < B) : Blk w' g t cs := (hb.block g hg).trans h
theorem Blk.belowS (h : Blk w g t cs) (hb : Below w.heap.size w w') : Blk w' g t cs := (hb.block g h.lt).trans h
theorem Blk.set_ (h : Blk w g t cs) (i : Nat) (u : Value) : Blk (w.setCell ⟨g, i, none⟩ u) g t (cs.setIfInBounds i u) := by
  unfold Blk at h ⊢
  simp [World.setCell, Array.getElem?_modify, h]
theorem Blk.far (h : Blk w g t cs) {p : Addr} (hp : g ≠ p.block) (u : Value) : Blk (w.setCell p u) g t cs := (Below.heap_setCell w p u g hp).trans h
theorem Blk.alloc (h : Blk w g t cs) (o : Obj) : Blk (w.alloc o) g t cs := (Below.heap_alloc w o g h.lt).trans h
theorem Blk.grown {row : Option Nat} (h : Blk w g t cs) (hb : w.grownBy w' row) (hg : some g ≠ row) : Blk w' g t cs := (hb.block g h.lt hg).trans h
theorem Blk.cellV (h : Blk w g t cs) {i : Nat} {v : Value} (hv : cs[i]? = some v) : w.cell? ⟨g, i, none⟩ = some v := (h.cell i).trans hv
theorem own_form {base e size n : Nat} {v : Value} {xs : List Value} (h : w.ownsRow base e size v n xs) : ∃ A cap, v = .slice A n cap ∧ n ≤ cap := by
  rcases h.2 with ⟨rfl, rfl⟩ | ⟨g, cap, cur, rfl, _, _, hc, _⟩
  · exact ⟨_, _, rfl, Nat.le_refl _⟩
  · exact ⟨_, _, rfl, hc⟩
theorem grown_setCell (w : World) (p : Addr) (u : Value) : w.grownBy (w.setCell p u) (some p.block) :=
  ⟨rfl, rfl, rfl, by simp [World.setCell], fun k _ hk => Below.heap_setCell _ _ _ k (fun e => hk (by rw [e]))⟩
theorem own_far {base e size n : Nat} {v : Value} {xs : List Value} (h : w.ownsRow base e size v n xs) {p : Addr} (hp : p.block < base) (u : Value) : (w.setCell p u).ownsRow base e size v n xs :=
  h.kept (grown_setCell w p u) (.inr (fun e' => by have := own_ge h _ e'; omega))
theorem blk_own {base e n : Nat} {xs : List Value} (h : Blk w g e xs.toArray) (hb : base ≤ g) (hl : xs.length = n) (hm : n ≤ maxLen) : w.ownsRow base e 1 (.slice (some ⟨g, 0, none⟩) n n) n xs := by
  refine ⟨by omega, .inr ⟨g, n, xs.toArray, rfl, hb, h, Nat.le_refl _, hm, by simp; omega, ?_⟩⟩
  exact List.take_of_length_le (by simp; omega)
end

/-- a slice reads as these values, a cell each; it lies in a block below the heap's end. -/
def Rd (w : World) (A : Option Addr) (n : Nat) (vs : List Value) : Prop :=
  vs.length = n ∧ (0 < n → ∃ b off, A = some ⟨b, off, none⟩ ∧ b < w.heap.size ∧ ∀ k v, vs[k]? = some v → w.cell? ⟨b, off + k, none⟩ = some v)
theorem Rd.nil (w : World) (A : Option Addr) : Rd w A 0 [] := ⟨rfl, fun h => absurd h (by omega)⟩
theorem Rd.keep {w w' : World} {A : Option Addr} {n : Nat} {vs : List Value} (h : Rd w A n vs) (hs : w.heap.size ≤ w'.heap.size) (hk : ∀ b o v, w.cell? ⟨b, o, none⟩ = some v → w'.cell? ⟨b, o, none⟩ = some v) : Rd w' A n vs :=
  ⟨h.1, fun hn => by
    obtain ⟨b, off, e, hb, hc⟩ := h.2 hn
    exact ⟨b, off, e, by omega, fun k v hv => hk _ _ _ (hc k v hv)⟩⟩
theorem Rd.below {w w' : World} {A : Option Addr} {n : Nat} {vs : List Value} (h : Rd w A n vs) (hb : Below w.heap.size w w') : Rd w' A n vs :=
  h.keep hb.size (fun b o _ hc => (hb.cell (p := ⟨b, o, none⟩) (block_lt_of_cell hc)).trans hc)
/-- the slice lies in memory from lo on. -/
def Fr (lo : Nat) (A : Option Addr) : Prop := ∀ a, A = some a → lo ≤ a.block
theorem Fr.own {w : World} {base e size n m cap : Nat} {A : Option Addr} {xs : List Value} (h : w.ownsRow base e size (.slice A m cap) n xs) : Fr base A := fun a ea => by
  subst ea
  rcases h.2 with ⟨e1, _⟩ | ⟨g, _, _, e1, hg, _⟩
  · cases e1
  · injection e1 with e1 _ _
    injection e1 with e1
    subst e1
    exact hg
theorem Fr.mono {lo lo' : Nat} {A : Option Addr} (h : Fr lo A) (hl : lo' ≤ lo) : Fr lo' A := fun a e => Nat.le_trans hl (h a e)
theorem Rd.lt {w : World} {A : Option Addr} {n : Nat} {vs : List Value} (h : Rd w A n vs) (hn : 0 < n) : ∀ a, A = some a → a.block < w.heap.size := fun a e => by
  obtain ⟨b, off, e', hb, _⟩ := h.2 hn
  rw [e'] at e
  cases e
  exact hb
theorem Rd.far' {w : World} {A : Option Addr} {n : Nat} {vs : List Value} (h : Rd w A n vs) {p : Addr} (hA : 0 < n → ∀ a, A = some a → a.block ≠ p.block) (u : Value) : Rd (w.setCell p u) A n vs :=
  ⟨h.1, fun hn => by
    obtain ⟨b, off, e, hb, hc⟩ := h.2 hn
    exact ⟨b, off, e, by simpa [World.setCell] using hb, fun k v hv => (World.cell?_setCell_other w p ⟨b, off + k, none⟩ u (fun e' => by subst e'; exact hA hn _ e rfl)).trans (hc k v hv)⟩⟩
theorem Rd.far {w : World} {A : Option Addr} {n : Nat} {vs : List Value} (h : Rd w A n vs) {p : Addr} (hA : ∀ a, A = some a → a.block ≠ p.block) (u : Value) : Rd (w.setCell p u) A n vs :=
  ⟨h.1, fun hn => by
    obtain ⟨b, off, e, hb, hc⟩ := h.2 hn
    exact ⟨b, off, e, by simpa [World.setCell] using hb, fun k v hv => (World.cell?_setCell_other w p ⟨b, off + k, none⟩ u (fun e' => by subst e'; exact hA _ e rfl)).trans (hc k v hv)⟩⟩
theorem Rd.of_own {w : World} {base e n cap : Nat} {A : Option Addr} {vs : List Value} (h : w.ownsRow base e 1 (.slice A n cap) n vs) : Rd w A n vs := by
  refine ⟨by simpa using h.1, fun hn => ?_⟩
  rcases h.2 with ⟨e1, e2⟩ | ⟨g, cap', cur, e1, hb, hg, _⟩
  · omega
  · injection e1 with e1 _ _
    subst e1
    refine ⟨g, 0, rfl, (Array.getElem?_eq_some_iff.1 hg).1, fun k v hk => ?_⟩
    have hkn : k < n * 1 := by
      have := (List.getElem?_eq_some_iff.1 hk).1
      have h1 := h.1
      omega
    have hc := h.cells (g := g) rfl k v hk
    simp only [Addr.add] at hc
    split at hc
    · rename_i h0; subst h0; exact hc
    · exact hc

end Go.Proofs.YtdaedkolpfkdjaaGreat
end

section
namespace Go.Proofs.YtdaedkolpfkdjaaGreat
open Go.RowKit Go.Maps

/-- an element reads as itself. -/
def rawR (v : Value) : Option (DataW Value × List MemPlace) := some (.held v, [])
theorem rawR_inv {v : Value} {d : DataW Value} {ps : List MemPlace} (h : rawR v = some (d, ps)) : d = .held v := by
  unfold rawR at h
  injection h with h
  injection h with h _
  exact h.symm

section
variable {P : Program} {k e t : TypeId} {q : IntKind} {w w' : World} {b n : Nat} {f : Int → Option Value}
/-- block b is a map of n entries: f tells them. -/
def MapIs (P : Program) (k : TypeId) (q : IntKind) (w : World) (b n : Nat) (f : Int → Option Value) : Prop :=
  ∃ D : DataW Value, w.ownsMap P k rawR b n D ∧ Maps.size D = n ∧ (∀ i, Maps.has D (.int q i) = (f i).isSome) ∧ ∀ i v, f i = some v → ∀ z, D.atKey (.int q i) z = .held v
theorem MapIs.lt (h : MapIs P k q w b n f) : b < w.heap.size := by
  obtain ⟨D, h, _⟩ := h
  exact h.lt
theorem MapIs.made (w : World) : MapIs P k q (w.alloc (.map #[] 0)) w.heap.size 0 (fun _ => none) :=
  ⟨.map [], World.ownsMap_made w P k rawR, rfl, fun _ => rfl, fun _ _ h => by cases h⟩
theorem MapIs.kept {row : Option Nat} (h : MapIs P k q w b n f) (hg : w.grownBy w' row) (hne : some b ≠ row) : MapIs P k q w' b n f := by
  obtain ⟨D, h1, h2⟩ := h
  exact ⟨D, h1.kept hg hne, h2⟩
theorem MapIs.setCell (h : MapIs P k q w b n f) {a : Addr} (ha : b ≠ a.block) (u : Value) : MapIs P k q (w.setCell a u) b n f := by
  obtain ⟨D, h1, h2⟩ := h
  exact ⟨D, h1.setCell ha u, h2⟩
theorem MapIs.alloc (h : MapIs P k q w b n f) (o : Obj) : MapIs P k q (w.alloc o) b n f := h.kept (World.grownBy_alloc w o none) (by simp)
theorem MapIs.below (h : MapIs P k q w b n f) (hb : Below w.heap.size w w') : MapIs P k q w' b n f :=
  h.kept (row := none) ⟨hb.os, hb.tape, hb.output, hb.size, fun i hi _ => hb.block i hi⟩ (by simp)
theorem MapIs.drew (h : MapIs P k q w b n f) : MapIs P k q w.drew b n f := h
/-- an entry is laid. -/
theorem MapIs.put_of {D : DataW Value} {m : Nat} {i : Int} {v : Value} (K : Keyed P k) (hD : w.ownsMap P k rawR b m D) (hs : Maps.size D = n) (hh : ∀ i, Maps.has D (.int q i) = (f i).isSome) (ha : ∀ i v, f i = some v → ∀ z, D.atKey (.int q i) z = .held v)
    (hD' : w'.ownsMap P k rawR b (m + 1) (D.put (.int q i) (.held v))) : MapIs P k q w' b (if (f i).isSome then n else n + 1) (fun j => if j = i then some v else f j) := by
  have hkey : WideAt.IsKeyLit (.int q i) := by simp [WideAt.IsKeyLit]
  have hT := hD.tidy K
  have hsz := size_put (k := .int q i) hT (.held v)
  rw [hh, hs] at hsz
  refine ⟨D.put (.int q i) (.held v), ?_, ?_, fun j => ?_, fun j u hj z => ?_⟩
  · obtain ⟨es, clock, h1, h2, h3, h4⟩ := hD'
    refine ⟨es, clock, h1, h2, ?_, h4⟩
    have := length_read (P := P) (k := k) (R0 := rawR) es
    rw [h4, size_eq, this] at hsz
    rw [hsz]
    exact Nat.le_refl _
  · exact hsz
  · by_cases hj : j = i
    · subst hj
      rw [has_put_same hT.isMap hkey]
      simp
    · rw [has_put_other (by intro e; injection e with _ e; exact hj e), hh]
      simp [hj]
  · by_cases hj' : j = i
    · subst hj'
      simp at hj
      subst hj
      exact atKey_put_same hT.isMap hkey _ _
    · simp [hj'] at hj
      rw [atKey_put_other (by intro e; injection e with _ e; exact hj' e)]
      exact ha j u hj z
end

section
variable {P : Program} {k e t : TypeId} {q : IntKind} {w : World} {b n : Nat} {f : Int → Option Value} {ops : Array Oper} {rest : List Oper} {o : Oper} {a : Act} {Q : Exit → Act → World → Prop}
theorem MapIs.owns (h : MapIs P k q w b n f) : ∃ D : DataW Value, w.ownsMap P k rawR b n D ∧ Maps.size D = n ∧ (∀ i, Maps.has D (.int q i) = (f i).isSome) ∧ ∀ i v, f i = some v → ∀ z, D.atKey (.int q i) z = .held v := h
theorem at_of {D : DataW Value} (hh : ∀ i, Maps.has D (.int q i) = (f i).isSome) (ha : ∀ i v, f i = some v → ∀ z, D.atKey (.int q i) z = .held v) (i : Int) (z : Value) : D.atKey (.int q i) (.held z) = .held ((f i).getD z) := by
  cases hf : f i with
  | none => rw [atKey_of_not_has (by rw [hh, hf]; rfl)]; rfl
  | some v => rw [ha i v hf]; rfl
/-- 'v, ok := m[i]'. -/
theorem map_look_ok (hg : o.guard = none) (m x : Operand) (t : TypeId) (hop : o.op = Op.lookup t m x true) (k e : TypeId) (q : IntKind) (hk : P.underlying k = some (.int q)) (ht : P.underlying t = some (.map k e)) (z : Value) (hz : (zeroValue e).run P w = .ok z w)
    (b n : Nat) (f : Int → Option Value) (hm : a.eval m = .map (some b)) (h : MapIs P k q w b n f) (i : Int) (hx : a.eval x = .int q i) (hwf : (Lit.int q i).wf = true)
    (hK : wpList P ops Q rest (a.put o.dst (.tuple #[(f i).getD z, .bool (f i).isSome])) w) : wpList P ops Q (o :: rest) a w := by
  obtain ⟨D, hD, _, hh, ha⟩ := h
  refine wpList_lookup_own_ok w hg m x t hop k e (int_keyed hk) ht rawR hz (.held z) [] rfl b n D hm hD _ (.int q i) hx (keyOf_int_mk hk hwf) (fun v ps hv => ?_)
  have e1 := rawR_inv hv
  rw [at_of hh ha] at e1
  injection e1 with e1
  subst e1
  rw [hh]
  exact hK
/-- 'm[i]'. -/
theorem map_look (hg : o.guard = none) (m x : Operand) (t : TypeId) (hop : o.op = Op.lookup t m x false) (k e : TypeId) (q : IntKind) (hk : P.underlying k = some (.int q)) (ht : P.underlying t = some (.map k e)) (z : Value) (hz : (zeroValue e).run P w = .ok z w)
    (b n : Nat) (f : Int → Option Value) (hm : a.eval m = .map (some b)) (h : MapIs P k q w b n f) (i : Int) (hx : a.eval x = .int q i) (hwf : (Lit.int q i).wf = true)
    (hK : wpList P ops Q rest (a.put o.dst ((f i).getD z)) w) : wpList P ops Q (o :: rest) a w := by
  obtain ⟨D, hD, _, hh, ha⟩ := h
  refine wpList_plain hg fun K' hK' => ?_
  obtain ⟨v, ps, hrun, hv⟩ := hD.lookup (int_keyed hk) ht hz (zd := .held z) (zp := []) rfl (keyOf_int_mk hk hwf)
  have e1 := rawR_inv hv
  rw [at_of hh ha] at e1
  injection e1 with e1
  subst e1
  unfold Oper.wp
  simp [execOp, hop, hm, hx, hrun, Result.andThen]
  exact hK' _ _ hK
/-- 'm[i] = v'. -/
theorem map_put (hg : o.guard = none) (m x v : Operand) (t : TypeId) (hop : o.op = Op.mapUpdate t m x v) (k e : TypeId) (q : IntKind) (hk : P.underlying k = some (.int q)) (ht : P.underlying t = some (.map k e))
    (b n : Nat) (f : Int → Option Value) (hm : a.eval m = .map (some b)) (h : MapIs P k q w b n f) (hn : n < maxLen) (i : Int) (val : Value) (hx : a.eval x = .int q i) (hv : a.eval v = val) (hwf : (Lit.int q i).wf = true)
    (hK : ∀ w', MapIs P k q w' b (if (f i).isSome then n else n + 1) (fun j => if j = i then some val else f j) → w.grownBy w' (some b) → wpList P ops Q rest (a.put o.dst undef) w') : wpList P ops Q (o :: rest) a w := by
  obtain ⟨D, hD, hs, hh, ha⟩ := h
  exact wpList_mapUpdate_own w hg m x v t hop k e (int_keyed hk) ht rawR b n D hm hD hn _ val (.int q i) hx hv (keyOf_int_mk hk hwf) (.held val) [] rfl (fun w' h1 h2 => hK w' (MapIs.put_of (int_keyed hk) hD hs hh ha h1) h2)
/-- a store's run, told ahead. -/
theorem MapIs.run_put (hk : P.underlying k = some (.int q)) (ht : P.underlying t = some (.map k e)) (h : MapIs P k q w b n f) (hn : n < maxLen) (i : Int) (val : Value) (hwf : (Lit.int q i).wf = true) :
    ∃ w', (Instr.mapUpdate t (.map (some b)) (.int q i) val).run P w = .ok () w' ∧ MapIs P k q w' b (if (f i).isSome then n else n + 1) (fun j => if j = i then some val else f j) ∧ w.grownBy w' (some b) := by
  obtain ⟨D, hD, hs, hh, ha⟩ := h
  obtain ⟨w', hrun, r1, r2⟩ := hD.update (int_keyed hk) ht hn (keyOf_int_mk hk hwf) (val := val) (d := .held val) (ps := []) rfl
  exact ⟨w', hrun, MapIs.put_of (int_keyed hk) hD hs hh ha r1, r2⟩
/-- 'm[i] = v' within a region that draws. -/
theorem map_put_op {K : Act → World → Prop} (m x v : Operand) (t : TypeId) (hop : o.op = Op.mapUpdate t m x v) (k e : TypeId) (q : IntKind) (hk : P.underlying k = some (.int q)) (ht : P.underlying t = some (.map k e))
    (b n : Nat) (f : Int → Option Value) (hm : a.eval m = .map (some b)) (h : MapIs P k q w b n f) (hn : n < maxLen) (i : Int) (val : Value) (hx : a.eval x = .int q i) (hv : a.eval v = val) (hwf : (Lit.int q i).wf = true)
    (hK : ∀ w', MapIs P k q w' b (if (f i).isSome then n else n + 1) (fun j => if j = i then some val else f j) → w.grownBy w' (some b) → K (a.put o.dst undef) w') : Oper.wp P o a w K Q := by
  obtain ⟨w', hrun, r1, r2⟩ := h.run_put hk ht hn i val hwf
  unfold Oper.wp
  simp [execOp, hop, hm, hx, hv, hrun, Result.andThen]
  exact hK w' r1 r2
/-- 'm[i]' within a region that draws. -/
theorem map_look_op {K : Act → World → Prop} (m x : Operand) (t : TypeId) (hop : o.op = Op.lookup t m x false) (k e : TypeId) (q : IntKind) (hk : P.underlying k = some (.int q)) (ht : P.underlying t = some (.map k e)) (z : Value) (hz : (zeroValue e).run P w = .ok z w)
    (b n : Nat) (f : Int → Option Value) (hm : a.eval m = .map (some b)) (h : MapIs P k q w b n f) (i : Int) (hx : a.eval x = .int q i) (hwf : (Lit.int q i).wf = true)
    (hK : K (a.put o.dst ((f i).getD z)) w) : Oper.wp P o a w K Q := by
  obtain ⟨D, hD, _, hh, ha⟩ := h
  obtain ⟨v, ps, hrun, hv⟩ := hD.lookup (int_keyed hk) ht hz (zd := .held z) (zp := []) rfl (keyOf_int_mk hk hwf)
  have e1 := rawR_inv hv
  rw [at_of hh ha] at e1
  injection e1 with e1
  subst e1
  unfold Oper.wp
  simp [execOp, hop, hm, hx, hrun, Result.andThen]
  exact hK
/-- 'len(m)'. -/
theorem map_len (hg : o.guard = none) (m : Operand) (t : TypeId) (hop : o.op = Op.call { callee := Callee.builtin Builtin.len, args := #[m], argTypes := #[t] }) (k e : TypeId) (q : IntKind) (ht : P.underlying t = some (.map k e))
    (b n : Nat) (f : Int → Option Value) (hm : a.eval m = .map (some b)) (h : MapIs P k q w b n f) (hK : wpList P ops Q rest (a.put o.dst (.int .i64 n)) w) : wpList P ops Q (o :: rest) a w := by
  obtain ⟨D, hD, hs, _⟩ := h
  exact wpList_len_own w hg m t hop k e ht rawR b n D hm hD (by rw [hs]; exact hK)
end

section
variable {P : Program} {k e t : TypeId} {q : IntKind} {w w' : World} {b r n cnt : Nat} {f : Int → Option Value} {left : Int → Bool}
/-- a range over the map under way: the keys that are left. -/
def MapRange (P : Program) (k : TypeId) (q : IntKind) (w : World) (b r n : Nat) (f : Int → Option Value) (left : Int → Bool) (cnt : Nat) : Prop :=
  ∃ (D : DataW Value) (L : Lit → Bool), w.ranges P k rawR b r n D L cnt ∧ Maps.size D = n ∧ (∀ i, Maps.has D (.int q i) = (f i).isSome) ∧ (∀ i v, f i = some v → ∀ z, D.atKey (.int q i) z = .held v) ∧ ∀ i, L (.int q i) = left i
theorem MapRange.is (h : MapRange P k q w b r n f left cnt) : MapIs P k q w b n f := by
  obtain ⟨D, L, h1, h2, h3, h4, _⟩ := h
  exact ⟨D, h1.owns, h2, h3, h4⟩
theorem MapRange.ne (h : MapRange P k q w b r n f left cnt) : r ≠ b := by
  obtain ⟨D, L, h1, _⟩ := h
  exact h1.ne
theorem MapRange.lt (h : MapRange P k q w b r n f left cnt) : r < w.heap.size := by
  obtain ⟨D, L, h1, _⟩ := h
  exact h1.lt
theorem MapRange.left_eq (h : MapRange P k q w b r n f left cnt) : w.rangeLeft b r = cnt := by
  obtain ⟨D, L, h1, _⟩ := h
  exact h1.left_eq
theorem MapRange.kept {row : Option Nat} (h : MapRange P k q w b r n f left cnt) (hg : w.grownBy w' row) (hb : some b ≠ row) (hr : some r ≠ row) : MapRange P k q w' b r n f left cnt := by
  obtain ⟨D, L, h1, h2⟩ := h
  exact ⟨D, L, h1.kept hg hb hr, h2⟩
variable {ops : Array Oper} {rest : List Oper} {o : Oper} {a : Act} {Q : Exit → Act → World → Prop}
/-- 'range m'. -/
theorem map_range (hg : o.guard = none) (m : Operand) (t : TypeId) (hop : o.op = Op.range t m) (k e : TypeId) (q : IntKind) (hk : P.underlying k = some (.int q)) (ht : P.underlying t = some (.map k e)) (b n : Nat) (f : Int → Option Value)
    (hm : a.eval m = .map (some b)) (h : MapIs P k q w b n f)
    (hK : ∀ w', MapRange P k q w' b w.heap.size n f (fun i => (f i).isSome) n → w.grownBy w' none → w'.heap.size = w.heap.size + 1 → wpList P ops Q rest (a.put o.dst (.pointer (some ⟨w.heap.size, 0, none⟩))) w') : wpList P ops Q (o :: rest) a w := by
  obtain ⟨D, hD, hs, hh, ha⟩ := h
  refine wpList_range_own w hg m t hop k e (int_keyed hk) ht rawR b n D hm hD (fun w' h1 h2 h3 => hK w' ⟨D, _, ?_, hs, hh, ha, fun i => hh i⟩ h2 h3)
  rw [← hs]
  rw [hs]
  exact hs ▸ h1
/-- the step of a range. -/
theorem map_next (hg : o.guard = none) (it : Operand) (hop : o.op = Op.next it false) (k : TypeId) (q : IntKind) (hk : P.underlying k = some (.int q)) (b r n : Nat) (f : Int → Option Value) (left : Int → Bool) (cnt : Nat)
    (hit : a.eval it = .pointer (some ⟨r, 0, none⟩)) (h : MapRange P k q w b r n f left cnt)
    (hDone : cnt = 0 → (∀ i, left i = false) → wpList P ops Q rest (a.put o.dst (.tuple #[.bool false])) w)
    (hMore : ∀ (i : Int) (v : Value) (w' : World) (cnt' : Nat), (Lit.int q i).wf = true → left i = true → f i = some v → MapRange P k q w' b r n f (fun j => left j && !decide (j = i)) cnt' → cnt' < cnt →
      w.grownBy w' (some r) → w'.heap.size = w.heap.size → (Instr.entry (.pointer (some ⟨r, 0, none⟩))).run P w' = .ok (.tuple #[.int q i, v]) w' → wpList P ops Q rest (a.put o.dst (.tuple #[.bool true, .int q i, v])) w') :
    wpList P ops Q (o :: rest) a w := by
  obtain ⟨D, L, h1, hs, hh, ha, hL⟩ := h
  refine wpList_plain hg fun K' hK' => ?_
  unfold Oper.wp
  rcases h1.next (int_keyed hk) o.type with ⟨h0, hl, hrun⟩ | ⟨key, v, kl, y, w', cnt', hkey, hlk, hv, hat, hrun, hrg, hlt, hgr, hsz, hen⟩
  · simp [execOp, hop, hit, hrun, Result.andThen]
    exact hK' _ _ (hDone h0 (fun i => by rw [← hL]; exact hl _))
  · obtain ⟨i, rfl, rfl, hwf⟩ := Maps.keyOf_int_inv hk hkey
    simp [execOp, hop, hit, hrun, Result.andThen]
    have hf : f i = some v := by
      cases hfi : f i with
      | none =>
        have hn : Maps.has D (.int q i) = false := by rw [hh, hfi]; rfl
        have e1 := hat (.held undef)
        rw [atKey_of_not_has hn] at e1
        have e2 := hat (.lit (.bool true))
        rw [atKey_of_not_has hn] at e2
        rw [← e1] at e2
        cases e2
      | some u =>
        have e1 := hat (.held undef)
        rw [ha i u hfi] at e1
        unfold rawR at hv
        cases hv
        injection e1 with e1
        rw [e1]
    refine hK' _ _ (hMore i v w' cnt' hwf (by rw [← hL]; exact hlk) hf ⟨D, _, hrg, hs, hh, ha, fun j => ?_⟩ hlt hgr hsz hen)
    rw [hL]
    by_cases hj : j = i
    · subst hj
      simp [Lit.sameKey]
    · simp [Lit.sameKey, hj]
end

section
variable {P : Program} {k e t : TypeId} {q : IntKind} {w w' : World} {n : Nat} {mb : Option Nat} {f : Int → Option Value}
/-- a map, nil or not. -/
def MapOpt (P : Program) (k : TypeId) (q : IntKind) (w : World) (mb : Option Nat) (n : Nat) (f : Int → Option Value) : Prop :=
  (mb = none ∧ n = 0 ∧ ∀ i, f i = none) ∨ ∃ b, mb = some b ∧ MapIs P k q w b n f
theorem MapOpt.below (h : MapOpt P k q w mb n f) (hb : Below w.heap.size w w') : MapOpt P k q w' mb n f := by
  rcases h with h | ⟨b, e, h⟩
  · exact .inl h
  · exact .inr ⟨b, e, h.kept (row := none) ⟨hb.os, hb.tape, hb.output, hb.size, fun i hi _ => hb.block i hi⟩ (by simp)⟩
theorem MapOpt.kept {row : Option Nat} (h : MapOpt P k q w mb n f) (hg : w.grownBy w' row) (hne : ∀ b, mb = some b → some b ≠ row) : MapOpt P k q w' mb n f := by
  rcases h with h | ⟨b, e, h⟩
  · exact .inl h
  · exact .inr ⟨b, e, h.kept hg (hne b e)⟩
variable {ops : Array Oper} {rest : List Oper} {o : Oper} {a : Act} {Q : Exit → Act → World → Prop}
theorem opt_look_ok (hg : o.guard = none) (m x : Operand) (t : TypeId) (hop : o.op = Op.lookup t m x true) (k e : TypeId) (q : IntKind) (hk : P.underlying k = some (.int q)) (ht : P.underlying t = some (.map k e)) (z : Value) (hz : (zeroValue e).run P w = .ok z w)
    (mb : Option Nat) (n : Nat) (f : Int → Option Value) (hm : a.eval m = .map mb) (h : MapOpt P k q w mb n f) (i : Int) (hx : a.eval x = .int q i) (hwf : (Lit.int q i).wf = true)
    (hK : wpList P ops Q rest (a.put o.dst (.tuple #[(f i).getD z, .bool (f i).isSome])) w) : wpList P ops Q (o :: rest) a w := by
  rcases h with ⟨rfl, _, hf⟩ | ⟨b, rfl, h⟩
  · refine wpList_plain hg fun K' hK' => ?_
    have hrun := Maps.look_nil (w := w) true (int_keyed hk) ht hz (keyOf_int_mk hk hwf)
    rw [hf i] at hK
    unfold Oper.wp
    simp [execOp, hop, hm, hx, hrun, Result.andThen]
    exact hK' _ _ hK
  · exact map_look_ok hg m x t hop k e q hk ht z hz b n f hm h i hx hwf hK
theorem opt_look (hg : o.guard = none) (m x : Operand) (t : TypeId) (hop : o.op = Op.lookup t m x false) (k e : TypeId) (q : IntKind) (hk : P.underlying k = some (.int q)) (ht : P.underlying t = some (.map k e)) (z : Value) (hz : (zeroValue e).run P w = .ok z w)
    (mb : Option Nat) (n : Nat) (f : Int → Option Value) (hm : a.eval m = .map mb) (h : MapOpt P k q w mb n f) (i : Int) (hx : a.eval x = .int q i) (hwf : (Lit.int q i).wf = true)
    (hK : wpList P ops Q rest (a.put o.dst ((f i).getD z)) w) : wpList P ops Q (o :: rest) a w := by
  rcases h with ⟨rfl, _, hf⟩ | ⟨b, rfl, h⟩
  · refine wpList_plain hg fun K' hK' => ?_
    have hrun := Maps.look_nil (w := w) false (int_keyed hk) ht hz (keyOf_int_mk hk hwf)
    rw [hf i] at hK
    unfold Oper.wp
    simp [execOp, hop, hm, hx, hrun, Result.andThen]
    exact hK' _ _ hK
  · exact map_look hg m x t hop k e q hk ht z hz b n f hm h i hx hwf hK
theorem opt_len (hg : o.guard = none) (m : Operand) (t : TypeId) (hop : o.op = Op.call { callee := Callee.builtin Builtin.len, args := #[m], argTypes := #[t] }) (k e : TypeId) (q : IntKind) (ht : P.underlying t = some (.map k e))
    (mb : Option Nat) (n : Nat) (f : Int → Option Value) (hm : a.eval m = .map mb) (h : MapOpt P k q w mb n f) (hK : wpList P ops Q rest (a.put o.dst (.int .i64 n)) w) : wpList P ops Q (o :: rest) a w := by
  rcases h with ⟨rfl, rfl, hf⟩ | ⟨b, rfl, h⟩
  · refine wpList_plain hg fun K' hK' => ?_
    unfold Oper.wp
    simp [execOp, hop, resolve, invoke, builtin, hm, Maps.len_nil (w := w) ht o.type, Result.andThen]
    exact hK' _ _ hK
  · exact map_len hg m t hop k e q ht b n f hm h hK
/-- 'len(m)' where its operation is guarded, and wanted. -/
theorem opt_len_if (m : Operand) (t : TypeId) (hop : o.op = Op.call { callee := Callee.builtin Builtin.len, args := #[m], argTypes := #[t] }) (k e : TypeId) (q : IntKind) (ht : P.underlying t = some (.map k e))
    (mb : Option Nat) (n : Nat) (f : Int → Option Value) (hm : a.eval m = .map mb) (h : MapOpt P k q w mb n f) (hw : Region.wanted o (yielded ops a.tmps) = true) (hK : wpList P ops Q rest (a.put o.dst (.int .i64 n)) w) : wpList P ops Q (o :: rest) a w := by
  refine wpList_step fun K hK' => ?_
  rw [if_pos hw]
  unfold Oper.wp
  rcases h with ⟨rfl, rfl, hf⟩ | ⟨b, rfl, D, hD, hs, _⟩
  · simp [execOp, hop, resolve, invoke, builtin, hm, Maps.len_nil (w := w) ht o.type, Result.andThen]
    exact hK' _ _ hK
  · simp [execOp, hop, resolve, invoke, builtin, hm, hD.len ht o.type, Result.andThen, hs]
    exact hK' _ _ hK
end

section
variable {P : Program} {k : TypeId} {q : IntKind} {w w' : World} {b b' n n' : Nat} {f : Int → Option Value}
/-- every key is a number of the kind. -/
theorem keys_int {R : Value → Option (DataW Value × List MemPlace)} {m : Nat} {D : DataW Value} (hk : P.underlying k = some (.int q)) (h : w.ownsMap P k R b m D) {l : Lit} (hl : Maps.has D l = true) : ∃ i, l = .int q i := by
  obtain ⟨es, clock, _, F, _, rfl⟩ := h
  obtain ⟨p, hp, hpl⟩ := List.any_eq_true.1 hl
  obtain ⟨v, hv⟩ := Maps.fit_keys F p (mem_sorted.1 hp)
  obtain ⟨i, _, e, _⟩ := Maps.keyOf_int_inv hk hv
  have e2 := WideAt.sameKey_eq hpl
  exact ⟨i, by rw [← e2, e]⟩
/-- how many entries hangs on what they are. -/
theorem MapIs.size_uniq (hk : P.underlying k = some (.int q)) (h : MapIs P k q w b n f) (h' : MapIs P k q w' b' n' f) : n = n' := by
  obtain ⟨D, hD, hs, hh, ha⟩ := h
  obtain ⟨D', hD', hs', hh', ha'⟩ := h'
  have e : D = D' := Maps.ext (hD.canon (int_keyed hk)) (hD'.canon (int_keyed hk)) (fun l => by
    cases h1 : Maps.has D l with
    | true =>
      obtain ⟨i, rfl⟩ := keys_int hk hD h1
      rw [hh', ← hh, h1]
    | false =>
      cases h2 : Maps.has D' l with
      | false => rfl
      | true =>
        obtain ⟨i, rfl⟩ := keys_int hk hD' h2
        rw [hh, ← hh', h2] at h1
        cases h1) (fun l z hl => by
      obtain ⟨i, rfl⟩ := keys_int hk hD hl
      rw [hh] at hl
      obtain ⟨v, hv⟩ := Option.isSome_iff_exists.1 hl
      rw [ha i v hv, ha' i v hv])
  rw [← hs, ← hs', e]
end

end Go.Proofs.YtdaedkolpfkdjaaGreat
end
