/-
  The last step of every law's row: a call that answers true and leaves whatever lay as it lay meets the row 'true; each argument reads as it did', whatever the arguments are.
  Small words that all walks of this seat share: what lay when a call began lies as it lay, step by step; blocks that are known whole; slices that read as values.
  The walks of the grid's small functions: side, has, Size, At; and of the document's In, At, Size.
  The walks of grid.New and of the document's New.
  The walks of a grid's twin and Set.
-/
import Derived.Test.YtdaedkolpfkdjaaGreatRows
import Derived.ProofKit
import Derived.OpenShut
import Derived.Lib.SmallJoins
import Derived.Test.YtdaedkolpfkdjaaGreatProg
import Derived.WalkKit
import Derived.WalkSpells
import Derived.WalkLawsBesides
import Derived.RegionTactic
import Derived.Deep.QuietTactic
import Derived.BigQuiet
import Derived.Deep.RegionHeld3
import Derived.Deep.DeepCutAuto
import Derived.Lib.Hide
import Derived.Maps.AppendAt
import Derived.Laws.CopyOwn
import Derived.Laws.EntriesVeiled
section
namespace Go.Proofs.YtdaedkolpfkdjaaGreat
open Go.ChangeShapes Go.WideShapes Go.ChangeAt Go.RowKit

theorem Tryz.own : ownKnob Tryz.prog.godebug = none := by kernel_rfl
theorem Tryz.laidOut : laidOutB Tryz.prog = true := by kernel_rfl

section
variable {H : Type} {enc : TypeId × Value → H} {P : Program}

/-- whatever was read reads behind the call as it did. -/
theorem trodAll_stays (hl : laidOutB P = true) {W W' : World} (hb : Below W.heap.size W W') : ∀ {ts : List TypeId} {vs : List Value} {ds : List (DataW H)} {ps : List MemPlace},
    (∀ t ∈ ts, P.readableRec t = true ∧ t < P.types.size) → DataW.TrodAll enc P W 0 (fun _ => true) true ts vs ds ps → (∀ x ∈ ps, x.block < W.heap.size) →
    ∀ sp : Nat → Bool, (∀ x ∈ ps, sp x.block = true) → DataW.TrodAll enc P W' 0 sp true ts vs ds ps
  | [], vs, ds, ps, _, h, _, sp, _ => by
    obtain ⟨rfl, rfl, rfl⟩ := trodAll_nil h
    exact trodAll_mk0
  | t :: ts, vs, ds, ps, hts, h, hlt, sp, hsp => by
    obtain ⟨v, vs', d, ds', p, q, rfl, rfl, rfl, h1, h2⟩ := trodAll_cons h
    obtain ⟨ht1, ht2⟩ := hts t (by simp)
    refine trodAll_cons_mk (WideElems.Trod_stays hl ht1 ht2 h1 (fun x hx => hb.same (hlt x (by simp [hx]))) (fun x hx => hsp x (by simp [hx]))) ?_
    exact trodAll_stays hl hb (fun t' ht' => hts t' (by simp [ht'])) h2 (fun x hx => hlt x (by simp [hx])) sp (fun x hx => hsp x (by simp [hx]))

theorem law_post {f : Func} {s : ChangeSpec} {apart fresh handsOn again : Bool} {W W' : World} {args : Array Value} {ds : List (DataW H)} {before : List MemPlace} {tb : TypeId}
    (hl : laidOutB P = true) (hts : ∀ t ∈ f.params.toList, P.readableRec t = true ∧ t < P.types.size) (hv : s.vars = [])
    (hW : DataW.Whole enc P f.params.toList s.vars apart W args.toList ds [] before) (hA : DataW.TrodAll enc P W 0 (fun _ => true) true f.params.toList args.toList ds before)
    (hs : s.fn H (ds ++ []) = { results := [.lit (.bool true)], args := ds }) (hr : f.resultTypes = #[tb]) (htb : P.underlying tb = some .bool) (hb : Below W.heap.size W W') :
    s.post enc P f apart fresh handsOn again W args (.bool true) W' := by
  have hlt : ∀ p ∈ before, p.block < W.heap.size := fun p hp => hW.lt p hp
  have hold : ∀ p ∈ before, (fun b => decide (b < W.heap.size)) p.block = true := fun p hp => by simpa using hlt p hp
  have hargs : ∀ sp : Nat → Bool, (∀ p ∈ before, sp p.block = true) → DataW.TrodAll enc P W' 0 sp true f.params.toList args.toList (s.fn H (ds ++ [])).args before := by
    intro sp hsp
    rw [hs]
    exact trodAll_stays hl hb hts hA hlt sp hsp
  have hres : ∀ (b : Nat) (sp : Nat → Bool) (hd : Bool), DataW.TrodAll enc P W' b sp hd f.resultTypes.toList ((Value.bool true).resultList f.resultTypes.size) (s.fn H (ds ++ [])).results [] := by
    intro b sp hd
    rw [hs, hr]
    exact trodAll_mk1 (shut_bool htb true)
  have hvars : ∀ sp : Nat → Bool, DataW.TrodVars enc P W' sp s.vars (s.fn H (ds ++ [])).vars [] := by
    intro sp
    rw [hs, hv]
    exact rfl
  refine ⟨ds, [], before, [], before, [], hW, hres _ _ _, hargs _ hold, hvars _, World.keptBut_mono (fun p hp => ⟨hp, ?_⟩) (hb.frame (· ∈ before)), fun _ => ?_⟩
  · exact Or.inr (.inl hp)
  · obtain ⟨_, _, _, _, _, hz, hn⟩ := hW
    refine ⟨?_, _, _, ([] ++ before) ++ [], ⟨[] ++ before, [], trodAll_append (hargs _ (fun _ _ => rfl)) (hres _ _ _), hvars _, rfl, ?_, ?_⟩, ?_⟩
    · exact ok_one hr rfl (okWide_bool_mk htb true)
    · intro b off hp
      have hin : MemPlace.cell b off ∈ before := by simpa using hp
      rw [hb.frozen (hlt _ hin)]
      exact hz b off hin
    · intro ha
      simpa using hn ha
    · intro p hp _
      simpa using hp
end

end Go.Proofs.YtdaedkolpfkdjaaGreat
end

section
namespace Go.Proofs.YtdaedkolpfkdjaaGreat
open Go.RowKit

theorem setCell_drewN (w : World) (n : Nat) (a : Addr) (v : Value) : (w.drewN n).setCell a v = (w.setCell a v).drewN n := rfl
theorem alloc_drewN (w : World) (n : Nat) (o : Obj) : (w.drewN n).alloc o = (w.alloc o).drewN n := rfl
attribute [go_sem] setCell_drewN alloc_drewN

theorem bstep {w W w' : World} (h : Below w.heap.size w W) (hb : Below W.heap.size W w') : Below w.heap.size w w' := h.trans (hb.mono h.size)
theorem bal {w W : World} (h : Below w.heap.size w W) (o : Obj) : Below w.heap.size w (W.alloc o) := h.alloc h.size o
theorem bre (w : World) : Below w.heap.size w w := Below.refl _ _
theorem bset {w W : World} (h : Below w.heap.size w W) {p : Addr} (hp : w.heap.size ≤ p.block) (v : Value) : Below w.heap.size w (W.setCell p v) := h.setCell hp v
theorem undrewX {w X w' : World} (h : Below X.heap.size X w') (hh : X.heap = w.heap) (ho : X.os = w.os) (ht : X.tape = w.tape) (hp : X.output = w.output) : Below w.heap.size w w' :=
  ⟨h.os.trans ho, h.tape.trans ht, h.output.trans hp, by rw [← hh]; exact h.size, fun b hb => by rw [← hh] at hb ⊢; exact h.block b hb⟩
theorem grown_of_below {a w : World} (h : Below a.heap.size a w) (row : Option Nat) : a.grownBy w row := ⟨h.os, h.tape, h.output, h.size, fun i hi _ => h.block i hi⟩
theorem below_of_grown {a w : World} (h : a.grownBy w none) : Below a.heap.size a w := (Below.refl _ a).grown h (Nat.le_refl _) (by simp)
theorem ownsRow_below {w w' : World} {base e size n : Nat} {v : Value} {xs : List Value} (h : w.ownsRow base e size v n xs) (hb : Below w.heap.size w w') : w'.ownsRow base e size v n xs :=
  h.kept (grown_of_below hb none) (by cases v.ownBlock <;> simp)
theorem ownsRow_base {w : World} {base base' e size n : Nat} {v : Value} {xs : List Value} (h : w.ownsRow base e size v n xs) (hb : base' ≤ base) : w.ownsRow base' e size v n xs := by
  refine ⟨h.1, ?_⟩
  rcases h.2 with h | ⟨g, cap, cur, e, hg, r⟩
  · exact .inl h
  · exact .inr ⟨g, cap, cur, e, by omega, r⟩
theorem own_ge {w : World} {base e size n : Nat} {v : Value} {xs : List Value} (h : w.ownsRow base e size v n xs) : ∀ g, v.ownBlock = some g → base ≤ g := fun g hg => (h.lt g hg).1
theorem ret_int {k : IntKind} {a b : Int} (h : a = b) : Ending.returned (.int k a) = .returned (.int k b) := by rw [h]
theorem ret_bool {a b : Bool} (h : a = b) : Ending.returned (.bool a) = .returned (.bool b) := by rw [h]

/-- a block that is known whole. -/
def Blk (w : World) (g : Nat) (t : TypeId) (cs : Array Value) : Prop := w.heap[g]? = some (.cells cs t (0, 0))
section
variable {w w' : World} {g : Nat} {t : TypeId} {cs : Array Value}
theorem Blk.lt (h : Blk w g t cs) : g < w.heap.size := (Array.getElem?_eq_some_iff.1 h).1
theorem Blk.cell (h : Blk w g t cs) (i : Nat) : w.cell? ⟨g, i, none⟩ = cs[i]? := cell_of_row w g i cs t (0, 0) h
theorem Blk.frozen (h : Blk w g t cs) (i : Nat) : w.frozen? ⟨g, i, none⟩ = false := by
  unfold Blk at h
  simp [World.frozen?, h]
theorem Blk.new (w : World) (t : TypeId) (cs : Array Value) : Blk (w.alloc (.cells cs t)) w.heap.size t cs := heap_alloc_new w _
theorem Blk.below {B : Nat} (h : Blk w g t cs) (hb : Below B w w') (hg : g < B) : Blk w' g t cs := (hb.block g hg).trans h
theorem Blk.belowS (h : Blk w g t cs) (hb : Below w.heap.size w w') : Blk w' g t cs := (hb.block g h.lt).trans h
theorem Blk.set_ (h : Blk w g t cs) (i : Nat) (u : Value) : Blk (w.setCell ⟨g, i, none⟩ u) g t (cs.setIfInBounds i u) := by
  unfold Blk at h ⊢
  simp [World.setCell, Array.getElem?_modify, h]
theorem Blk.far (h : Blk w g t cs) {p : Addr} (hp : g ≠ p.block) (u : Value) : Blk (w.setCell p u) g t cs := (Below.heap_setCell w p u g hp).trans h
theorem Blk.alloc (h : Blk w g t cs) (o : Obj) : Blk (w.alloc o) g t cs := (Below.heap_alloc w o g h.lt).trans h
theorem Blk.grown {row : Option Nat} (h : Blk w g t cs) (hb : w.grownBy w' row) (hg : some g ≠ row) : Blk w' g t cs := (hb.block g h.lt hg).trans h
theorem Blk.cellV (h : Blk w g t cs) {i : Nat} {v : Value} (hv : cs[i]? = some v) : w.cell? ⟨g, i, none⟩ = some v := (h.cell i).trans hv
theorem own_form {base e size n : Nat} {v : Value} {xs : List Value} (h : w.ownsRow base e size v n xs) : ∃ A cap, v = .slice A n cap ∧ n ≤ cap := by
  rcases h.2 with ⟨rfl, rfl⟩ | ⟨g, cap, cur, rfl, _, _, hc, _⟩
  · exact ⟨_, _, rfl, Nat.le_refl _⟩
  · exact ⟨_, _, rfl, hc⟩
theorem grown_setCell (w : World) (p : Addr) (u : Value) : w.grownBy (w.setCell p u) (some p.block) :=
  ⟨rfl, rfl, rfl, by simp [World.setCell], fun k _ hk => Below.heap_setCell _ _ _ k (fun e => hk (by rw [e]))⟩
theorem own_far {base e size n : Nat} {v : Value} {xs : List Value} (h : w.ownsRow base e size v n xs) {p : Addr} (hp : p.block < base) (u : Value) : (w.setCell p u).ownsRow base e size v n xs :=
  h.kept (grown_setCell w p u) (.inr (fun e' => by have := own_ge h _ e'; omega))
/-- a row that is full, as a block that is known whole, and back. -/
theorem own_blk {base e n : Nat} {xs : List Value} (h : w.ownsRow base e 1 (.slice (some ⟨g, 0, none⟩) n n) n xs) : base ≤ g ∧ Blk w g e xs.toArray := by
  rcases h.2 with ⟨e1, _⟩ | ⟨g', cap, cur, e1, hb, hg, h1, h2, h3, h4⟩
  · cases e1
  · injection e1 with e1 _ e3
    injection e1 with e1
    injection e1 with e1 _ _
    subst e1 e3
    refine ⟨hb, ?_⟩
    have : cur = xs.toArray := by
      rw [← h4, List.take_of_length_le (by simp; omega)]
    rw [← this]
    exact hg
theorem blk_own {base e n : Nat} {xs : List Value} (h : Blk w g e xs.toArray) (hb : base ≤ g) (hl : xs.length = n) (hm : n ≤ maxLen) : w.ownsRow base e 1 (.slice (some ⟨g, 0, none⟩) n n) n xs := by
  refine ⟨by omega, .inr ⟨g, n, xs.toArray, rfl, hb, h, Nat.le_refl _, hm, by simp; omega, ?_⟩⟩
  exact List.take_of_length_le (by simp; omega)
end

/-- a slice reads as these values, a cell each; it lies in a block below the heap's end. -/
def Rd (w : World) (A : Option Addr) (n : Nat) (vs : List Value) : Prop :=
  vs.length = n ∧ (0 < n → ∃ b off, A = some ⟨b, off, none⟩ ∧ b < w.heap.size ∧ ∀ k v, vs[k]? = some v → w.cell? ⟨b, off + k, none⟩ = some v)
theorem Rd.nil (w : World) (A : Option Addr) : Rd w A 0 [] := ⟨rfl, fun h => absurd h (by omega)⟩
theorem Rd.keep {w w' : World} {A : Option Addr} {n : Nat} {vs : List Value} (h : Rd w A n vs) (hs : w.heap.size ≤ w'.heap.size) (hk : ∀ b o v, w.cell? ⟨b, o, none⟩ = some v → w'.cell? ⟨b, o, none⟩ = some v) : Rd w' A n vs :=
  ⟨h.1, fun hn => by
    obtain ⟨b, off, e, hb, hc⟩ := h.2 hn
    exact ⟨b, off, e, by omega, fun k v hv => hk _ _ _ (hc k v hv)⟩⟩
theorem Rd.below {w w' : World} {A : Option Addr} {n : Nat} {vs : List Value} (h : Rd w A n vs) (hb : Below w.heap.size w w') : Rd w' A n vs :=
  h.keep hb.size (fun b o _ hc => (hb.cell (p := ⟨b, o, none⟩) (block_lt_of_cell hc)).trans hc)
/-- the slice lies in memory from lo on. -/
def Fr (lo : Nat) (A : Option Addr) : Prop := ∀ a, A = some a → lo ≤ a.block
theorem Fr.own {w : World} {base e size n m cap : Nat} {A : Option Addr} {xs : List Value} (h : w.ownsRow base e size (.slice A m cap) n xs) : Fr base A := fun a ea => by
  subst ea
  rcases h.2 with ⟨e1, _⟩ | ⟨g, _, _, e1, hg, _⟩
  · cases e1
  · injection e1 with e1 _ _
    injection e1 with e1
    subst e1
    exact hg
theorem Fr.mono {lo lo' : Nat} {A : Option Addr} (h : Fr lo A) (hl : lo' ≤ lo) : Fr lo' A := fun a e => Nat.le_trans hl (h a e)
theorem Rd.lt {w : World} {A : Option Addr} {n : Nat} {vs : List Value} (h : Rd w A n vs) (hn : 0 < n) : ∀ a, A = some a → a.block < w.heap.size := fun a e => by
  obtain ⟨b, off, e', hb, _⟩ := h.2 hn
  rw [e'] at e
  cases e
  exact hb
theorem Rd.far' {w : World} {A : Option Addr} {n : Nat} {vs : List Value} (h : Rd w A n vs) {p : Addr} (hA : 0 < n → ∀ a, A = some a → a.block ≠ p.block) (u : Value) : Rd (w.setCell p u) A n vs :=
  ⟨h.1, fun hn => by
    obtain ⟨b, off, e, hb, hc⟩ := h.2 hn
    exact ⟨b, off, e, by simpa [World.setCell] using hb, fun k v hv => (World.cell?_setCell_other w p ⟨b, off + k, none⟩ u (fun e' => by subst e'; exact hA hn _ e rfl)).trans (hc k v hv)⟩⟩
theorem Rd.far {w : World} {A : Option Addr} {n : Nat} {vs : List Value} (h : Rd w A n vs) {p : Addr} (hA : ∀ a, A = some a → a.block ≠ p.block) (u : Value) : Rd (w.setCell p u) A n vs :=
  ⟨h.1, fun hn => by
    obtain ⟨b, off, e, hb, hc⟩ := h.2 hn
    exact ⟨b, off, e, by simpa [World.setCell] using hb, fun k v hv => (World.cell?_setCell_other w p ⟨b, off + k, none⟩ u (fun e' => by subst e'; exact hA _ e rfl)).trans (hc k v hv)⟩⟩
theorem Rd.of_own {w : World} {base e n cap : Nat} {A : Option Addr} {vs : List Value} (h : w.ownsRow base e 1 (.slice A n cap) n vs) : Rd w A n vs := by
  refine ⟨by simpa using h.1, fun hn => ?_⟩
  rcases h.2 with ⟨e1, e2⟩ | ⟨g, cap', cur, e1, hb, hg, _⟩
  · omega
  · injection e1 with e1 _ _
    subst e1
    refine ⟨g, 0, rfl, (Array.getElem?_eq_some_iff.1 hg).1, fun k v hk => ?_⟩
    have hkn : k < n * 1 := by
      have := (List.getElem?_eq_some_iff.1 hk).1
      have h1 := h.1
      omega
    have hc := h.cells (g := g) rfl k v hk
    simp only [Addr.add] at hc
    split at hc
    · rename_i h0; subst h0; exact hc
    · exact hc

end Go.Proofs.YtdaedkolpfkdjaaGreat
end

section
namespace Go.Proofs.YtdaedkolpfkdjaaGreat.Gr
open Go.RowKit

def sideB (n : Int) : Bool := decide (1 ≤ n ∧ n ≤ 128)
def coordB (n : Int) : Bool := decide (-1048576 ≤ n ∧ n ≤ 1048576)
/-- has a grid of W by H this place? -/
def hasB (W H : Nat) (x y : Int) : Bool := decide (0 ≤ x ∧ x < W ∧ 0 ≤ y ∧ y < H)
/-- the pixel of a place, 0 where there is none. -/
def gat (W H : Nat) (px : List Int) (x y : Int) : Int := if hasB W H x y then px.getD (y.toNat * W + x.toNat) 0 else 0
def U8 (l : List Int) : List Value := l.map (Value.int .u8)

theorem has_iff (W H : Nat) (x y : Int) : hasB W H x y = true ↔ 0 ≤ x ∧ x < W ∧ 0 ≤ y ∧ y < H := by simp [hasB]
theorem has_idx {W H : Nat} {x y : Int} (h : hasB W H x y = true) : y.toNat * W + x.toNat < W * H := by
  have h := (has_iff W H x y).1 h
  have h1 : y.toNat + 1 ≤ H := by omega
  have h2 : (y.toNat + 1) * W ≤ H * W := Nat.mul_le_mul_right W h1
  rw [Nat.add_mul, Nat.one_mul, Nat.mul_comm H W] at h2
  omega

set_option maxHeartbeats 400000 in
theorem side_any (n : Int) (w : World) : Calls Tryz.prog 102 #[.int .i64 n] w fun e w' => e = .returned (.bool (sideB n)) ∧ w = w' := by
  by_cases h1 : 1 ≤ n
  all_goals by_cases h2 : n ≤ 128
  all_goals try (exfalso; omega)
  all_goals
    go_enter Tryz.func102, Tryz.ntmps102
    go_wp2
    go_ret
    simp [sideB, h1, h2]
set_option maxHeartbeats 400000 in
theorem coord_any (n : Int) (w : World) : Calls Tryz.prog 103 #[.int .i64 n] w fun e w' => e = .returned (.bool (coordB n)) ∧ w = w' := by
  by_cases h1 : -1048576 ≤ n
  all_goals by_cases h2 : n ≤ 1048576
  all_goals try (exfalso; omega)
  all_goals
    go_enter Tryz.func103, Tryz.ntmps103
    go_wp2
    go_ret
    simp [coordB, h1, h2]
set_option maxHeartbeats 1000000 in
theorem has_any (W H : Nat) (x y : Int) (A : Option Addr) (n c : Nat) (w : World) :
    Calls Tryz.prog 99 #[.agg #[.int .i64 W, .int .i64 H, .slice A n c], .int .i64 x, .int .i64 y] w fun e w' => e = .returned (.bool (hasB W H x y)) ∧ w' = w.alloc (.cells #[.int .i64 W, .int .i64 H, .slice A n c] 75) := by
  by_cases h1 : 0 ≤ x
  all_goals by_cases h2 : x < W
  all_goals by_cases h3 : 0 ≤ y
  all_goals by_cases h4 : y < H
  all_goals try (exfalso; omega)
  all_goals
    go_enter Tryz.func99, Tryz.ntmps99
    go_wp2
    go_ret
    simp [hasB, h1, h2, h3, h4]

set_option maxHeartbeats 1000000 in
theorem at_any (W H : Nat) (px : List Int) (x y : Int) (A : Option Addr) (n c : Nat) (w : World) (hn : n = W * H) (hW : W ≤ 128) (hH : H ≤ 128) (hr : Rd w A n (U8 px)) :
    Calls Tryz.prog 37 #[.agg #[.int .i64 W, .int .i64 H, .slice A n c], .int .i64 x, .int .i64 y] w fun e w' => e = .returned (.int .u8 (gat W H px x y)) ∧ Below w.heap.size w w' := by
  subst hn
  cases hh : hasB W H x y
  · have hv : gat W H px x y = 0 := by simp [gat, hh]
    have HV := Lib.hid hv
    have HR := Lib.hid hr
    clear hr hv
    go_enter Tryz.func37, Tryz.ntmps37
    go_wp2_with (go_at_call 99; refine (has_any _ _ _ _ _ _ _ _).mono ?_; rintro e w' ⟨rfl, rfl⟩)
    go_ret
    exact ⟨ret_int HV.out.symm, bal (bal (bre w) _) _⟩
  · have hi := has_idx hh
    have hb := (has_iff W H x y).1 hh
    obtain ⟨b, off, rfl, hlt, hc⟩ := hr.2 (by omega)
    have hlen : px.length = W * H := by simpa [U8] using hr.1
    have hcell := hc (y.toNat * W + x.toNat) (.int .u8 (px.getD (y.toNat * W + x.toNat) 0)) (by
      simp only [U8, List.getElem?_map]
      rw [List.getElem?_eq_getElem (by omega), List.getD_eq_getElem?_getD, List.getElem?_eq_getElem (by omega)]
      rfl)
    have hv : gat W H px x y = px.getD (y.toNat * W + x.toNat) 0 := by unfold gat; rw [if_pos hh]
    have hm : y * (W : Int) + x = ((y.toNat * W + x.toNat : Nat) : Int) := by
      rw [Int.natCast_add, Int.natCast_mul, Int.toNat_of_nonneg hb.2.2.1, Int.toNat_of_nonneg hb.1]
    have m1 : 0 ≤ y * (W : Int) := Int.mul_nonneg hb.2.2.1 (by omega)
    have m2 : y * (W : Int) ≤ 16384 := by
      have : y * (W : Int) ≤ 128 * 128 := Int.mul_le_mul (by omega) (by omega) (by omega) (by omega)
      omega
    have m3 : y * (W : Int) + x < ((W * H : Nat) : Int) := by rw [hm]; omega
    have m4 : (y * (W : Int) + x).toNat = y.toNat * W + x.toNat := by rw [hm]; exact Int.toNat_natCast _
    rw [← m4] at hcell
    have HV := Lib.hid hv
    have HM := Lib.hid m4
    clear hr hv hc hm m4 hi
    go_enter Tryz.func37, Tryz.ntmps37
    go_wp2_with (go_at_call 99; refine (has_any _ _ _ _ _ _ _ _).mono ?_; rintro e w' ⟨rfl, rfl⟩)
    go_ret
    exact ⟨ret_int (by rw [HV.out, ← HM.out, List.getD_eq_getElem?_getD]), bal (bal (bre w) _) _⟩

set_option maxHeartbeats 400000 in
theorem size_any (W H : Int) (A : Option Addr) (n c : Nat) (w : World) :
    Calls Tryz.prog 36 #[.agg #[.int .i64 W, .int .i64 H, .slice A n c]] w fun e w' => e = .returned (.tuple #[.int .i64 W, .int .i64 H]) ∧ Below w.heap.size w w' := by
  go_enter Tryz.func36, Tryz.ntmps36
  go_wp2_with fail
  go_quiet (fail)
  go_wp2_with fail
  go_ret2
  exact ⟨rfl, below_drewN (bal (bre w) _) _⟩

end Go.Proofs.YtdaedkolpfkdjaaGreat.Gr
end

section
namespace Go.Proofs.YtdaedkolpfkdjaaGreat.Gr
open Go.RowKit

theorem Tryz.infoPx : (Tryz.prog.info? 79).map (fun i => (i.zero, i.size, i.bytes)) = some (some (.int .u8 0), 1, 1) := by kernel_rfl

set_option maxHeartbeats 400000 in
theorem new_no (a b p : Int) (w : World) (h : (sideB a && sideB b) = false) :
    Calls Tryz.prog 70 #[.int .i64 a, .int .i64 b, .int .u8 p] w fun e w' => e = .returned (.tuple #[.agg #[.int .i64 0, .int .i64 0, .slice none 0 0], .int .i64 17]) ∧ Below w.heap.size w w' := by
  cases ha : sideB a
  · clear h
    go_enter Tryz.func70, Tryz.ntmps70
    go_wp2_with (go_at_call 102; refine (side_any _ _).mono ?_; rintro e w' ⟨rfl, rfl⟩)
    exact bodyPost_ret (v := .tuple #[.agg #[.int .i64 0, .int .i64 0, .slice none 0 0], .int .i64 17]) (by simp [results, Tryz.results70, go_sem]) rfl ⟨rfl, bal (bre w) _⟩
  · have hb : sideB b = false := by simpa [ha] using h
    clear h
    go_enter Tryz.func70, Tryz.ntmps70
    go_wp2_with (go_at_call 102; refine (side_any _ _).mono ?_; rintro e w' ⟨rfl, rfl⟩)
    exact bodyPost_ret (v := .tuple #[.agg #[.int .i64 0, .int .i64 0, .slice none 0 0], .int .i64 17]) (by simp [results, Tryz.results70, go_sem]) rfl ⟨rfl, bal (bre w) _⟩

theorem mul_le_128 {W H : Nat} (hW : W ≤ 128) (hH : H ≤ 128) : W * H ≤ 16384 := Nat.mul_le_mul hW hH

set_option maxHeartbeats 1000000 in
theorem new_any (W H : Nat) (p : Int) (w : World) (hW : 1 ≤ W ∧ W ≤ 128) (hH : 1 ≤ H ∧ H ≤ 128) :
    Calls Tryz.prog 70 #[.int .i64 W, .int .i64 H, .int .u8 p] w fun e w' => ∃ A cap, e = .returned (.tuple #[.agg #[.int .i64 W, .int .i64 H, .slice A (W * H) cap], .int .i64 0]) ∧ Rd w' A (W * H) (U8 (List.replicate (W * H) p)) ∧ W * H ≤ cap ∧ Fr w.heap.size A ∧ Below w.heap.size w w' := by
  have hWH := mul_le_128 hW.2 hH.2
  have sW : sideB (W : Int) = true := by simp [sideB]; omega
  have sH : sideB (H : Int) = true := by simp [sideB]; omega
  have m0 : (W : Int) * (H : Int) = ((W * H : Nat) : Int) := (Int.natCast_mul W H).symm
  have m1 : 0 ≤ (W : Int) * (H : Int) := by rw [m0]; omega
  have m2 : (W : Int) * (H : Int) ≤ 16384 := by rw [m0]; omega
  have M0 := Lib.hid m0
  clear m0
  obtain ⟨i0, hi, hz0, hz1, hz2⟩ := info_parts Tryz.infoPx
  obtain ⟨n, hn⟩ : ∃ n, W * H = n := ⟨_, rfl⟩
  have HN := Lib.hid hn
  have hn1 : n ≤ 16384 := by omega
  clear hn hWH
  go_enter Tryz.func70, Tryz.ntmps70
  go_wp2_with (first
    | (go_at_call 102; refine (side_any _ _).mono ?_; rintro e w' ⟨rfl, rfl⟩)
    | (at_make; refine wpList_make_full _ rfl _ _ 73 rfl (w.heap.size + 1) 79 i0 _ 1 Tryz.underlying73 hi hz0 hz1 _ _ _ _ n rfl rfl (by rw [M0.out, HN.out]) (by rw [M0.out, HN.out]) (by rw [hz2]; omega) (by simp only [maxLen]; omega) (by simp) ?_; intro w1 hown hg1; have HO := Lib.hid hown; have hB1 : Below (w.heap.size + 1) (w.alloc (.cells #[.int .i64 0, .int .i64 0, .slice none 0 0] 75)) w1 := (Below.refl _ _).grown hg1 (by simp) (by simp); clear hown hg1))
  have hst : w1.ownsRow (w.heap.size + 1) 79 1 (.slice (some ⟨w.heap.size + 1, 0, none⟩) n n) n (madeCells (Value.int .u8 0).cells (n * 1)).toList := by simpa using HO.out
  have HST := Lib.hid hst
  clear hst
  go_loopw [25] (fun i wr => ∃ k : Nat, i = .int .i64 k ∧ k ≤ n ∧ (∃ vs, wr.ownsRow (w.heap.size + 1) 79 1 (.slice (some ⟨w.heap.size + 1, 0, none⟩) n n) n vs ∧ vs.take k = List.replicate k (.int .u8 p)) ∧ Below (w.heap.size + 1) (w.alloc (.cells #[.int .i64 0, .int .i64 0, .slice none 0 0] 75)) wr) (fun i _ => n - (intOf i).toNat)
  case atStart => exact ⟨0, rfl, by omega, ⟨_, HST.out, by simp⟩, hB1⟩
  case round =>
    obtain ⟨k, rfl, hk, ⟨vs, hown, htk⟩, hB⟩ := hrel
    have HT := Lib.hid htk
    have HOW := Lib.hid hown
    have hlen : vs.length = n := by simpa using hown.1
    by_cases hlt : k < n
    · obtain ⟨v, hv⟩ : ∃ v, vs[k]? = some v := ⟨_, List.getElem?_eq_getElem (by omega)⟩
      have hc : wr.cell? ⟨w.heap.size + 1, k, none⟩ = some v := (hown.cellAt k (by omega)).trans hv
      have hf : wr.frozen? ⟨w.heap.size + 1, k, none⟩ = false := hown.frozenAt k
      have k0 : (0 : Int) ≤ (k : Int) := by omega
      have k1 : (k : Int) < (n : Int) := by omega
      have HB := Lib.hid hB
      have HV := Lib.hid hv
      have HLN := Lib.hid hlen
      clear hB hown htk hv hlen
      go_wp2_with fail
      go_roundw
      case rel =>
        refine ⟨k + 1, by go_num, by omega, ⟨_, (HOW.out.stored k _).1, ?_⟩, HB.out.setCell (p := ⟨w.heap.size + 1, k, none⟩) (Nat.le_refl _) _⟩
        rw [List.take_set, List.take_add_one, HT.out, HV.out, List.replicate_succ', List.set_append_right _ _ (by simp)]
        simp
      case measure => simp [intOf]; omega
    · obtain rfl : k = n := by omega
      have hall : vs = List.replicate k (.int .u8 p) := by rw [← htk, List.take_of_length_le (by omega)]
      have q0 : wr.cell? ⟨w.heap.size, 0, none⟩ = some (.int .i64 0) := (hB.cell (p := ⟨w.heap.size, 0, none⟩) (by dsimp only; omega)).trans (by go_simp)
      have q1 : wr.cell? ⟨w.heap.size, 1, none⟩ = some (.int .i64 0) := (hB.cell (p := ⟨w.heap.size, 1, none⟩) (by dsimp only; omega)).trans (by go_simp)
      have q2 : wr.cell? ⟨w.heap.size, 2, none⟩ = some (.slice none 0 0) := (hB.cell (p := ⟨w.heap.size, 2, none⟩) (by dsimp only; omega)).trans (by go_simp)
      have f0 : wr.frozen? ⟨w.heap.size, 0, none⟩ = false := (hB.frozen (p := ⟨w.heap.size, 0, none⟩) (by dsimp only; omega)).trans (by go_simp)
      have f1 : wr.frozen? ⟨w.heap.size, 1, none⟩ = false := (hB.frozen (p := ⟨w.heap.size, 1, none⟩) (by dsimp only; omega)).trans (by go_simp)
      have f2 : wr.frozen? ⟨w.heap.size, 2, none⟩ = false := (hB.frozen (p := ⟨w.heap.size, 2, none⟩) (by dsimp only; omega)).trans (by go_simp)
      have HB := Lib.hid hB
      have HA := Lib.hid hall
      clear hB hown htk hlen hall
      go_wp2_with fail
      refine bodyPost_ret (v := .tuple #[.agg #[.int .i64 W, .int .i64 H, .slice (some ⟨w.heap.size + 1, 0, none⟩) k k], .int .i64 0]) (by simp [results, Tryz.results70, go_sem, q0, q1, q2]) rfl ⟨some ⟨w.heap.size + 1, 0, none⟩, k, by rw [HN.out], ?_, by rw [HN.out]; omega, fun a ea => by cases ea; dsimp only; omega, ?_⟩
      · rw [HN.out]
        have hr := Rd.of_own HOW.out
        rw [HA.out] at hr
        have hne : ∀ a : Addr, some (⟨w.heap.size + 1, 0, none⟩ : Addr) = some a → a.block ≠ w.heap.size := fun a e => by cases e; dsimp only; omega
        have hu : U8 (List.replicate k p) = List.replicate k (.int .u8 p) := by simp [U8]
        rw [hu]
        exact ((hr.far (p := ⟨w.heap.size, 0, none⟩) hne _).far (p := ⟨w.heap.size, 1, none⟩) hne _).far (p := ⟨w.heap.size, 2, none⟩) hne _
      · exact bset (p := ⟨_, _, _⟩) (bset (p := ⟨_, _, _⟩) (bset (p := ⟨_, _, _⟩) ((bal (bre w) _).trans (HB.out.mono (by omega))) (Nat.le_refl _) _) (Nat.le_refl _) _) (Nat.le_refl _) _

end Go.Proofs.YtdaedkolpfkdjaaGreat.Gr
end

section
namespace Go.Proofs.YtdaedkolpfkdjaaGreat.Gr
open Go.RowKit

set_option maxHeartbeats 1000000 in
theorem twin_any (W H : Int) (A : Option Addr) (n c : Nat) (px : List Int) (w : World) (hn : n ≤ 16384) (hr : Rd w A n (U8 px)) :
    Calls Tryz.prog 100 #[.agg #[.int .i64 W, .int .i64 H, .slice A n c]] w fun e w' => ∃ g, e = .returned (.agg #[.int .i64 W, .int .i64 H, .slice (some ⟨g, 0, none⟩) n n]) ∧ w'.ownsRow w.heap.size 79 1 (.slice (some ⟨g, 0, none⟩) n n) n (U8 px) ∧ Below w.heap.size w w' := by
  obtain ⟨i0, hi, hz0, hz1, hz2⟩ := info_parts Tryz.infoPx
  have HR := Lib.hid hr
  clear hr
  go_enter Tryz.func100, Tryz.ntmps100
  go_upto_region 2 with (at_make; refine wpList_make_full _ rfl _ _ 73 rfl (w.heap.size + 2) 79 i0 _ 1 Tryz.underlying73 hi hz0 hz1 _ _ _ _ n rfl rfl rfl rfl (by rw [hz2]; omega) (by simp only [maxLen]; omega) (by simp) ?_; intro w1 hown hg1; have HO := Lib.hid hown; have hB1 : Below (w.heap.size + 2) ((w.alloc (.cells #[.int .i64 W, .int .i64 H, .slice A n c] 75)).alloc (.cells #[.int .i64 0, .int .i64 0, .slice none 0 0] 75)) w1 := (Below.refl _ _).grown hg1 (by simp) (by simp); clear hown hg1; have q2 : w1.cell? ⟨w.heap.size, 2, none⟩ = some (.slice A n c) := (hB1.cell (p := ⟨w.heap.size, 2, none⟩) (by dsimp only; omega)).trans (by go_simp))
  obtain ⟨CUR, hCUR⟩ : ∃ CUR, (madeCells (Value.int .u8 0).cells (n * 1)).toList = CUR := ⟨_, rfl⟩
  have hblk : w1.heap[w.heap.size + 1 + 1]? = some (.cells CUR.toArray 79 (0, 0)) := by rw [← hCUR]; have := (own_blk HO.out).2; simpa [Blk] using this
  have hcl : CUR.length = n := by rw [← hCUR]; have := HO.out.1; simpa using this
  have HBK := Lib.hid hblk
  have HCL := Lib.hid hcl
  obtain ⟨CS, hCS⟩ : ∃ CS, U8 px = CS := ⟨_, rfl⟩
  have HCS := Lib.hid hCS
  clear hblk hcl hCUR hCS
  have hisz : (Tryz.prog.info? 79).map (·.size) = some 1 := by kernel_rfl
  have HIS := Lib.hid hisz
  clear hisz
  apply wp_region_lit
  iterate 9 (first | go_step | go_upon)
  have hlen : CS.length = n := by rw [← HCS.out]; exact HR.out.1
  refine wpList_copy_splice rfl (.tmp 8) (.tmp 10) 73 73 rfl 79 Tryz.underlying73 HIS.out (some ⟨w.heap.size + 1 + 1, 0, none⟩) A n n n c rfl rfl (w.heap.size + 1 + 1) 0 CUR 79 HBK.out CS ?hn ?hpos ?hfit ?h1 (w.heap.size + 2) _ hB1 (by omega) ?_
  case hn => rw [hlen]; exact (Nat.min_self n).symm
  case hpos =>
    intro h0
    refine ⟨rfl, ?_⟩
    obtain ⟨b, off, e, hb, hc⟩ := HR.out.2 (by omega)
    refine ⟨_, e, fun j v hj => ?_⟩
    rw [HCS.out] at hc
    have hcj := hc j v hj
    have hlt := block_lt_of_cell hcj
    have : w1.cell? ⟨b, off + j, none⟩ = some v := by
      rw [hB1.cell (p := ⟨b, off + j, none⟩) (by dsimp only at hlt ⊢; omega), World.cell?_alloc_lt _ _ _ (by dsimp only at hlt ⊢; simp; omega), World.cell?_alloc_lt _ _ _ hlt]
      exact hcj
    unfold Addr.add
    split
    · rename_i e0; subst e0; exact this
    · exact this
  case hfit => rw [hlen, HCL.out]; omega
  case h1 => rw [← HCS.out]; intro v hv; simp [U8] at hv; obtain ⟨x, _, rfl⟩ := hv; rfl
  intro w2 hg2 hB2
  have hg3 : Blk w2 (w.heap.size + 1 + 1) 79 (U8 px).toArray := by
    have h := hg2.out
    have e : splice CUR 0 CS = U8 px := by unfold splice; rw [HCS.out]; simp [HCL.out, hlen]
    rw [e] at h
    exact h
  have HG := Lib.hid hg3
  have HLN := Lib.hid hlen
  have r0 : w2.cell? ⟨w.heap.size, 0, none⟩ = some (.int .i64 W) := (hB2.cell (p := ⟨w.heap.size, 0, none⟩) (by dsimp only; omega)).trans (by go_simp)
  have r1 : w2.cell? ⟨w.heap.size, 1, none⟩ = some (.int .i64 H) := (hB2.cell (p := ⟨w.heap.size, 1, none⟩) (by dsimp only; omega)).trans (by go_simp)
  have s0 : Blk w2 (w.heap.size + 1) 75 #[.int .i64 0, .int .i64 0, .slice none 0 0] := (hB2.block (w.heap.size + 1) (by omega)).trans (by have := Blk.new (w.alloc (.cells #[.int .i64 W, .int .i64 H, .slice A n c] 75)) 75 #[.int .i64 0, .int .i64 0, .slice none 0 0]; rw [World.size_alloc] at this; exact this)
  have d0 := s0.cellV (i := 0) rfl
  have d1 := s0.cellV (i := 1) rfl
  have d2 := s0.cellV (i := 2) rfl
  have f0 := s0.frozen 0
  have f1 := s0.frozen 1
  have f2 := s0.frozen 2
  have HBB : Hid (Below w.heap.size w w2) := (bal (bal (bre w) _) _).trans (hB2.mono (by omega))
  clear hg2 hg3 hlen s0 hB2 hB1 q2
  go_wp2_with fail
  refine bodyPost_ret (v := .agg #[.int .i64 W, .int .i64 H, .slice (some ⟨w.heap.size + 1 + 1, 0, none⟩) n n]) (by simp [results, Tryz.results100, go_sem, d0, d1, d2]) rfl ⟨w.heap.size + 1 + 1, rfl, ?_, ?_⟩
  · refine ownsRow_base (base := w.heap.size + 2) ?_ (by omega)
    exact own_far (p := ⟨w.heap.size + 1, 2, none⟩) (own_far (p := ⟨w.heap.size + 1, 1, none⟩) (own_far (p := ⟨w.heap.size + 1, 0, none⟩) (blk_own HG.out (Nat.le_refl _) (HCS.out ▸ HLN.out) (by simp only [maxLen]; omega)) (by dsimp only; omega) _) (by dsimp only; omega) _) (by dsimp only; omega) _
  · exact bset (p := ⟨_, _, _⟩) (bset (p := ⟨_, _, _⟩) (bset (p := ⟨_, _, _⟩) HBB.out (by dsimp only; omega) _) (by dsimp only; omega) _) (by dsimp only; omega) _

def gset (W H : Nat) (px : List Int) (x y p : Int) : List Int := if hasB W H x y then px.set (y.toNat * W + x.toNat) p else px
set_option maxHeartbeats 1000000 in
theorem set_any (W H : Nat) (px : List Int) (x y p : Int) (A : Option Addr) (n c : Nat) (w : World) (hn : n = W * H) (hW : W ≤ 128) (hH : H ≤ 128) (hc : n ≤ c) (hr : Rd w A n (U8 px)) :
    Calls Tryz.prog 42 #[.agg #[.int .i64 W, .int .i64 H, .slice A n c], .int .i64 x, .int .i64 y, .int .u8 p] w fun e w' => ∃ A' c', e = .returned (.agg #[.int .i64 W, .int .i64 H, .slice A' n c']) ∧ Rd w' A' n (U8 (gset W H px x y p)) ∧ n ≤ c' ∧ (A' = A ∨ Fr w.heap.size A') ∧ Below w.heap.size w w' := by
  have hnm := mul_le_128 hW hH
  rw [← hn] at hnm
  have HN := Lib.hid hn
  have HR := Lib.hid hr
  clear hr hn
  cases hh : hasB W H x y
  · have hv : gset W H px x y p = px := by simp [gset, hh]
    have HV := Lib.hid hv
    clear hv
    go_enter Tryz.func42, Tryz.ntmps42
    go_wp2_with (go_at_call 99; refine (has_any _ _ _ _ _ _ _ _).mono ?_; rintro e w' ⟨rfl, rfl⟩)
    refine bodyPost_ret (v := .agg #[.int .i64 W, .int .i64 H, .slice A n c]) (by simp [results, Tryz.results42, go_sem]) rfl ⟨A, c, rfl, ?_, hc, .inl rfl, ?_⟩
    · rw [HV.out]; exact HR.out.below (bal (bal (bal (bre w) _) _) _)
    · exact bal (bal (bal (bre w) _) _) _
  · have hi := has_idx hh
    have hb := (has_iff W H x y).1 hh
    have hm : y * (W : Int) + x = ((y.toNat * W + x.toNat : Nat) : Int) := by
      rw [Int.natCast_add, Int.natCast_mul, Int.toNat_of_nonneg hb.2.2.1, Int.toNat_of_nonneg hb.1]
    have m1 : 0 ≤ y * (W : Int) := Int.mul_nonneg hb.2.2.1 (by omega)
    have m2 : y * (W : Int) ≤ 16384 := by
      have : y * (W : Int) ≤ 128 * 128 := Int.mul_le_mul (by omega) (by omega) (by omega) (by omega)
      omega
    have m3 : y * (W : Int) + x < (n : Int) := by rw [hm, HN.out]; omega
    have m4 : (y * (W : Int) + x).toNat = y.toNat * W + x.toNat := by rw [hm]; exact Int.toNat_natCast _
    have hv : gset W H px x y p = px.set (y * (W : Int) + x).toNat p := by unfold gset; rw [if_pos hh, m4]
    have hidx : (y * (W : Int) + x).toNat < n := by rw [m4, HN.out]; exact hi
    have HV := Lib.hid hv
    clear hv hm m4 hi
    go_enter Tryz.func42, Tryz.ntmps42
    go_upto_region 4 with (first
      | (go_at_call 99; refine (has_any _ _ _ _ _ _ _ _).mono ?_; rintro e w' ⟨rfl, rfl⟩)
      | (go_at_call 100; refine (twin_any _ _ _ _ _ px _ hnm (HR.out.below (bal (bal (bal (bre w) _) _) _))).mono ?_; rintro e w1 ⟨g, rfl, hown, hb1⟩; have HO := Lib.hid hown; have HB1 := Lib.hid hb1; have z1 := hb1.size; simp only [World.size_alloc] at z1; clear hown hb1))
    have hgl := (own_blk HO.out).2.lt
    have hge := (own_blk HO.out).1
    simp only [World.size_alloc] at hge
    have hres : Blk w1 (w.heap.size + 1) 75 #[.int .i64 0, .int .i64 0, .slice none 0 0] := by
      refine Blk.below (B := w.heap.size + 1 + 1 + 1) ?_ (HB1.out.mono (by simp)) (by omega)
      have := (Blk.new (w.alloc (.cells #[.int .i64 W, .int .i64 H, .slice A n c] 75)) 75 #[.int .i64 0, .int .i64 0, .slice none 0 0]).alloc (.cells #[.int .i64 W, .int .i64 H, .slice A n c] 75)
      rw [World.size_alloc] at this
      exact this
    have hbx := Blk.new w1 75 #[.int .i64 W, .int .i64 H, .slice (some ⟨g, 0, none⟩) n n]
    have hpx := (HO.out.alloc (.cells #[.int .i64 W, .int .i64 H, .slice (some ⟨g, 0, none⟩) n n] 75))
    have hBX : Below w.heap.size w (w1.alloc (.cells #[.int .i64 W, .int .i64 H, .slice (some ⟨g, 0, none⟩) n n] 75)) := bal (bstep (bal (bal (bal (bre w) _) _) _) HB1.out) _
    have hres := hres.alloc (.cells #[.int .i64 W, .int .i64 H, .slice (some ⟨g, 0, none⟩) n n] 75)
    obtain ⟨X, hX⟩ : ∃ X, w1.alloc (.cells #[.int .i64 W, .int .i64 H, .slice (some ⟨g, 0, none⟩) n n] 75) = X := ⟨_, rfl⟩
    obtain ⟨B, hB⟩ : ∃ B, w1.heap.size = B := ⟨_, rfl⟩
    rw [hX] at hbx hpx hBX hres ⊢
    rw [hB] at hbx hgl z1 ⊢
    clear hX hB HB1 HO
    have HP := Lib.hid hpx
    have HX := Lib.hid hBX
    have HRS := Lib.hid hres
    have HBX := Lib.hid hbx
    obtain ⟨v0, hv0⟩ : ∃ v, (U8 px)[(y * (W : Int) + x).toNat]? = some v := ⟨_, List.getElem?_eq_getElem (by have := HR.out.1; omega)⟩
    have c0 := hbx.cellV (i := 0) rfl
    have c2 := hbx.cellV (i := 2) rfl
    have cp := (hpx.cellAt (y * (W : Int) + x).toNat (by omega)).trans hv0
    have fp := hpx.frozenAt (y * (W : Int) + x).toNat
    clear hbx hpx hBX hres hv0
    go_upto_region 5 with fail
    have hbx2 := HBX.out.far (p := ⟨g, (y * (W : Int) + x).toNat, none⟩) (by dsimp only; omega) (.int .u8 p)
    have hrs2 := HRS.out.far (p := ⟨g, (y * (W : Int) + x).toNat, none⟩) (by dsimp only; omega) (.int .u8 p)
    have hpx2 := (HP.out.stored (y * (W : Int) + x).toNat (.int .u8 p)).1
    have hBX2 := bset (p := ⟨g, (y * (W : Int) + x).toNat, none⟩) HX.out (by dsimp only; omega) (.int .u8 p)
    obtain ⟨Y, hY⟩ : ∃ Y, X.setCell ⟨g, (y * (W : Int) + x).toNat, none⟩ (.int .u8 p) = Y := ⟨_, rfl⟩
    rw [hY] at hbx2 hrs2 hpx2 hBX2 ⊢
    clear hY c0 c2 cp fp HP HX HRS HBX
    have c0 := hbx2.cellV (i := 0) rfl
    have c1 := hbx2.cellV (i := 1) rfl
    have c2 := hbx2.cellV (i := 2) rfl
    have d0 := hrs2.cellV (i := 0) rfl
    have d1 := hrs2.cellV (i := 1) rfl
    have d2 := hrs2.cellV (i := 2) rfl
    have f0 := hrs2.frozen 0
    have f1 := hrs2.frozen 1
    have f2 := hrs2.frozen 2
    have HP := Lib.hid hpx2
    have HX := Lib.hid hBX2
    clear hpx2 hBX2 hbx2 hrs2
    go_wp2_with fail
    refine bodyPost_ret (v := .agg #[.int .i64 W, .int .i64 H, .slice (some ⟨g, 0, none⟩) n n]) (by simp [results, Tryz.results42, go_sem, d0, d1, d2]) rfl ⟨some ⟨g, 0, none⟩, n, rfl, ?_, Nat.le_refl _, .inr (fun a ea => by cases ea; dsimp only; omega), ?_⟩
    · rw [HV.out]
      have hr := Rd.of_own HP.out
      have e : (U8 px).set (y * (W : Int) + x).toNat (.int .u8 p) = U8 (px.set (y * (W : Int) + x).toNat p) := by simp [U8, List.map_set]
      rw [e] at hr
      have hne : ∀ a : Addr, some (⟨g, 0, none⟩ : Addr) = some a → a.block ≠ w.heap.size + 1 := fun a e => by cases e; dsimp only; omega
      exact ((hr.far (p := ⟨w.heap.size + 1, 0, none⟩) hne _).far (p := ⟨w.heap.size + 1, 1, none⟩) hne _).far (p := ⟨w.heap.size + 1, 2, none⟩) hne _
    · exact bset (p := ⟨_, _, _⟩) (bset (p := ⟨_, _, _⟩) (bset (p := ⟨_, _, _⟩) HX.out (by dsimp only; omega) _) (by dsimp only; omega) _) (by dsimp only; omega) _

end Go.Proofs.YtdaedkolpfkdjaaGreat.Gr
end
