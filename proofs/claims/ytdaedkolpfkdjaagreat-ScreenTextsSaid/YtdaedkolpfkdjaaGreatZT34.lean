/-
  The walk of screen.Parse.
-/
import Derived.Test.YtdaedkolpfkdjaaGreatZT33
import Derived.Test.YtdaedkolpfkdjaaGreatZT27
import Derived.Deep.RegionWith
section
namespace Go.Proofs.YtdaedkolpfkdjaaGreat
open Go.RowKit Go.Maps Go.Shelf
attribute [local go_sem] Oper.semAt_some

/-- what screen.Parse reads of a text. -/
def ParsedP (s : List UInt8) (w' : World) (e : Ending) : Prop :=
  (s = [] ∧ e = .returned (.tuple #[.agg #[.int .i64 0, .int .i64 0, .slice none 0 0], .int .i64 13])) ∨
  (s ≠ [] ∧ (∀ w L, ¬ TextIs s w L) ∧ e = .returned (.tuple #[.agg #[.int .i64 0, .int .i64 0, .slice none 0 0], .int .i64 2])) ∨
  (∃ w L, TextIs s w L ∧ (128 < L.length ∨ 128 < w / 2) ∧ e = .returned (.tuple #[.agg #[.int .i64 0, .int .i64 0, .slice none 0 0], .int .i64 17])) ∨
  (∃ (w : Nat) (L : List (List UInt8)) (A : Option Addr) (n c : Nat), TextIs s w L ∧ L.length ≤ 128 ∧ w / 2 ≤ 128 ∧ e = .returned (.tuple #[.agg #[.int .i64 ((w / 2 : Nat) : Int), .int .i64 (L.length : Nat), .slice A n c], .int .i64 0]) ∧ n = w / 2 * L.length ∧ n ≤ c ∧ Rd w' A n (Gr.U8 (L.flatMap pairs)))
theorem blk_newY (w : World) (o : Obj) (t : TypeId) (cs : Array Value) : Blk ((w.alloc o).alloc (.cells cs t)) (w.heap.size + 1) t cs := by
  have := Blk.new (w.alloc o) t cs
  rwa [World.size_alloc] at this
set_option maxRecDepth 100000 in
theorem Tryz.infoS : (Tryz.prog.info? 9).map (fun i => (i.zero, i.size, i.bytes)) = some (some (.string ⟨#[]⟩), 1, 16) := by kernel_rfl
set_option maxRecDepth 100000 in
theorem Tryz.sizeGrP : (Tryz.prog.info? 75).map (·.size) = some 3 := by kernel_rfl
set_option maxRecDepth 100000 in
theorem ret_cells {W : World} {b0 b1 : Nat} {A : Option Addr} {n c : Nat} {x y z : Int} {tmps : Array Value} (h2 : tmps.getD 2 undef = .pointer (some ⟨b0, 0, none⟩)) (h3 : tmps.getD 3 undef = .pointer (some ⟨b1, 0, none⟩))
    (k0 : Blk W b0 75 #[.int .i64 x, .int .i64 y, .slice A n c]) (k1 : Blk W b1 44 #[.int .i64 z]) :
    (results Tryz.f52 tmps).run Tryz.prog W = .ok (.tuple #[.agg #[.int .i64 x, .int .i64 y, .slice A n c], .int .i64 z]) W := by
  have e : Tryz.f52.results = #[.cell 2 75, .cell 3 44] := rfl
  have c1 := k1.cellV (i := 0) (v := .int .i64 z) rfl
  have r0 := run_loadVar_row (P := Tryz.prog) (ty := 75) W b0 75 #[.int .i64 x, .int .i64 y, .slice A n c] (0, 0) _ k0 Tryz.underlying75 rfl Tryz.sizeGrP
  have h2' : tmps[2]?.getD undef = .pointer (some ⟨b0, 0, none⟩) := by simpa using h2
  have h3' : tmps[3]?.getD undef = .pointer (some ⟨b1, 0, none⟩) := by simpa using h3
  have r1 : (loadVar 44 ⟨b1, 0, none⟩).run Tryz.prog W = .ok (.int .i64 z) W := by
    go_simp
  simp only [results, e]
  simp [Sem.run_bind, Result.andThen, h2', h3', asAddr, r0, r1]
def strs (L : List (List UInt8)) : List Value := L.map fun l => .string ⟨l.toArray⟩
theorem blk_ownY {β : Type} (B : Nat) (g : Nat) (t : TypeId) (cs : Array Value) : OwnFrom B (fun (_ : β) W => Blk W g t cs) := fun s X Y row hs hg hrow =>
  (hg.block g hs.lt (fun e' => by obtain ⟨_, o, ho, hc⟩ := hrow g e'.symm; rw [show X.heap[g]? = _ from hs] at ho; cases ho; cases hc)).trans hs
theorem WrS.blk {bs : Nat} {A B : World} (h : WrS bs A B) {k : Nat} {t : TypeId} {cs : Array Value} (hk : k ≠ bs) (hb : Blk A k t cs) : Blk B k t cs := (h.other hk).trans hb
/-- between two lines: the list of lines, the results' cells. -/
def ParI (w : World) (b0 b1 br bs : Nat) (pre : List LN) (W : World) : Prop :=
  (∃ v, Boxed W br 210 v ∧ W.ownsRow (bs + 1) 9 1 v (linesOf pre).length (strs (linesOf pre)) ∧ True) ∧ Below w.heap.size w W ∧ Blk W b0 75 #[.int .i64 0, .int .i64 0, .slice none 0 0] ∧ Blk W b1 44 #[.int .i64 0] ∧ bs + 1 ≤ W.heap.size ∧ allE pre ∧ ∃ wl, Read (linesOf pre) wl
/-- left early: a fault of form. -/
def ParX (s : List UInt8) (w : World) (b0 b1 : Nat) (c : Code) (_ : List LN) (W : World) : Prop :=
  Below w.heap.size w W ∧ Blk W b0 75 #[.int .i64 0, .int .i64 0, .slice none 0 0] ∧ Blk W b1 44 #[.int .i64 2] ∧ c = .ret ∧ ∀ w L, ¬ TextIs s w L
theorem parI_own {w w4 : World} {b0 b1 br bs : Nat} (hs : w.heap.size ≤ w4.heap.size) : OwnFrom w4.heap.size (ParI w b0 b1 br bs) :=
  OwnFrom.and (Own.from (holdsRow_own (bs + 1) br 210 9 1 (fun pre : List LN => (linesOf pre).length) (fun pre => strs (linesOf pre)) (fun _ _ => True)) _)
    (OwnFrom.and (ownFrom_below (Nat.le_refl _) hs) (OwnFrom.and (blk_ownY _ _ _ _) (OwnFrom.and (blk_ownY _ _ _ _) (OwnFrom.and (fun _ _ _ _ hs hg _ => Nat.le_trans hs hg.size) (ownFrom_pure _ (fun pre => allE pre ∧ ∃ wl, Read (linesOf pre) wl))))))
theorem parX_own {s : List UInt8} {w w4 : World} {b0 b1 : Nat} (hs : w.heap.size ≤ w4.heap.size) (c : Code) : OwnFrom w4.heap.size (ParX s w b0 b1 c) :=
  OwnFrom.and (ownFrom_below (Nat.le_refl _) hs) (OwnFrom.and (blk_ownY _ _ _ _) (OwnFrom.and (blk_ownY _ _ _ _) (ownFrom_pure _ (fun _ => c = .ret ∧ ∀ w L, ¬ TextIs s w L))))
theorem parI_wr {w : World} {b0 b1 br bs : Nat} (h0 : b0 ≠ bs) (h1 : b1 ≠ bs) (hr : br ≠ bs) (hw : w.heap.size ≤ bs) (pre : List LN) (A B : World) (h : WrS bs A B) (hi : ParI w b0 b1 br bs pre A) : ParI w b0 b1 br bs pre B := by
  obtain ⟨⟨v, bv, ho, _⟩, hB, k0, k1, hz, hp⟩ := hi
  have k0' := h.blk h0 k0
  have k1' := h.blk h1 k1
  obtain ⟨u, rfl⟩ := h
  exact ⟨⟨v, bv.other hr u, ownsRow_setCell_below ho (Nat.lt_succ_self _) u, trivial⟩, hB.setCell (p := ⟨bs, 0, none⟩) hw u, k0', k1', by simpa [World.setCell] using hz, hp⟩
theorem own_blkY {w : World} {B n e : Nat} {v : Value} {xs : List Value} (h : w.ownsRow B e 1 v n xs) (hn : 0 < n) : ∃ (g c : Nat) (cs : Array Value), v = .slice (some ⟨g, 0, none⟩) n c ∧ B ≤ g ∧ Blk w g e cs ∧ ∀ (j : Nat) (u : Value), xs[j]? = some u → cs[j]? = some u := by
  rcases h.2 with ⟨_, h0⟩ | ⟨g, cap, cur, e1, hb, hg, h1, h2, h3, h4⟩
  · omega
  · refine ⟨g, cap, cur, e1, hb, hg, fun j u hj => ?_⟩
    have hl := (List.getElem?_eq_some_iff.1 hj).1
    rw [← h4, List.getElem?_take] at hj
    split at hj
    · simpa using hj
    · cases hj
theorem bal' (w : World) : Below w.heap.size w (w.alloc (.map #[] 0)) := (Below.refl _ w).alloc (Nat.le_refl _) _
theorem dig_yes (b : UInt8) (h : isDig b = true) (w : World) : Calls Tryz.prog 110 #[.string ⟨#[48, 49, 50, 51, 52, 53, 54, 55, 56, 57, 97, 98, 99, 100, 101, 102]⟩, .int .u8 b.toNat] w fun e w' => e = .returned (.int .i64 (digV b)) ∧ w' = w := by
  have := dig_any b w
  rw [h] at this
  exact this
theorem or_dig : ∀ a b : Fin 16, bits .or .i64 (((a.val : Nat) : Int) * 16) ((b.val : Nat) : Int) = ((16 * a.val + b.val : Nat) : Int) := by decide +kernel
theorem flat_at {α β : Type} (f : α → List β) (n : Nat) {l : List α} (hf : ∀ a ∈ l, (f a).length = n) {y x : Nat} {a : α} (hy : l[y]? = some a) (hx : x < n) : (l.flatMap f)[y * n + x]? = (f a)[x]? := by
  rw [← flat_row f n l hf y a hy, List.getElem?_take, if_pos hx, List.getElem?_drop]
set_option maxRecDepth 100000 in
theorem Tryz.zeroRcs (w : World) : (zeroValue 31).run Tryz.prog w = .ok nilS w := by kernel_rfl
theorem undef_bool {b : Bool} (h : some undef = some (Value.bool b)) : False := by
  injection h with h
  cases h
theorem par_put {w W : World} {b0 b1 : Nat} (k0 : Blk W b0 75 #[.int .i64 0, .int .i64 0, .slice none 0 0]) (k1 : Blk W b1 44 #[.int .i64 0]) (h01 : b0 ≠ b1) (h0 : w.heap.size ≤ b0) (h1 : w.heap.size ≤ b1) (hB : Below w.heap.size w W) (B : Nat) (x y : Int) (v : Value) (z : Int) :
    KeepsFrom B W ((((W.setCell ⟨b0, 0, none⟩ (.int .i64 x)).setCell ⟨b0, 1, none⟩ (.int .i64 y)).setCell ⟨b0, 2, none⟩ v).setCell ⟨b1, 0, none⟩ (.int .i64 z)) ∧
    Below w.heap.size w ((((W.setCell ⟨b0, 0, none⟩ (.int .i64 x)).setCell ⟨b0, 1, none⟩ (.int .i64 y)).setCell ⟨b0, 2, none⟩ v).setCell ⟨b1, 0, none⟩ (.int .i64 z)) ∧
    Blk ((((W.setCell ⟨b0, 0, none⟩ (.int .i64 x)).setCell ⟨b0, 1, none⟩ (.int .i64 y)).setCell ⟨b0, 2, none⟩ v).setCell ⟨b1, 0, none⟩ (.int .i64 z)) b0 75 #[.int .i64 x, .int .i64 y, v] ∧
    Blk ((((W.setCell ⟨b0, 0, none⟩ (.int .i64 x)).setCell ⟨b0, 1, none⟩ (.int .i64 y)).setCell ⟨b0, 2, none⟩ v).setCell ⟨b1, 0, none⟩ (.int .i64 z)) b1 44 #[.int .i64 z] := by
  refine ⟨((((KeepsOthers.setCell _ _ _).trans (KeepsOthers.setCell _ _ _)).trans (KeepsOthers.setCell _ _ _)).trans (KeepsOthers.setCell _ _ _)).from _, (((hB.setCell (p := ⟨b0, 0, none⟩) h0 _).setCell (p := ⟨b0, 1, none⟩) h0 _).setCell (p := ⟨b0, 2, none⟩) h0 _).setCell (p := ⟨b1, 0, none⟩) h1 _, ?_, ?_⟩
  · have := ((k0.set_ 0 (.int .i64 x)).set_ 1 (.int .i64 y)).set_ 2 v
    exact (Below.heap_setCell _ _ _ b0 h01).trans this
  · have : Blk (((W.setCell ⟨b0, 0, none⟩ (.int .i64 x)).setCell ⟨b0, 1, none⟩ (.int .i64 y)).setCell ⟨b0, 2, none⟩ v) b1 44 #[.int .i64 0] := (Below.heap_setCell _ _ _ b1 h01.symm).trans ((Below.heap_setCell _ _ _ b1 h01.symm).trans ((Below.heap_setCell _ _ _ b1 h01.symm).trans k1))
    exact this.set_ 0 (.int .i64 z)
theorem par_fault {w W : World} {b0 b1 : Nat} (k0 : Blk W b0 75 #[.int .i64 0, .int .i64 0, .slice none 0 0]) (k1 : Blk W b1 44 #[.int .i64 0]) (h01 : b0 ≠ b1) (h0 : w.heap.size ≤ b0) (h1 : w.heap.size ≤ b1) (hB : Below w.heap.size w W) (B : Nat) (z : Int) :
    KeepsFrom B W ((((W.setCell ⟨b0, 0, none⟩ (.int .i64 0)).setCell ⟨b0, 1, none⟩ (.int .i64 0)).setCell ⟨b0, 2, none⟩ (.slice none 0 0)).setCell ⟨b1, 0, none⟩ (.int .i64 z)) ∧
    Below w.heap.size w ((((W.setCell ⟨b0, 0, none⟩ (.int .i64 0)).setCell ⟨b0, 1, none⟩ (.int .i64 0)).setCell ⟨b0, 2, none⟩ (.slice none 0 0)).setCell ⟨b1, 0, none⟩ (.int .i64 z)) ∧
    Blk ((((W.setCell ⟨b0, 0, none⟩ (.int .i64 0)).setCell ⟨b0, 1, none⟩ (.int .i64 0)).setCell ⟨b0, 2, none⟩ (.slice none 0 0)).setCell ⟨b1, 0, none⟩ (.int .i64 z)) b0 75 #[.int .i64 0, .int .i64 0, .slice none 0 0] ∧
    Blk ((((W.setCell ⟨b0, 0, none⟩ (.int .i64 0)).setCell ⟨b0, 1, none⟩ (.int .i64 0)).setCell ⟨b0, 2, none⟩ (.slice none 0 0)).setCell ⟨b1, 0, none⟩ (.int .i64 z)) b1 44 #[.int .i64 z] := par_put k0 k1 h01 h0 h1 hB B 0 0 (.slice none 0 0) z
/-- the grid's box is written, whole. -/
theorem box_put {W : World} {gb : Nat} {t : TypeId} {x y x' y' : Int} {v v' : Value} (k : Blk W gb t #[.int .i64 x, .int .i64 y, v]) : Blk (((W.setCell ⟨gb, 0, none⟩ (.int .i64 x')).setCell ⟨gb, 1, none⟩ (.int .i64 y')).setCell ⟨gb, 2, none⟩ v') gb t #[.int .i64 x', .int .i64 y', v'] ∧ W.grownBy (((W.setCell ⟨gb, 0, none⟩ (.int .i64 x')).setCell ⟨gb, 1, none⟩ (.int .i64 y')).setCell ⟨gb, 2, none⟩ v') (some gb) := by
  refine ⟨((k.set_ 0 (.int .i64 x')).set_ 1 (.int .i64 y')).set_ 2 v', ?_⟩
  have hg : ∀ (V : World) (i : Nat) (u : Value), V.grownBy (V.setCell ⟨gb, i, none⟩ u) (some gb) := fun V i u => ⟨rfl, rfl, rfl, by simp [World.setCell], fun b _ hne => Below.heap_setCell V _ u b (fun e => hne (by rw [e]))⟩
  exact ((hg _ _ _).trans (hg _ _ _)).trans (hg _ _ _)
theorem Blk.kept' {w w' : World} {g : Nat} {t : TypeId} {cs : Array Value} (h : Blk w g t cs) (hg : w.grownBy w' none) : Blk w' g t cs := (hg.block g h.lt (by simp)).trans h
theorem Blk.grownY {w w' : World} {g gb : Nat} {t : TypeId} {cs : Array Value} (h : Blk w g t cs) (hg : w.grownBy w' (some gb)) (hne : g ≠ gb) : Blk w' g t cs := (hg.block g h.lt (fun e => hne (by injection e))).trans h
theorem Rd.grownN {w w' : World} {A : Option Addr} {n : Nat} {us : List Value} (h : Rd w A n us) (hg : w.grownBy w' none) : Rd w' A n us := h.below ⟨hg.os, hg.tape, hg.output, hg.size, fun b hb => hg.block b hb (by simp)⟩
theorem Rd.grownR {w w' : World} {A : Option Addr} {n r : Nat} {us : List Value} (h : Rd w A n us) (hg : w.grownBy w' (some r)) (hA : ∀ q, A = some q → q.block ≠ r) : Rd w' A n us :=
  ⟨h.1, fun hn => by
    obtain ⟨b, off, e, hb, hc⟩ := h.2 hn
    have hne : b ≠ r := hA _ e
    refine ⟨b, off, e, Nat.lt_of_lt_of_le hb hg.size, fun i v hv => ?_⟩
    have := hc i v hv
    unfold World.cell? at this ⊢
    rw [hg.block b hb (fun e => hne (by injection e))]
    exact this⟩
theorem RdR.grownRY {w w' : World} {A : Option Addr} {n gp : Nat} {rs : List RC} (h : RdR w A n rs) (hg : w.grownBy w' (some gp)) (hA : ∀ a, A = some a → a.block ≠ gp) : RdR w' A n rs :=
  ⟨h.1, fun h0 => by
    obtain ⟨b, off, e, hb, hc⟩ := h.2 h0
    have hne : b ≠ gp := hA _ e
    have same : ∀ o, w'.cell? ⟨b, o, none⟩ = w.cell? ⟨b, o, none⟩ := fun o => by
      unfold World.cell?
      rw [hg.block b hb (fun e => hne (by injection e))]
    exact ⟨b, off, e, Nat.lt_of_lt_of_le hb hg.size, fun i r hi => by
      obtain ⟨h1, h2, h3, h4⟩ := hc i r hi
      exact ⟨(same _).trans h1, (same _).trans h2, (same _).trans h3, (same _).trans h4⟩⟩⟩
theorem Rd.putObjY {w : World} {A : Option Addr} {n D : Nat} {us : List Value} {o : Obj} (h : Rd w A n us) (hA : ∀ q, A = some q → q.block ≠ D) : Rd (w.putObj D o) A n us :=
  ⟨h.1, fun hn => by
    obtain ⟨b, off, e, hb, hc⟩ := h.2 hn
    have hne : b ≠ D := hA _ e
    refine ⟨b, off, e, by simpa [World.putObj] using hb, fun i v hv => ?_⟩
    have := hc i v hv
    unfold World.cell? at this ⊢
    rw [World.putObj_heap_other hne]
    exact this⟩
theorem Rd.far3Y {W : World} {gb n : Nat} {A : Option Addr} {us : List Value} (h : Rd W A n us) (hA : ∀ q, A = some q → q.block ≠ gb) (u v r : Value) : Rd (((W.setCell ⟨gb, 0, none⟩ u).setCell ⟨gb, 1, none⟩ v).setCell ⟨gb, 2, none⟩ r) A n us :=
  ((h.far' (p := ⟨gb, 0, none⟩) (fun _ q hq => hA q hq) u).far' (p := ⟨gb, 1, none⟩) (fun _ q hq => hA q hq) v).far' (p := ⟨gb, 2, none⟩) (fun _ q hq => hA q hq) r
theorem par_app {w W1 w4 : World} {bs br k m : Nat} {v v' : Value} {xs ys : List Value} {tmp : Obj} (hv : Boxed W1 br 210 v) (hrow : W1.ownsRow (bs + 1) 9 1 v k xs) (hz : bs + 1 ≤ W1.heap.size) (hbr : br < bs) (hw : w.heap.size ≤ br)
    (hown : w4.ownsRow (bs + 1) 9 1 v' m ys) (hg : (W1.alloc tmp).grownBy w4 v.ownBlock) :
    Boxed w4 br 210 v ∧ Boxed (w4.setCell ⟨br, 0, none⟩ v') br 210 v' ∧ (w4.setCell ⟨br, 0, none⟩ v').ownsRow (bs + 1) 9 1 v' m ys ∧ KeepsOthers W1 (w4.setCell ⟨br, 0, none⟩ v') ∧ KpS w.heap.size bs W1 (w4.setCell ⟨br, 0, none⟩ v') ∧
    (∀ (b : Nat) (t : TypeId) (cs : Array Value), b ≠ br → b < bs + 1 → Blk W1 b t cs → Blk (w4.setCell ⟨br, 0, none⟩ v') b t cs) := by
  have hl : w.heap.size ≤ bs + 1 := by omega
  obtain ⟨h1, h2, -, h4, h5⟩ := hv.appended (by decide) (own_lower hrow hl) (by omega) hw (own_lower hown hl) hg
  have far : ∀ (b : Nat) (o : Obj), b ≠ br → b < bs + 1 → W1.heap[b]? = some o → (w4.setCell ⟨br, 0, none⟩ v').heap[b]? = some o := fun b o hb hlt hc => by
    have e1 : (W1.alloc tmp).heap[b]? = some o := (Below.heap_alloc W1 tmp b (by omega)).trans hc
    have e2 : w4.heap[b]? = some o := (hg.block b (by simp; omega) (fun e => by
      have := (own_blk_base hrow e.symm).1
      omega)).trans e1
    exact (Below.heap_setCell w4 _ v' b hb).trans e2
  exact ⟨h1, h2, ownsRow_setCell_below hown (by show br < bs + 1; omega) v', h4, ⟨h5, fun cs t hc => far bs _ (by omega) (by omega) hc⟩, fun b t cs hb hlt hc => far b _ hb hlt hc⟩
set_option maxRecDepth 100000 in
set_option maxHeartbeats 8000000 in
theorem parse_any (s : List UInt8) (w : World) (hs : s.length ≤ 100000) : Calls Tryz.prog 52 #[.string ⟨s.toArray⟩] w fun e w' => ParsedP s w' e ∧ Below w.heap.size w w' := by
  have xb := bal (bal (bre w) (.cells #[.int .i64 0, .int .i64 0, .slice none 0 0] 75)) (.cells #[.int .i64 0] 44)
  have x2 := (Blk.new w 75 #[.int .i64 0, .int .i64 0, .slice none 0 0]).alloc (.cells #[.int .i64 0] 44)
  have x3 := blk_newY w (.cells #[.int .i64 0, .int .i64 0, .slice none 0 0] 75) 44 #[.int .i64 0]
  obtain ⟨i0, hi0, hz0, hz1, hz2⟩ := info_parts Tryz.infoS
  obtain ⟨k0i, hk0, hk1, hk2, hk3⟩ := info_parts Tryz.infoR
  refine (callsIn_wide (n := 8)).1 ?_
  refine callsIn_of_wp_marks Tryz.func52 rfl trivial ?_ rfl
  simp only [Tryz.ntmps52, List.size_toArray, List.length_cons, List.length_nil, Nat.reduceAdd, Nat.reduceSub, Array.replicate_succ, Array.replicate_zero, List.push_toArray, List.append_toArray, List.nil_append, List.cons_append]
  by_cases hs0 : s = []
  · subst hs0
    gi_wp2_with fail
    exact ⟨_, ret_cells rfl rfl ((Blk.new w _ _).alloc _) (blk_newY w _ _ _), .inl ⟨rfl, rfl⟩, bal (bal (bre w) _) _⟩
  have hne : s.isEmpty = false := by simpa using hs0
  have HS0 := Lib.hid hs0
  clear hs0
  gi_wp2_with fail
  refine ⟨trivial, (callsIn_wide.2 (lines_any s _)).mono ?_⟩
  rintro e w4 ⟨rfl, rfl⟩
  have y0 := (x2.alloc (.cells #[.slice none 0 0] 210)).alloc (.cells #[.string ⟨s.toArray⟩] 9)
  have y1 := (x3.alloc (.cells #[.slice none 0 0] 210)).alloc (.cells #[.string ⟨s.toArray⟩] 9)
  have y2 := (Blk.new ((w.alloc (.cells #[.int .i64 0, .int .i64 0, .slice none 0 0] 75)).alloc (.cells #[.int .i64 0] 44)) 210 #[.slice none 0 0]).alloc (.cells #[.string ⟨s.toArray⟩] 9)
  have y3 := Blk.new (((w.alloc (.cells #[.int .i64 0, .int .i64 0, .slice none 0 0] 75)).alloc (.cells #[.int .i64 0] 44)).alloc (.cells #[.slice none 0 0] 210)) 9 #[.string ⟨s.toArray⟩]
  have yb := bal (bal xb (.cells #[.slice none 0 0] 210)) (.cells #[.string ⟨s.toArray⟩] 9)
  simp only [World.size_alloc] at y2 y3 ⊢
  obtain ⟨W4, hW4⟩ : ∃ W4, (((w.alloc (.cells #[.int .i64 0, .int .i64 0, .slice none 0 0] 75)).alloc (.cells #[.int .i64 0] 44)).alloc (.cells #[.slice none 0 0] 210)).alloc (.cells #[.string ⟨s.toArray⟩] 9) = W4 := ⟨_, rfl⟩
  have hsz : W4.heap.size = w.heap.size + 1 + 1 + 1 + 1 := by rw [← hW4]; simp
  rw [hW4] at y0 y1 y2 y3 yb ⊢
  obtain ⟨b0, hb0⟩ : ∃ b0, w.heap.size = b0 := ⟨_, rfl⟩
  obtain ⟨b1, hb1⟩ : ∃ b1, b0 + 1 = b1 := ⟨_, rfl⟩
  obtain ⟨br, hbr⟩ : ∃ br, b1 + 1 = br := ⟨_, rfl⟩
  obtain ⟨bs, hbs⟩ : ∃ bs, br + 1 = bs := ⟨_, rfl⟩
  rw [hb0, hb1, hbr, hbs] at y3 hsz
  rw [hb0, hb1, hbr] at y2
  rw [hb0, hb1] at y1
  rw [hb0] at y0
  have YB := Lib.hid yb
  have HSQ := Lib.hid (lines1_tells 7 (by omega) s (by omega) w.heap.size bs W4 y3)
  have hws : w.heap.size ≤ W4.heap.size := yb.size
  have HI0 : ParI w b0 b1 br bs [] W4 := ⟨⟨_, y2, World.ownsRow_nil _ _ _ _, trivial⟩, yb, y0, y1, by omega, fun x hx => absurd hx List.not_mem_nil, 0, Read.nil 0⟩
  have HII := Lib.hid HI0
  clear y0 y1 y2 y3 yb HI0 x2 x3 xb hW4
  gi_wp2_with fail
  simp only [hb0, hb1, hbr, hbs]
  rename_i Q0 KC hKC
  refine wpIn_rangeTellsX rfl (by omega) (gf := 159) (lb := #[.pointer (some ⟨bs, 0, none⟩)]) rfl trivial (enters_of Tryz.func159 (by kernel_rfl) rfl)
    HSQ.out KpS.trans (KpS.putObj hws) (Below.refl _ _) (fun _ => rfl) (fun A B k o h hk hc => h.plain k o hk hc)
    (ParI w b0 b1 br bs) (ParX s w b0 b1) (parI_own hws) (parX_own hws) (fun pre A B h hi => parI_wr (by omega) (by omega) (by omega) (by omega) pre A B h hi) HII.out
    (fun x a' W => a' = { tmps := #[.string ⟨s.toArray⟩, undef, .pointer (some ⟨b0, 0, none⟩), .pointer (some ⟨b1, 0, none⟩), .pointer (some ⟨br, 0, none⟩), .string ⟨x.1.toArray⟩, .bool x.2, undef, undef, undef, undef, undef, undef, undef, undef, undef, undef, undef, .string ⟨s.toArray⟩, .bool false, undef, .string ⟨s.toArray⟩, .func (.func 159) #[] #[.pointer (some ⟨bs, 0, none⟩)], .string ⟨x.1.toArray⟩, .bool x.2, undef, undef, undef, undef, undef, undef, undef, undef, undef, undef, undef, undef, undef, undef, undef, undef, undef, undef, undef, undef, undef, undef, undef, undef, undef, undef, undef, undef, undef, undef, undef, undef, undef, undef, undef, undef, undef, undef, undef, undef, undef, undef, undef, undef, undef, undef, undef, undef, undef, undef, undef, undef, undef, undef, undef, undef, undef, undef, undef, undef, undef, undef, undef, undef, undef, undef, undef, undef, undef, undef, undef, undef, undef, undef, undef, undef, undef, undef, undef, undef, undef, undef, undef, undef, undef, undef, undef, undef, undef, undef, undef, undef, undef, undef], defers := [] }) (fun x a' _ X Y row hs hg hr => hs) ?assign ?body ?done ?stop
  case assign =>
    intro l pre x W K hi hT hK
    gi_wp2_with fail
    exact hK _ _ (KeepsFrom.refl _ _) ⟨Below.refl _ _, fun _ _ e => e⟩ hi rfl
  case body =>
    rintro l pre ⟨c, en⟩ a' W hl ⟨⟨v, bv, hown, _⟩, hB, k0, k1, hz, hall, wl, hrd⟩ hT rfl hlen
    have HT := Lib.hid hT
    have HRD := Lib.hid hrd
    have HALL := Lib.hid hall
    have HB := Lib.hid hB
    clear hT hrd hall hB
    cases en with
    | false =>
      have c00 := k0.cellV (i := 0) (v := .int .i64 0) rfl
      have c01 := k0.cellV (i := 1) (v := .int .i64 0) rfl
      have c02 := k0.cellV (i := 2) (v := .slice none 0 0) rfl
      have f00 := k0.frozen 0
      have f01 := k0.frozen 1
      have f02 := k0.frozen 2
      have c10 := k1.cellV (i := 0) (v := .int .i64 0) rfl
      have f10 := k1.frozen 0
      have n01 : b0 ≠ b1 := by omega
      gi_wp2_with fail
      refine ⟨trivial, ?_⟩
      gi_wp2_with fail
      all_goals (try exact (undef_bool (by assumption)).elim)
      all_goals
        have hf := par_fault (w := w) k0 k1 n01 (by omega) (by omega) HB.out W4.heap.size 2
        refine ⟨hf.1, hf.2.1, hf.2.2.1, hf.2.2.2, rfl, fun w' L ht => ?_⟩
        obtain ⟨_, h2, h5⟩ := HT.out
        rcases h2 with h3 | h3
        · exact absurd h3.1 (by simp)
        · exact HRD.out.no_end h3.2.2 h5 h3.2.1 ht
    | true =>
      have c00 := k0.cellV (i := 0) (v := .int .i64 0) rfl
      have c01 := k0.cellV (i := 1) (v := .int .i64 0) rfl
      have c02 := k0.cellV (i := 2) (v := .slice none 0 0) rfl
      have f00 := k0.frozen 0
      have f01 := k0.frozen 1
      have f02 := k0.frozen 2
      have c10 := k1.cellV (i := 0) (v := .int .i64 0) rfl
      have f10 := k1.frozen 0
      have n01 : b0 ≠ b1 := by omega
      have hcs : c.length ≤ 100000 := by
        obtain ⟨_, h2 | h2, _⟩ := HT.out
        · obtain ⟨_, r, hr⟩ := h2
          have := congrArg List.length hr
          simp at this
          omega
        · cases h2.1
      gi_wp2_with fail
      refine ⟨trivial, (CallsIn.inRound l (callsIn_wide.2 (formed_any c _ (by omega)))).mono ?_⟩
      rintro e W1 ⟨rfl, hb1⟩
      have K0 := Lib.hid (k0.belowS hb1)
      have K1 := Lib.hid (k1.belowS hb1)
      have BV := Lib.hid (show Boxed W1 br 210 v from Blk.belowS (show Blk W br 210 #[v] from bv) hb1)
      have HO := Lib.hid (ownsRow_below hown hb1)
      have HB1 := Lib.hid (bstep HB.out hb1)
      have hzz : bs + 1 ≤ W1.heap.size := Nat.le_trans hz hb1.size
      have HK1 := Lib.hid (show KeepsFrom W4.heap.size W W1 from (show KeepsOthers W W1 from ⟨hb1.size, fun k _ hk _ => (hb1.block k (Array.getElem?_eq_some_iff.1 hk).1).trans hk⟩).from _)
      have HP1 := Lib.hid (show KpS w.heap.size bs W W1 from KpS.of_below HB.out.size hb1)
      clear c00 c01 c02 f00 f01 f02 c10 f10 hb1 k0 k1 bv hown hz
      have c00 := K0.out.cellV (i := 0) (v := .int .i64 0) rfl
      have c01 := K0.out.cellV (i := 1) (v := .int .i64 0) rfl
      have c02 := K0.out.cellV (i := 2) (v := .slice none 0 0) rfl
      have f00 := K0.out.frozen 0
      have f01 := K0.out.frozen 1
      have f02 := K0.out.frozen 2
      have c10 := K1.out.cellV (i := 0) (v := .int .i64 0) rfl
      have f10 := K1.out.frozen 0
      have cv := BV.out.cell
      have fault : (∀ w L, ¬ TextIs s w L) → ownPostG W4.heap.size (KpS w.heap.size bs) (ParI w b0 b1 br bs) (ParX s w b0 b1) (pre ++ [(c, true)]) W Exit.ret { tmps := #[], defers := [] } ((((W1.setCell ⟨b0, 0, none⟩ (.int .i64 0)).setCell ⟨b0, 1, none⟩ (.int .i64 0)).setCell ⟨b0, 2, none⟩ (.slice none 0 0)).setCell ⟨b1, 0, none⟩ (.int .i64 2)) := fun h => by
        have hf := par_fault (w := w) K0.out K1.out n01 (by omega) (by omega) HB1.out W4.heap.size 2
        exact ⟨HK1.out.trans hf.1, hf.2.1, hf.2.2.1, hf.2.2.2, rfl, h⟩
      have HF := Lib.hid fault
      clear fault
      have hline : ∀ w' L, TextIs s w' L → goodL c ∧ c.length = w' ∧ (linesOf pre ≠ [] → wl = w') := fun w' L ht => by
        obtain ⟨_, h2, h5⟩ := HT.out
        rcases h2 with h3 | h3
        · obtain ⟨_, r, hr⟩ := h3
          exact HRD.out.line hr h5 ht
        · exact absurd h3.1 (by simp)
      have HLN := Lib.hid hline
      clear hline
      cases hfm : formB c with
      | false =>
        gi_wp2_with fail
        all_goals (try exact (undef_bool (by assumption)).elim)
        all_goals exact HF.out (fun w' L ht => by
          have := (formB_iff c).2 (HLN.out w' L ht).1
          rw [hfm] at this
          cases this)
      | true =>
        have HG := Lib.hid ((formB_iff c).1 hfm)
        clear hfm
        obtain ⟨np, hnp⟩ : ∃ np, (linesOf pre).length = np := ⟨_, rfl⟩
        have ho := HO.out
        rw [hnp] at ho
        replace HO := Lib.hid ho
        have HNP := Lib.hid hnp
        have hpl : np ≤ s.length + 1 := by
          have : (linesOf pre).length = pre.length := by simp [linesOf]
          omega
        clear ho hnp
        by_cases h0 : np = 0
        · subst h0
          obtain ⟨A, cc, e, _⟩ := own_form HO.out
          subst e
          have e0 : ((0 : Nat) : Int) = 0 := rfl
          gi_wp2_with (gi_at_builtin; refine wpListIn_append_own_at _ rfl _ _ 210 rfl (bs + 1) 9 i0 _ 1 16 Tryz.underlying210 hi0 hz0 hz1 hz2 rfl (by decide) _ _ _ rfl (HO.out.alloc _) ⟨W1.heap.size, 0, none⟩ 1 1 [.string ⟨c.toArray⟩] rfl rfl (cell_one_new _ _ _) (by simp [Value.oneCell']) (by simp only [maxLen]; omega) (by omega) (by simp; omega) ?_; intro v' w4 hown' hgrow _ _; obtain ⟨g', cap', rfl⟩ := ownsRow_succ hown'; obtain ⟨hv1, hv2, hr2, hk2, hp2, hq2⟩ := par_app (w := w) BV.out HO.out hzz (by omega) (by omega) hown' hgrow; have hc1 := hv1.cell; have hf1 := hv1.frozen)
          exact ⟨HK1.out.trans (hk2.from _), HP1.out.trans hp2, ⟨⟨_, hv2, by rw [linesOf_snoc, List.length_append, HNP.out]; simpa [strs] using hr2, trivial⟩, HB1.out.trans hp2.below, hq2 _ _ _ (by omega) (by omega) K0.out, hq2 _ _ _ (by omega) (by omega) K1.out, Nat.le_trans hzz (hk2.size), allE_snoc.2 ⟨HALL.out, rfl⟩, c.length, by rw [linesOf_snoc]; exact HRD.out.snoc HG.out (.inl (List.length_eq_zero_iff.1 HNP.out))⟩⟩
        · have e0 : (0 : Int) < (np : Int) := by omega
          obtain ⟨g, cc, cs, e1, hg, hbk, hcs⟩ := own_blkY HO.out (by omega)
          subst e1
          obtain ⟨l0, hl0⟩ : ∃ l0, (linesOf pre)[0]? = some l0 := ⟨_, List.getElem?_eq_getElem (by rw [HNP.out]; omega)⟩
          have hlw := HRD.out.len l0 (List.mem_of_getElem? hl0)
          have r0 := hbk.cellV (hcs 0 (.string ⟨l0.toArray⟩) (by simp [strs, hl0]))
          have HNE := Lib.hid (show linesOf pre ≠ [] from fun e => by rw [e] at hl0; simp at hl0)
          obtain ⟨cn, hcn⟩ : ∃ cn, c.length = cn := ⟨_, rfl⟩
          have HCN := Lib.hid hcn
          clear hl0
          by_cases hlen : cn = wl
          · subst hlen
            gi_wp2_with (gi_at_builtin; refine wpListIn_append_own_at _ rfl _ _ 210 rfl (bs + 1) 9 i0 _ 1 16 Tryz.underlying210 hi0 hz0 hz1 hz2 rfl (by decide) _ _ _ rfl (HO.out.alloc _) ⟨W1.heap.size, 0, none⟩ 1 1 [.string ⟨c.toArray⟩] rfl rfl (cell_one_new _ _ _) (by simp [Value.oneCell']) (by simp only [maxLen]; omega) (by omega) (by simp; omega) ?_; intro v' w4 hown' hgrow _ _; obtain ⟨g', cap', rfl⟩ := ownsRow_succ hown'; obtain ⟨hv1, hv2, hr2, hk2, hp2, hq2⟩ := par_app (w := w) BV.out HO.out hzz (by omega) (by omega) hown' hgrow; have hc1 := hv1.cell; have hf1 := hv1.frozen)
            exact ⟨HK1.out.trans (hk2.from _), HP1.out.trans hp2, ⟨⟨_, hv2, by rw [linesOf_snoc, List.length_append, HNP.out]; simpa [strs] using hr2, trivial⟩, HB1.out.trans hp2.below, hq2 _ _ _ (by omega) (by omega) K0.out, hq2 _ _ _ (by omega) (by omega) K1.out, Nat.le_trans hzz (hk2.size), allE_snoc.2 ⟨HALL.out, rfl⟩, c.length, by rw [linesOf_snoc]; exact HRD.out.snoc HG.out (.inr HCN.out)⟩⟩
          · have hln : ¬ (cn : Int) = (wl : Int) := by omega
            gi_wp2_with fail
            all_goals (try exact (undef_bool (by assumption)).elim)
            all_goals exact HF.out (fun w' L ht => by
              have h9 := HLN.out w' L ht
              have := h9.2.2 HNE.out
              have := HCN.out
              omega)
  case stop =>
    rintro D c pre W hD _ ⟨hB, k0, k1, rfl, hno⟩ hK
    gi_wp2_with fail
    refine ⟨by simp, .inl ⟨_, _, rfl, run_takeDeferred hK, ?_⟩⟩
    exact ⟨_, ret_cells rfl rfl ((World.putObj_heap_other (by omega)).trans k0) ((World.putObj_heap_other (by omega)).trans k1), .inr (.inl ⟨HS0.out, hno, rfl⟩), hB.trans (belowK_b (w := w) (Nat.le_refl _) W D _ _ (by omega) hK rfl rfl)⟩
  case done =>
    rintro D xs W hD hS ⟨⟨v, bv, hown, _⟩, hB, k0, k1, hz, hall, wl, hrd⟩ hK
    obtain ⟨L, hL⟩ : ∃ L, linesOf xs = L := ⟨_, rfl⟩
    have hsL := hS hall
    rw [hL] at hsL hrd hown
    have hT := hrd.done hsL HS0.out
    obtain ⟨np, hnp⟩ : ∃ np, L.length = np := ⟨_, rfl⟩
    have hg := hT.grid
    rw [hnp] at hown hg
    have HT := Lib.hid hT
    have HNP := Lib.hid hnp
    have HK := Lib.hid hK
    have HB := Lib.hid hB
    have HO := Lib.hid hown
    have HG := Lib.hid hg
    have hnp1 : 1 ≤ np := hg.2.2.2.2.1
    obtain ⟨h, hh⟩ : ∃ h, wl / 2 = h := ⟨_, rfl⟩
    have hh1 : 1 ≤ h := by have := hg.2.2.2.1; omega
    clear hS hall hL hsL hT hnp hg hK hB hrd
    show KC _ _
    refine hKC _ _ ?_
    refine wpIn_wide.2 ?_
    dsimp only
    obtain ⟨g, cc, cs, e1, hg, hbk, hcs⟩ := own_blkY HO.out (by omega)
    subst e1
    obtain ⟨l0, hl0⟩ : ∃ l0, L[0]? = some l0 := ⟨_, List.getElem?_eq_getElem (by rw [HNP.out]; omega)⟩
    have hlw := HT.out.len l0 (List.mem_of_getElem? hl0)
    have r0 := hbk.cellV (hcs 0 (.string ⟨l0.toArray⟩) (by simp [strs, hl0]))
    have cv := bv.cell
    have hwl : wl ≤ 100000 := by
      have h1 := HT.out.eq
      have : l0.length ≤ s.length := by
        obtain ⟨L1, hL1⟩ : ∃ L1, L = l0 :: L1 := by
          cases L with
          | nil => simp at hl0
          | cons a L1 => simp at hl0; exact ⟨L1, by rw [hl0]⟩
        rw [h1, hL1, joinL_cons, List.length_append]
        omega
      omega
    have hnpl : np ≤ 100000 := by
      have h1 := HT.out.eq
      have : L.length ≤ (joinL L).length := by
        have key : ∀ M : List (List UInt8), M.length ≤ (joinL M).length := fun M => by
          induction M with
          | nil => simp
          | cons a M ih => rw [joinL_cons, List.length_append, List.length_cons, List.length_cons]; omega
        exact key L
      rw [← h1, HNP.out] at this
      omega
    have t1 : (wl : Int).tdiv 2 = (h : Int) := by rw [Int.tdiv_eq_ediv_of_nonneg (by omega)]; omega
    have t2 : IntKind.i64.wrap (h : Int) = (h : Int) := IntWalk.i64_in _ (by omega)
    have np0 : (0 : Int) < (np : Int) := by omega
    have HL0 := Lib.hid hl0
    have HCS := Lib.hid hcs
    have HH := Lib.hid hh
    clear hl0 hcs hh
    go_upto_region 10 with fail
    go_quiet (fail)
    obtain ⟨W5, hW5⟩ : ∃ W5, W.drewN nq = W5 := ⟨_, rfl⟩
    have y0 : Blk W5 b0 75 #[.int .i64 0, .int .i64 0, .slice none 0 0] := by rw [← hW5]; exact k0
    have y1 : Blk W5 b1 44 #[.int .i64 0] := by rw [← hW5]; exact k1
    have yv : Boxed W5 br 210 (.slice (some ⟨g, 0, none⟩) np cc) := by rw [← hW5]; exact bv
    have yr : Blk W5 g 9 cs := by rw [← hW5]; exact hbk
    have yk : W5.heap[D]? = some (.deferred (some [])) := by rw [← hW5]; exact HK.out
    have yb : Below w.heap.size w W5 := by rw [← hW5]; exact HB.out.trans ⟨rfl, rfl, rfl, Nat.le_refl _, fun _ _ => rfl⟩
    rw [hW5]
    clear hW5 k0 k1 bv hbk HK HB HO r0 cv
    have K0 := Lib.hid y0
    have K1 := Lib.hid y1
    have KV := Lib.hid yv
    have KR := Lib.hid yr
    have KD := Lib.hid yk
    have HB := Lib.hid yb
    clear y0 y1 yv yr yk yb
    by_cases hside : h ≤ 128 ∧ np ≤ 128
    · have hW' : 1 ≤ h ∧ h ≤ 128 := ⟨hh1, hside.1⟩
      have hH' : 1 ≤ np ∧ np ≤ 128 := ⟨hnp1, hside.2⟩
      obtain ⟨n, hn⟩ : ∃ n, h * np = n := ⟨_, rfl⟩
      have hn1 : n ≤ 16384 := by rw [← hn]; exact Gr.mul_le_128 hW'.2 hH'.2
      go_upto_region 11 with fail
      go_wp2_with fail
      refine (Gr.new_any h np 0 W5 hW' hH').mono ?_
      rintro e W6 ⟨Ag, cg, rfl, hrg, hcg, hfr, hb6⟩
      rw [hn] at hrg hcg ⊢
      have hgl : ∀ q, Ag = some q → q.block < W6.heap.size := fun q e => by
        rw [e] at hrg
        obtain ⟨bl, off, e2, hlt, _⟩ := hrg.2 (by have := Nat.mul_pos hh1 hnp1; omega)
        injection e2 with e2
        rw [e2]
        exact hlt
      have hgD : ∀ q, Ag = some q → D < q.block := fun q e => Nat.lt_of_lt_of_le (Array.getElem?_eq_some_iff.1 KD.out).1 (hfr q e)
      have y0 := (K0.out.belowS hb6).alloc (.cells #[.int .i64 h, .int .i64 np, .slice Ag n cg] 75)
      have y1 := (K1.out.belowS hb6).alloc (.cells #[.int .i64 h, .int .i64 np, .slice Ag n cg] 75)
      have yv : Boxed (W6.alloc (.cells #[.int .i64 h, .int .i64 np, .slice Ag n cg] 75)) br 210 (.slice (some ⟨g, 0, none⟩) np cc) := Boxed.alloc (Blk.belowS (show Blk W5 br 210 #[.slice (some ⟨g, 0, none⟩) np cc] from KV.out) hb6) _
      have yr := (KR.out.belowS hb6).alloc (.cells #[.int .i64 h, .int .i64 np, .slice Ag n cg] 75)
      have yb := bal (bstep HB.out hb6) (.cells #[.int .i64 h, .int .i64 np, .slice Ag n cg] 75)
      have yd : (W6.alloc (.cells #[.int .i64 h, .int .i64 np, .slice Ag n cg] 75)).heap[D]? = some (.deferred (some [])) := by
        have hlt := (Array.getElem?_eq_some_iff.1 KD.out).1
        exact (Below.heap_alloc W6 _ D (Nat.lt_of_lt_of_le hlt hb6.size)).trans ((hb6.block D hlt).trans KD.out)
      have yg := Blk.new W6 75 #[.int .i64 h, .int .i64 np, .slice Ag n cg]
      have yz := hrg.below (bal (bre W6) (.cells #[.int .i64 h, .int .i64 np, .slice Ag n cg] 75))
      go_upto_region 14 with fail
      obtain ⟨W7, hW7⟩ : ∃ W7, W6.alloc (.cells #[.int .i64 h, .int .i64 np, .slice Ag n cg] 75) = W7 := ⟨_, rfl⟩
      obtain ⟨gb, hgb⟩ : ∃ gb, W6.heap.size = gb := ⟨_, rfl⟩
      obtain ⟨mb, hmb⟩ : ∃ mb, W7.heap.size = mb := ⟨_, rfl⟩
      have hgm : gb < mb := by rw [← hmb, ← hW7, ← hgb]; simp
      have hDg : D < gb := by rw [← hgb]; exact Nat.lt_of_lt_of_le (Array.getElem?_eq_some_iff.1 KD.out).1 hb6.size
      rw [hgb] at hgl yg
      rw [hW7] at y0 y1 yv yr yb yd yg yz ⊢
      simp only [hgb]
      replace K0 := Lib.hid y0
      replace K1 := Lib.hid y1
      replace KV := Lib.hid yv
      replace KR := Lib.hid yr
      replace HB := Lib.hid yb
      replace KD := Lib.hid yd
      have KG := Lib.hid yg
      have HZ := Lib.hid yz
      have HGL := Lib.hid hgl
      have HGD := Lib.hid hgD
      have HN := Lib.hid hn
      clear y0 y1 yv yr yb yd yg yz hrg hfr hb6 hW7 hgl hgD hside hn
      have hmm := @run_makeMap Tryz.prog
      have lm := LikeM.made W7
      have lb : Below mb W7 (W7.alloc (.map #[] 0)) := by rw [← hmb]; exact bal' W7
      rw [hmb] at lm
      go_upto_region 15 with fail
      obtain ⟨W8, hW8⟩ : ∃ W8, W7.alloc (.map #[] 0) = W8 := ⟨_, rfl⟩
      rw [hW8] at lm lb ⊢
      have LM := Lib.hid lm
      have LB := Lib.hid lb
      have cv : W8.cell? ⟨br, 0, none⟩ = some (.slice (some ⟨g, 0, none⟩) np cc) := ((show Blk W7 br 210 #[.slice (some ⟨g, 0, none⟩) np cc] from KV.out).belowS (by rw [hmb]; exact lb)).cellV (i := 0) rfl
      clear lm lb hW8 hmm
      go_wp2_with fail
      go_loopw [71, 12, 13, 14, 15] (fun i _ _ _ _ wr => ∃ (y m : Nat) (f : Int → Option Value), i = .int .i64 y ∧ y ≤ np ∧ LikeM wr (mb + 1) mb m f (plG h (L.flatMap pairs) (y * h)) ∧ Below mb W7 wr) (fun i _ _ _ _ _ => np - (intOf i).toNat)
      case atStart => exact ⟨0, 0, _, rfl, by omega, by rw [Nat.zero_mul, plG_zero]; exact LM.out, LB.out⟩
      case round =>
        obtain ⟨y, m, f, rfl, hy, hlm, hlb⟩ := hrel
        replace LM := Lib.hid hlm
        replace LB := Lib.hid hlb
        clear hlm hlb
        by_cases hlt : y < np
        · have y0 : (0 : Int) ≤ (y : Int) := by omega
          have y1 : (y : Int) < (np : Int) := by omega
          obtain ⟨ly, hly⟩ : ∃ ly, L[y]? = some ly := ⟨_, List.getElem?_eq_getElem (by rw [HNP.out]; exact hlt)⟩
          have hll := HT.out.len ly (List.mem_of_getElem? hly)
          have hgd := HT.out.good ly (List.mem_of_getElem? hly)
          have rY : wr.cell? ⟨g, y, none⟩ = some (.string ⟨ly.toArray⟩) := (KR.out.belowS (by rw [hmb]; exact LB.out)).cellV (HCS.out y _ (by simp [strs, hly]))
          have HLY := Lib.hid hly
          have HGO := Lib.hid hgd
          clear hly hgd
          go_wp2_with fail
          go_loopw [77, 14, 15] (fun i _ _ wr => ∃ (x m : Nat) (f : Int → Option Value), i = .int .i64 x ∧ x ≤ h ∧ LikeM wr (mb + 1) mb m f (plG h (L.flatMap pairs) (y * h + x)) ∧ Below mb W7 wr) (fun i _ _ _ => h - (intOf i).toNat)
          case atStart => exact ⟨0, m, f, rfl, by omega, by rw [Nat.add_zero]; exact LM.out, LB.out⟩
          case round =>
            obtain ⟨x, m, f, rfl, hx, hlm, hlb⟩ := hrel
            replace LM := Lib.hid hlm
            replace LB := Lib.hid hlb
            clear hlm hlb rY
            by_cases hxt : x < h
            · have x0 : (0 : Int) ≤ (x : Int) := by omega
              have x1 : (x : Int) < (h : Int) := by omega
              have hwh : 2 * h ≤ wl := by have := HH.out; omega
              obtain ⟨a, ha⟩ : ∃ a, ly[2 * x]? = some a := ⟨_, List.getElem?_eq_getElem (by omega)⟩
              obtain ⟨b, hb⟩ : ∃ b, ly[2 * x + 1]? = some b := ⟨_, List.getElem?_eq_getElem (by omega)⟩
              have HDA := Lib.hid (HGO.out.dig a (List.mem_of_getElem? ha))
              have HDB := Lib.hid (HGO.out.dig b (List.mem_of_getElem? hb))
              have hpp := pairs_get ly x a b ha hb
              have HPP := Lib.hid hpp
              obtain ⟨j, hj⟩ : ∃ j, 2 * x = j := ⟨_, rfl⟩
              rw [hj] at ha hb
              have w1 : IntKind.i64.wrap (2 * (x : Int)) = (j : Int) := by rw [IntWalk.i64_in _ (by omega)]; omega
              have w2 : IntKind.i64.wrap ((j : Int) + 1) = (j : Int) + 1 := IntWalk.i64_in _ (by omega)
              have j0 : (0 : Int) ≤ (j : Int) := by omega
              have j1 : (j : Int) < (wl : Int) := by omega
              have j2 : (0 : Int) ≤ (j : Int) + 1 := by omega
              have j3 : (j : Int) + 1 < (wl : Int) := by omega
              have j4 : ((j : Int) + 1).toNat = j + 1 := by omega
              have hix : ∀ (h : j < (⟨ly.toArray⟩ : ByteArray).size), (⟨ly.toArray⟩ : ByteArray)[j]'h = a := fun h => str_at ha h
              have hiy : ∀ (h : j + 1 < (⟨ly.toArray⟩ : ByteArray).size), (⟨ly.toArray⟩ : ByteArray)[j + 1]'h = b := fun h => str_at hb h
              obtain ⟨p, hp⟩ : ∃ p : Nat, 16 * digV a + digV b = p := ⟨_, rfl⟩
              have hva := (dig_hex HDA.out).2
              have hvb := (dig_hex HDB.out).2
              have u1 : wrap64 ((digV a : Int) * 16) = (digV a : Int) * 16 := IntWalk.wrap64_in _ (by omega)
              have u2 : bits .or .i64 ((digV a : Int) * 16) (digV b : Int) = (p : Int) := by rw [← hp]; exact or_dig ⟨_, hva⟩ ⟨_, hvb⟩
              have u3 : (p : Int) % 256 = (p : Int) := by omega
              have hpb : 0 ≤ (p : Int) ∧ (p : Int) < 256 := by omega
              have hpx : (L.flatMap pairs)[y * h + x]? = some (p : Int) := by
                rw [flat_at pairs h (fun l hl => by rw [(hex_pairs l (HT.out.good l hl).even (HT.out.good l hl).dig).2, HT.out.len l hl]; exact HH.out) HLY.out hxt, hpp, hp]
              have HPX := Lib.hid hpx
              clear ha hb hj hpp hp hpx
              go_upto_region 21 with fail
              go_quiet (first | exact Calls.quiet_of_same (dig_yes a HDA.out _) | exact Calls.quiet_of_same (dig_yes b HDB.out _))
              obtain ⟨V, hV⟩ : ∃ V, wr.drewN nq = V := ⟨_, rfl⟩
              have lm9 : LikeM V (mb + 1) mb m f (plG h (L.flatMap pairs) (y * h + x)) := by rw [← hV]; exact LM.out.kept (row := none) ⟨rfl, rfl, rfl, Nat.le_refl _, fun _ _ _ => rfl⟩ (by simp) (by simp)
              have lb9 : Below mb W7 V := by rw [← hV]; exact LB.out.trans ⟨rfl, rfl, rfl, Nat.le_refl _, fun _ _ => rfl⟩
              rw [hV]
              clear hV
              replace LM := Lib.hid lm9
              replace LB := Lib.hid lb9
              clear lm9 lb9 u1 u2 u3 hix hiy w1 w2
              obtain ⟨Av, cvv, ev, _⟩ := LM.out.rows (p : Int)
              have hml := LM.out.most
              have hwf : (Lit.int .u8 (p : Int)).wf = true := by
                simp [Lit.wf, IntKind.min, IntKind.max, IntKind.signed, IntKind.bits]
                omega
              have hyh : y * h + x < n := by rw [← HN.out, Nat.mul_comm h np]; exact Nat.lt_of_lt_of_le (Nat.add_lt_add_left hxt _) (by have := Nat.mul_le_mul_right h (show y + 1 ≤ np by omega); rw [Nat.add_mul, Nat.one_mul] at this; exact this)
              obtain ⟨K, hKl⟩ : ∃ K, (plG h (L.flatMap pairs) (y * h + x) (p : Int)).length = K := ⟨_, rfl⟩
              have hK1 : K ≤ 16384 := by have := plG_len (W := h) (px := L.flatMap pairs) (k := y * h + x) (p := (p : Int)); omega
              have ho1 := LM.out.own (p : Int)
              rw [ev, hKl] at ho1
              rw [hKl] at ev
              have HO1 := Lib.hid ho1
              have HEV := Lib.hid ev
              have HKL := Lib.hid hKl
              have HWF := Lib.hid hwf
              have hsz7 : mb + 1 ≤ V.heap.size := LM.out.size
              clear ev ho1 hKl hwf
              go_wp2_with (first
                | (at_lookup; refine map_look rfl _ _ 215 rfl 79 31 .u8 Tryz.underlying79 Tryz.underlying215 nilS (Tryz.zeroRcs _) mb m f rfl LM.out.map (p : Int) rfl HWF.out ?_; rw [HEV.out])
                | (at_builtin; refine wpList_append_own_at _ rfl _ _ 31 rfl (mb + 1) 103 k0i _ 4 32 Tryz.underlying31 hk0 hk1 hk2 hk3 rfl (by decide) _ _ _ rfl (HO1.out.alloc _) ⟨V.heap.size, 0, none⟩ 1 1 (RC.mk x y 1 1).cells rfl rfl (news_blk (Blk.new _ _ _)) (by simp [RC.cells, Value.oneCell']) (by simp only [maxLen]; omega) (by omega) (by simp; omega) ?_; intro v' w4 hown' hgrow _ hloc; obtain ⟨g', cap', rfl⟩ := ownsRow_succ hown'; have HST := Lib.hid ((LM.out.alloc (.cells #[.int .i64 x, .int .i64 y, .int .i64 1, .int .i64 1] 103)).step (p := (p : Int)) (r := ⟨x, y, 1, 1⟩) hpb (by rw [HKL.out]; exact hown') (by rw [HEV.out]; exact hgrow) (by rw [HEV.out]; exact hloc)); have HGR := Lib.hid (show (V.alloc (.cells #[.int .i64 x, .int .i64 y, .int .i64 1, .int .i64 1] 103)).grownBy w4 (Value.slice Av K cvv).ownBlock from hgrow); clear hown' hgrow hloc)
                | (at_mapUpdate; refine map_put rfl _ _ _ 215 rfl 79 31 .u8 Tryz.underlying79 Tryz.underlying215 mb m f rfl HST.out.1 (by simp only [maxLen]; omega) (p : Int) _ rfl rfl HWF.out ?_; intro w5 hm5 hg5; have LM5 := Lib.hid (HST.out.2 w5 _ hm5 hg5); have HG5 := Lib.hid hg5; clear hm5 hg5))
              go_roundw
              case rel =>
                have h9 := LM5.out
                rw [← plG_step HPX.out rfl hxt, Nat.add_assoc] at h9
                have hall : V.grownBy _ _ := (World.grownBy_alloc V (.cells #[.int .i64 x, .int .i64 y, .int .i64 1, .int .i64 1] 103) _).trans HGR.out
                have b1 := LB.out.grown hall (by omega) (fun q e => by have := (own_blk_base HO1.out e).1; omega)
                have b2 := b1.grown HG5.out (by have := hall.size; omega) (fun q e => by injection e with e; omega)
                exact ⟨x + 1, _, _, by go_num, by omega, h9, b2⟩
              case measure => simp [intOf]; omega
            · obtain rfl : x = h := by omega
              have x1 : ¬ (x : Int) < (x : Int) := by omega
              go_wp2_with fail
              go_roundw
              case rel => exact ⟨y + 1, m, f, by go_num, by omega, by rw [Nat.add_mul, Nat.one_mul]; exact LM.out, LB.out⟩
              case measure => simp [intOf]; omega
        · obtain rfl : y = np := by omega
          have y1 : ¬ (y : Int) < (y : Int) := by omega
          obtain ⟨V, hV⟩ : ∃ V, wr = V := ⟨_, rfl⟩
          rw [hV] at LM LB ⊢
          clear hV
          have hVs : mb + 1 ≤ V.heap.size := LM.out.size
          have hbV : Below W7.heap.size W7 V := by rw [hmb]; exact LB.out
          replace K0 := Lib.hid (K0.out.belowS hbV)
          replace K1 := Lib.hid (K1.out.belowS hbV)
          have k9 : V.heap[D]? = some (.deferred (some [])) := (hbV.block D (by omega)).trans KD.out
          replace KD := Lib.hid k9
          replace KG := Lib.hid (KG.out.belowS hbV)
          replace HZ := Lib.hid (HZ.out.below hbV)
          replace HB := Lib.hid (bstep HB.out hbV)
          have hpl : (L.flatMap pairs).length = n := by rw [HG.out.2.1, HH.out, HN.out]
          have hyn : y * h = n := by rw [Nat.mul_comm]; exact HN.out
          have lm9 := LM.out
          rw [hyn, ← hpl] at lm9
          replace LM := Lib.hid lm9
          have HPL := Lib.hid hpl
          have hsz0 : w.heap.size ≤ gb := by omega
          clear k9 hbV hyn lm9 LB KV KR hpl
          obtain ⟨px, hpx⟩ : ∃ px, L.flatMap pairs = px := ⟨_, rfl⟩
          rw [hpx] at LM HPL
          have HPE := Lib.hid hpx
          clear hpx
          go_upto_region 25 with fail
          go_wp2_with (at_range; refine map_range rfl _ 215 rfl 79 31 .u8 Tryz.underlying79 Tryz.underlying215 mb m f rfl LM.out.map ?_; intro W9 hrg0 hg0 hs0)
          have HR0 := Lib.hid hrg0
          have HG0 := Lib.hid hg0
          clear hrg0 hg0 hs0
          go_loopw [16, 17] (fun _ _ wr => ∃ (left : Int → Bool) (cnt : Nat) (An : Option Addr) (cn : Nat), MapRange Tryz.prog 79 .u8 wr mb V.heap.size m f left cnt ∧ Blk wr gb 75 #[.int .i64 h, .int .i64 y, .slice An n cn] ∧ Rd wr An n (Gr.U8 (curP px left)) ∧ n ≤ cn ∧ (∀ q, An = some q → D < q.block ∧ q.block ≠ gb ∧ q.block ≠ V.heap.size) ∧ V.grownBy wr (some gb)) (fun _ _ wr => wr.rangeLeft mb V.heap.size)
          case atStart =>
            have hzz : curP px (fun i => (f i).isSome) = List.replicate n 0 := by
              rw [← HPL.out]
              exact curP_start (fun p hp => (LM.out.key p).2 (plG_ne.2 hp))
            exact ⟨_, _, Ag, cg, HR0.out, KG.out.kept' HG0.out, by rw [hzz]; exact HZ.out.grownN HG0.out, hcg, fun q e => ⟨HGD.out q e, Nat.ne_of_lt (HGL.out q e), by have := HGL.out q e; omega⟩, HG0.out.but _⟩
          case round =>
            obtain ⟨left, cnt, An, cn, hrg, hkg, hrd, hnc, hfa, hgw⟩ := hrel
            have HRD := Lib.hid hrd
            have HKG := Lib.hid hkg
            have HGW := Lib.hid hgw
            have HFA := Lib.hid hfa
            clear hrd hkg hgw hfa
            go_wp2_with (at_next; refine map_next rfl _ rfl 79 .u8 Tryz.underlying79 mb V.heap.size m f left cnt rfl hrg ?_ ?_)
            · intro hc0 hl0
              have hall : curP px left = px := curP_done hl0
              have hr9 := HRD.out
              rw [hall] at hr9
              have HR9 := Lib.hid hr9
              have g0 := HKG.out.cellV (i := 0) (v := .int .i64 h) rfl
              have g1 := HKG.out.cellV (i := 1) (v := .int .i64 y) rfl
              have g2 := HKG.out.cellV (i := 2) (v := .slice An n cn) rfl
              have k0 : Blk wr b0 75 #[.int .i64 0, .int .i64 0, .slice none 0 0] := K0.out.grownY HGW.out (by omega)
              have k1 : Blk wr b1 44 #[.int .i64 0] := K1.out.grownY HGW.out (by omega)
              have c00 := k0.cellV (i := 0) (v := .int .i64 0) rfl
              have c01 := k0.cellV (i := 1) (v := .int .i64 0) rfl
              have c02 := k0.cellV (i := 2) (v := .slice none 0 0) rfl
              have f00 := k0.frozen 0
              have f01 := k0.frozen 1
              have f02 := k0.frozen 2
              have c10 := k1.cellV (i := 0) (v := .int .i64 0) rfl
              have f10 := k1.frozen 0
              have n01 : b0 ≠ b1 := by omega
              have hd8 : wr.heap[D]? = some (.deferred (some [])) := (HGW.out.block D (Array.getElem?_eq_some_iff.1 KD.out).1 (by simp; omega)).trans KD.out
              have hbw : Below w.heap.size w wr := HB.out.grown HGW.out HB.out.size (fun q e => by injection e with e; omega)
              have hf := par_put (w := w) k0 k1 n01 (by omega) (by omega) hbw 0 h y (.slice An n cn) 0
              have HD8 := Lib.hid hd8
              clear hall hr9 hd8 hbw
              go_wp2_with fail
              have hd9 := hf.1.same D _ (Nat.zero_le _) HD8.out rfl
              refine ⟨by simp, .inl ⟨_, _, rfl, run_takeDeferred hd9, ?_⟩⟩
              refine ⟨_, ret_cells rfl rfl ((World.putObj_heap_other (by omega)).trans hf.2.2.1) ((World.putObj_heap_other (by omega)).trans hf.2.2.2), .inr (.inr (.inr ⟨wl, L, An, n, cn, HT.out, by rw [HNP.out]; exact hH'.2, by rw [HH.out]; exact hW'.2, by rw [HNP.out, HH.out], by rw [HNP.out, HH.out, HN.out], hnc, ?_⟩)), hf.2.1.trans (belowK_b (w := w) (Nat.le_refl _) _ D _ _ (by omega) hd9 rfl rfl)⟩
              rw [HPE.out]
              refine Rd.putObjY ?_ (fun q e => by have := (HFA.out q e).1; omega)
              exact (HR9.out.far3Y (gb := b0) (fun q e => by have := (HFA.out q e).1; omega) _ _ _).far' (p := ⟨b1, 0, none⟩) (fun _ q e => by have := (HFA.out q e).1; show q.block ≠ b1; omega) _
            · intro i v w1 cnt1 hwf hli hfi hrg1 hlt hg1 hs1 hen
              have hVr : V.heap.size < wr.heap.size := hrg.lt
              have hgV : V.grownBy w1 (some gb) := ⟨hg1.os.trans HGW.out.os, hg1.tape.trans HGW.out.tape, hg1.output.trans HGW.out.output, Nat.le_trans HGW.out.size hg1.size, fun b hb hne => (hg1.block b (Nat.lt_of_lt_of_le hb HGW.out.size) (fun e => by injection e with e; omega)).trans (HGW.out.block b hb hne)⟩
              have hkg : Blk w1 gb 75 #[.int .i64 h, .int .i64 y, .slice An n cn] := HKG.out.grownY hg1 (by omega)
              have hrd : Rd w1 An n (Gr.U8 (curP px left)) := HRD.out.grownR hg1 (fun q e => (HFA.out q e).2.2)
              obtain ⟨Ai, ci, ev, hri⟩ := LM.out.rows i
              rw [hfi] at ev
              obtain rfl : v = .slice Ai (plG h px px.length i).length ci := ev
              obtain ⟨K, hK⟩ : ∃ K, (plG h px px.length i).length = K := ⟨_, rfl⟩
              have hK1 : K ≤ 16384 := by have := plG_len (W := h) (px := px) (k := px.length) (p := i); have := HPL.out; omega
              have hok := plG_ok (W := h) (px := px) (k := px.length) (p := i) (by have := HPL.out; omega)
              rw [hK] at hri
              have hib := LM.out.rng i (by rw [hfi]; rfl)
              have hrow : RdR w1 Ai K (plG h px px.length i) := by
                refine RdR.grownRY hri hgV (fun q e => ?_)
                have := own_blk_base (LM.out.own i) (g := q.block) (by rw [hfi, e]; rfl)
                omega
              have HRW := Lib.hid hrow
              have HOK := Lib.hid hok
              have HKG1 := Lib.hid hkg
              have HRD1 := Lib.hid hrd
              have HGV := Lib.hid hgV
              have HRG1 := Lib.hid hrg1
              have hs1' : mb + 1 ≤ w1.heap.size := by omega
              rw [hK] at hen
              clear hrow hok hkg hrd hgV hri hrg1
              have g0 := HKG1.out.cellV (i := 0) (v := .int .i64 h) rfl
              have g1 := HKG1.out.cellV (i := 1) (v := .int .i64 y) rfl
              have g2 := HKG1.out.cellV (i := 2) (v := .slice An n cn) rfl
              go_upto_region 28 with fail
              refine wp_region_noPanic ?_
              go_region_with (first
                | (go_at_call 74; refine (of_any Ai K ci (plG h px px.length i) w1.drew (by omega) (HRW.out.below (show Below w1.heap.size w1 w1.drew from ⟨rfl, rfl, rfl, Nat.le_refl _, fun _ _ => rfl⟩)) (fun r hr => (HOK.out r hr).2)).mono ?_; rintro e w2 ⟨out, A', c', rfl, hro, hcan, hin, hol, hb2⟩; have HB2 := Lib.hid (show Below w1.heap.size w1 w2 from Below.trans (⟨rfl, rfl, rfl, Nat.le_refl _, fun _ _ => rfl⟩ : Below w1.heap.size w1 w1.drew) hb2); have HRO := Lib.hid hro; have HCAN := Lib.hid hcan; have HIN := Lib.hid hin; have HOL := Lib.hid hol; have g0' := (HKG1.out.belowS HB2.out).cellV (i := 0) (v := .int .i64 h) rfl; have g1' := (HKG1.out.belowS HB2.out).cellV (i := 1) (v := .int .i64 y) rfl; have g2' := (HKG1.out.belowS HB2.out).cellV (i := 2) (v := .slice An n cn) rfl; clear hro hcan hin hol hb2)
                | (go_at_call 111; refine (Gr.fill_any h y (curP px left) i An A' n cn out.length c' out w2 HN.out.symm hW'.2 hH'.2 (HRD1.out.below HB2.out) HOL.out HRO.out (canon_cnt (fun r hr => (HOK.out r hr).1) HCAN.out (fun a b hab => by have := (HIN.out a b).1 hab; rwa [List.filter_eq_self.2 (fun r hr => (HOK.out r hr).1)] at this))).mono ?_; rintro e w3 ⟨A3, rfl, hr3, hf3, hb3⟩; have HB3 := Lib.hid hb3; have HR3 := Lib.hid hr3; have HF3 := Lib.hid hf3; have HKG3 := Lib.hid ((HKG1.out.belowS HB2.out).belowS HB3.out); have s0 := HKG3.out.cellV (i := 0) (v := .int .i64 h) rfl; have s1 := HKG3.out.cellV (i := 1) (v := .int .i64 y) rfl; have s2 := HKG3.out.cellV (i := 2) (v := .slice An n cn) rfl; have q0 := HKG3.out.frozen 0; have q1 := HKG3.out.frozen 1; have q2 := HKG3.out.frozen 2; clear hr3 hf3 hb3))
              all_goals
                obtain ⟨bp1, bp2⟩ := box_put (x' := h) (y' := y) (v' := .slice A3 n n) HKG3.out
                have hZ := ((grown_of_below HB2.out (some gb)).trans (grown_of_below HB3.out (some gb))).trans bp2
                have hrgZ := HRG1.out.kept hZ (fun e => by injection e with e; omega) (fun e => by injection e with e; omega)
                have hvZ := HGV.out.trans hZ
                have hs2 := HB2.out.size
                have hsr := hg1.size
                have hfr : ∀ q, A3 = some q → D < q.block ∧ q.block ≠ gb ∧ q.block ≠ V.heap.size := fun q e => by have := HF3.out q e; omega
                have hrd3 := HR3.out
                rw [curP_step (by rw [HPL.out, HN.out]) (fun a b => by have := HIN.out a b; rwa [List.filter_eq_self.2 (fun r hr => (HOK.out r hr).1)] at this)] at hrd3
                have hrdZ := hrd3.far3Y (gb := gb) (fun q e => (hfr q e).2.1) (.int .i64 h) (.int .i64 y) (.slice A3 n n)
                obtain ⟨Z, hZe⟩ : ∃ Z, (((w3.setCell ⟨gb, 0, none⟩ (.int .i64 h)).setCell ⟨gb, 1, none⟩ (.int .i64 y)).setCell ⟨gb, 2, none⟩ (.slice A3 n n)) = Z := ⟨_, rfl⟩
                rw [hZe] at bp1 hrgZ hvZ hrdZ ⊢
                refine NoPanic.normal ?_
                have HQ := Lib.hid (And.intro hrgZ (And.intro bp1 (And.intro hrdZ (And.intro (Nat.le_refl n) (And.intro hfr hvZ)))))
                have HLE := Lib.hid (show Z.rangeLeft mb V.heap.size < wr.rangeLeft mb V.heap.size by rw [hrgZ.left_eq, hrg.left_eq]; exact hlt)
                clear bp1 hrgZ hvZ hrdZ hZ bp2 hZe hrd3 hfr
                go_wp2_with fail
                go_roundw
                all_goals (first | exact ⟨_, _, _, _, HQ.out⟩ | exact HLE.out)
    · go_upto_region 11 with fail
      go_wp2_with fail
      refine (Gr.new_no h np 0 W5 (by simp only [Gr.sideB]; simp; omega)).mono ?_
      rintro e W6 ⟨rfl, hb6⟩
      have y0 := (K0.out.belowS hb6).alloc (.cells #[.int .i64 0, .int .i64 0, .slice none 0 0] 75)
      have y1 := (K1.out.belowS hb6).alloc (.cells #[.int .i64 0, .int .i64 0, .slice none 0 0] 75)
      have yb := bal (bstep HB.out hb6) (.cells #[.int .i64 0, .int .i64 0, .slice none 0 0] 75)
      have yd : (W6.alloc (.cells #[.int .i64 0, .int .i64 0, .slice none 0 0] 75)).heap[D]? = some (.deferred (some [])) := by
        have hlt := (Array.getElem?_eq_some_iff.1 KD.out).1
        exact (Below.heap_alloc W6 _ D (Nat.lt_of_lt_of_le hlt hb6.size)).trans ((hb6.block D hlt).trans KD.out)
      have hst : 128 < L.length ∨ 128 < wl / 2 := by
        have := HNP.out
        have := HH.out
        omega
      have HST := Lib.hid hst
      clear hst hside
      go_upto_region 13 with fail
      obtain ⟨W7, hW7⟩ : ∃ W7, W6.alloc (.cells #[.int .i64 0, .int .i64 0, .slice none 0 0] 75) = W7 := ⟨_, rfl⟩
      rw [hW7] at y0 y1 yb yd ⊢
      have c00 := y0.cellV (i := 0) (v := .int .i64 0) rfl
      have c01 := y0.cellV (i := 1) (v := .int .i64 0) rfl
      have c02 := y0.cellV (i := 2) (v := .slice none 0 0) rfl
      have f00 := y0.frozen 0
      have f01 := y0.frozen 1
      have f02 := y0.frozen 2
      have c10 := y1.cellV (i := 0) (v := .int .i64 0) rfl
      have f10 := y1.frozen 0
      have n01 : b0 ≠ b1 := by omega
      have hf := par_fault (w := w) y0 y1 n01 (by omega) (by omega) yb 0 17
      go_wp2_with fail
      have hd9 := hf.1.same D _ (Nat.zero_le _) yd rfl
      refine ⟨by simp, .inl ⟨_, _, rfl, run_takeDeferred hd9, ?_⟩⟩
      exact ⟨_, ret_cells rfl rfl ((World.putObj_heap_other (by omega)).trans hf.2.2.1) ((World.putObj_heap_other (by omega)).trans hf.2.2.2), .inr (.inr (.inl ⟨wl, L, HT.out, HST.out, rfl⟩)), hf.2.1.trans (belowK_b (w := w) (Nat.le_refl _) _ D _ _ (by omega) hd9 rfl rfl)⟩
end Go.Proofs.YtdaedkolpfkdjaaGreat
end
