/-
  What band.Of has in memory, round by round; the marks of its ranges over a function; the pieces of its code.
-/
import Derived.Test.YtbfefkhejknmoaaGreatDoorCh23
import Derived.Test.YtbfefkhejknmoaaGreatDoorCh18
import Derived.Maps.AppendAt
import Derived.StillTailTactics
namespace Go.Proofs.YtbfefkhejknmoaaGreatDoor
open Go.RowKit Go.Shelf Go.Lib Go.Sort

theorem Tryz.infoR : (Tryz.prog.info? 29).map (fun i => (i.zero, i.size, i.bytes)) = some (some (.agg #[.int .i64 0, .int .i64 0, .int .i64 0, .int .i64 0]), 4, 32) := by kernel_rfl
theorem four_new (w : World) (a b c d : Value) (t : TypeId) : ∀ j u, [a, b, c, d][j]? = some u → (w.alloc (.cells #[a, b, c, d] t)).cell? ((⟨w.heap.size, 0, none⟩ : Addr).add j) = some u := by
  intro j u hu
  match j, hu with
  | 0, hu => simp at hu; subst hu; simp [Addr.add]
  | 1, hu => simp at hu; subst hu; simp [Addr.add]
  | 2, hu => simp at hu; subst hu; simp [Addr.add]
  | 3, hu => simp at hu; subst hu; simp [Addr.add]

/-- the rectangles that count, of the first ones. -/
def cntL (l : List RC) (k : Nat) : List RC := (l.take k).filter RC.cnt
theorem cntL_yes {l : List RC} {k : Nat} {x : RC} (hx : l[k]? = some x) (h : x.cnt = true) : cntL l (k + 1) = cntL l k ++ [x] := by
  unfold cntL
  rw [List.take_add_one, hx]
  simp [h]
theorem cntL_no {l : List RC} {k : Nat} {x : RC} (hx : l[k]? = some x) (h : x.cnt = false) : cntL l (k + 1) = cntL l k := by
  unfold cntL
  rw [List.take_add_one, hx]
  simp [h]
theorem cntL_len (l : List RC) (k : Nat) : (cntL l k).length ≤ k := by
  unfold cntL
  have := List.length_filter_le RC.cnt (l.take k)
  rw [List.length_take] at this
  omega

/-- what Of's loop has in memory. -/
structure OfMem (V : World) (g7 : Nat) (out row : List RC) (vo vr : Value) (wr : World) : Prop where
  grown : V.grownBy wr (some g7)
  box : Blk wr g7 42 #[vo]
  own : wr.ownsRow V.heap.size 29 4 vo out.length (rcs out)
  rowOwn : wr.ownsRow V.heap.size 29 4 vr row.length (rcs row)
  apart : ∀ g, vo.ownBlock = some g → vr.ownBlock ≠ some g
theorem OfMem.below {V wr wx : World} {g7 : Nat} {out row : List RC} {vo vr : Value} (h : OfMem V g7 out row vo vr wr) (hb : Below wr.heap.size wr wx) : OfMem V g7 out row vo vr wx :=
  ⟨grown_bel h.grown hb, h.box.belowS hb, ownsRow_below h.own hb, ownsRow_below h.rowOwn hb, h.apart⟩
theorem own_slice (A : Option Addr) (n m c c' : Nat) : (Value.slice A n c).ownBlock = (Value.slice A m c').ownBlock := by cases A <;> rfl
theorem OfMem.setRow {V wr w' : World} {g7 : Nat} {out row row' : List RC} {vo vr vr' : Value} (h : OfMem V g7 out row vo vr wr) (h7 : g7 < V.heap.size) (hg : wr.grownBy w' vr.ownBlock) (ho : w'.ownsRow V.heap.size 29 4 vr' row'.length (rcs row'))
    (hb : ∀ g, vr'.ownBlock = some g → vr.ownBlock = some g ∨ wr.heap.size ≤ g) : OfMem V g7 out row' vo vr' w' := by
  have hge := own_ge h.rowOwn
  refine ⟨h.grown.andThen hg (fun j hj => .inl (hge j hj)), h.box.grown hg (fun e => by have := hge g7 e.symm; omega), h.own.kept hg ?_, ho, fun g hg' e => ?_⟩
  · cases hvo : vo.ownBlock with
    | none => exact .inl rfl
    | some g => exact .inr (fun e => h.apart g hvo e.symm)
  · rcases hb g e with h1 | h1
    · exact h.apart g hg' h1
    · have := own_lt h.own g hg'
      omega
theorem Blk.new2 (w : World) (o : Obj) (t : TypeId) (cs : Array Value) : Blk ((w.alloc o).alloc (.cells cs t)) (w.heap.size + 1) t cs := by
  have := Blk.new (w.alloc o) t cs
  rwa [show (w.alloc o).heap.size = w.heap.size + 1 from by simp] at this
/-- numbers that rise are no more than there is room. -/
theorem rise_len {ys : List Int} (hs : ys.Pairwise (· < ·)) {a b : Int} (h : ∀ y ∈ ys, a ≤ y ∧ y ≤ b) {k : Nat} (hk : k < ys.length) : a + k ≤ ys[k] := by
  induction k with
  | zero => have := h ys[0] (List.getElem_mem _); omega
  | succ k ih =>
    have h1 := ih (by omega)
    have h2 := List.pairwise_iff_getElem.1 hs k (k + 1) (by omega) hk (by omega)
    omega

/-! ## The marks of the ranges over a function -/

def markD (D : Nat) : Deferred := { target := .collected D, args := #[] }
/-- each mark's block lies there, and holds no call. -/
def Marks (B : Nat) (ds : List Deferred) (w : World) : Prop := ∃ Ds : List Nat, ds = Ds.map markD ∧ Ds.Nodup ∧ ∀ D ∈ Ds, B ≤ D ∧ w.heap[D]? = some (.deferred (some []))
theorem Marks.nil (B : Nat) (w : World) : Marks B [] w := ⟨[], rfl, List.nodup_nil, by simp⟩
theorem Marks.keeps {B : Nat} {ds : List Deferred} {w w' : World} (h : Marks B ds w) (hk : KeepsOthers w w') : Marks B ds w' := by
  obtain ⟨Ds, h1, h2, h3⟩ := h
  exact ⟨Ds, h1, h2, fun D hD => ⟨(h3 D hD).1, hk.same D _ (h3 D hD).2 rfl⟩⟩
theorem Marks.below {B : Nat} {ds : List Deferred} {w w' : World} (h : Marks B ds w) (hb : Below w.heap.size w w') : Marks B ds w' := by
  obtain ⟨Ds, h1, h2, h3⟩ := h
  exact ⟨Ds, h1, h2, fun D hD => ⟨(h3 D hD).1, (hb.block D (Array.getElem?_eq_some_iff.1 (h3 D hD).2).1).trans (h3 D hD).2⟩⟩
/-- a row's block is no mark. -/
theorem Marks.grownRow {B base e size n : Nat} {ds : List Deferred} {w w' : World} {v : Value} {xs : List Value} (h : Marks B ds w) (ho : w.ownsRow base e size v n xs) (hg : w.grownBy w' v.ownBlock) : Marks B ds w' := by
  refine h.keeps (KeepsOthers.of_grownBy hg fun j o ej hj => ?_)
  rcases ho.2 with ⟨e1, _⟩ | ⟨g, cap, cur, e1, _, hk, _⟩
  · rw [e1] at ej
    cases ej
  · rw [e1] at ej
    cases ej
    rw [hk] at hj
    cases hj
    rfl
theorem Marks.setCell {B : Nat} {ds : List Deferred} {w : World} (h : Marks B ds w) (p : Addr) (u : Value) : Marks B ds (w.setCell p u) := h.keeps (KeepsOthers.setCell _ _ _)
/-- one mark more. -/
theorem Marks.cons {B D : Nat} {ds : List Deferred} {w W : World} (h : Marks B ds w) (hW : Marks B ds W) (hD : w.heap.size ≤ D) (hB : B ≤ w.heap.size) (hk : W.heap[D]? = some (.deferred (some []))) : Marks B ({ target := .collected D, args := #[] } :: ds) W := by
  obtain ⟨Ds, h1, h2, h3⟩ := h
  have hlt : ∀ E ∈ Ds, E < w.heap.size := fun E hE => (Array.getElem?_eq_some_iff.1 (h3 E hE).2).1
  obtain ⟨Es, k1, k2, k3⟩ := hW
  have e : Ds = Es := by
    have := h1.symm.trans k1
    refine List.map_inj_right (f := markD) (fun a b hab => ?_) |>.1 this
    simpa [markD] using hab
  subst e
  refine ⟨D :: Ds, by rw [h1]; rfl, List.nodup_cons.2 ⟨fun hm => by have := hlt D hm; omega, h2⟩, fun E hE => ?_⟩
  rcases List.mem_cons.1 hE with rfl | hE
  · exact ⟨by omega, hk⟩
  · exact k3 E hE
/-- at the return the marks' blocks are shut, one by one; all else stays. -/
theorem leaves_marks {B : Nat} {P : Program} {fn : Func} {F : Fence} {n : Nat} {tmps : Array Value} {R : Ending → World → Prop} : ∀ (ds : List Deferred) (w : World), Marks B ds w →
    (∀ w', w.heap.size = w'.heap.size → w'.os = w.os → w'.tape = w.tape → w'.output = w.output → (∀ i, i < B → w'.heap[i]? = w.heap[i]?) → (∀ (i : Nat) (o : Obj), w.heap[i]? = some o → o.isCells = true → w'.heap[i]? = some o) → LeavesInM F n P fn tmps R [] .returning w') →
    LeavesInM F n P fn tmps R ds .returning w
  | [], w, _, h => h w rfl rfl rfl rfl (fun _ _ => rfl) (fun _ _ h _ => h)
  | d :: ds, w, hm, h => by
    obtain ⟨Ds, h1, h2, h3⟩ := hm
    cases Ds with
    | nil => cases h1
    | cons D Ds =>
      injection h1 with e1 e2
      subst e1
      obtain ⟨h4, h5⟩ := List.nodup_cons.1 h2
      have hD := h3 D (by simp)
      have hput : ∀ i, i ≠ D → (w.putObj D (.deferred none)).heap[i]? = w.heap[i]? := fun i hi => by
        simp [World.putObj, Array.getElem?_setIfInBounds, Ne.symm hi]
      refine ⟨by simp, .inl ⟨D, w.putObj D (.deferred none), rfl, run_takeDeferred hD.2, leaves_marks ds _ ⟨Ds, e2, h5, fun E hE => ⟨(h3 E (by simp [hE])).1, ?_⟩⟩ (fun w' k0 k1 k2 k3 k4 k5 => h w' ?_ k1 k2 k3 (fun i hi => ?_) (fun i o hi ho => ?_))⟩⟩
      · rw [hput E (fun e => h4 (e ▸ hE))]
        exact (h3 E (by simp [hE])).2
      · simpa [World.putObj] using k0
      · rw [k4 i hi, hput i (by have := hD.1; omega)]
      · refine k5 i o ?_ ho
        rw [hput i (fun e => by rw [e, hD.2] at hi; cases hi; cases ho)]
        exact hi

/-! ## The pieces of the code -/

def sndC : Code → Code
  | .seq _ b => b
  | c => c
def fstC : Code → Code
  | .seq a _ => a
  | c => c
def inC : Code → Code
  | .block _ c => c
  | .loop c => c
  | c => c
/-- the body of the loop over the edges. -/
noncomputable def ofBody : Code := inC (inC (sndC (fstC (sndC (sndC (sndC (sndC (sndC (sndC (sndC (sndC (Tryz.f46.body.getD .skip)))))))))))) 
/-- behind the row's making. -/
noncomputable def ofTail : Code := sndC (sndC (sndC (sndC (sndC (inC (fstC (sndC ofBody)))))))

end Go.Proofs.YtbfefkhejknmoaaGreatDoor
