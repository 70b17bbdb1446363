/-
  A tree of the call's own from whose lists one window has gone, and then keys: what tree it is at the end.
  The walk of a tree's take at a twin: what it leaves.
  delete on a map with raw elements, and the walk of a place's Drop.
  The walk of a tree's Remove.
  The walks of slices.Equal at rectangles, and of band.Same. (What PSetsA has of it, for a seat without PlaceSets.)
  The walk of glazierlaw31.windows: the document's windows of a scene.
  The walk of glazierlaw31.awake: the document's example.
  What the laws ViewHidden and ViewRaises have in common: a window of the list written, blocks, the trees.
  The walk of screen.Show.
-/
import Derived.Test.YtdaedkolpfkdjaaGreatZT28
import Derived.Test.YtdaedkolpfkdjaaGreatZT02
import Derived.Test.YtdaedkolpfkdjaaGreatZT03
import Derived.Test.YtdaedkolpfkdjaaGreatZT26
import Derived.Test.YtdaedkolpfkdjaaGreatZT17
import Derived.Test.YtdaedkolpfkdjaaGreatZT06
import Derived.Test.YtdaedkolpfkdjaaGreatZT24
import Derived.Test.YtdaedkolpfkdjaaGreatZT25
import Derived.Laws.Closers25b
import Derived.Maps.AppendAt
section
namespace Go.Proofs.YtdaedkolpfkdjaaGreat
open Go.RowKit Go.Maps Go.Shelf

/-- a window's kids without one. -/
def kidsC (ns : Nodes) (id i : Int) : List Int := (kidsOf ns i).filter fun j => decide (j ≠ id)
theorem kidsC_other {ns : Nodes} (h : TreeOk ns) {id p i : Int} (hp : upOf ns id = some p) (hi : i ≠ p) : kidsC ns id i = kidsOf ns i := by
  unfold kidsC
  rw [List.filter_eq_self]
  intro j hj
  refine decide_eq_true (fun e => hi ?_)
  have h1 := (kids_up h hj).1
  rw [e, hp] at h1
  exact (Option.some.inj h1).symm
/-- the windows on the way. -/
structure CutIs (w : World) (base : Nat) (ns : Nodes) (id : Int) (kb ub nk nu : Nat) (gk gu : List Int) (fk : Int → Option Value) : Prop where
  kids : MapIs Tryz.prog 48 .u32 w kb nk (goneF fk gk)
  up : MapIs Tryz.prog 48 .u32 w ub nu (goneF (fun i => (upOf ns i).map (Value.int .u32)) gu)
  own : ∀ i v, fk i = some v → w.ownsRow base 48 1 v (kidsC ns id i).length (U32 (kidsC ns id i))
  far : ∀ i v, fk i = some v → v.ownBlock ≠ some kb ∧ v.ownBlock ≠ some ub
  nil : ∀ i, fk i = Option.none → kidsC ns id i = []
  keys : ∀ i, (fk i).isSome = true → hasN ns i = true
  lok : base ≤ kb
  lou : base ≤ ub
  ne : kb ≠ ub
  few : ns.length ≤ 1000
  ok : okN ns
section
variable {w w' : World} {base : Nat} {ns : Nodes} {id : Int} {kb ub nk nu : Nat} {gk gu : List Int} {fk : Int → Option Value}
theorem CutIs.below (h : CutIs w base ns id kb ub nk nu gk gu fk) (hb : Below w.heap.size w w') : CutIs w' base ns id kb ub nk nu gk gu fk :=
  ⟨h.kids.below hb, h.up.below hb, fun i v hv => ownsRow_below (h.own i v hv) hb, h.far, h.nil, h.keys, h.lok, h.lou, h.ne, h.few, h.ok⟩
theorem cut_kids_in (hT : TreeOk ns) (hk : hasN ns id = true) {i : Int} (hi : i ∈ belowAt ns id) : kidsOf (cutN ns id) i = [] := by
  refine List.eq_nil_iff_forall_not_mem.2 (fun j hj => ?_)
  obtain ⟨h1, h2⟩ := mem_cutN.1 (kids_mem.1 hj)
  have hup := upOf_mem hT.nodup (show (j, i) ∈ ns from h1)
  refine h2 ?_
  rw [below_iff hT hk] at hi
  show j ∈ _
  rw [below_iff hT hk, (path_step hT hup).1]
  exact List.mem_cons_of_mem _ hi
theorem CutIs.done (h : CutIs w base ns id kb ub nk nu gk gu fk) (hT : TreeOk ns) (hk : hasN ns id = true) (hgk : gk.Perm (belowAt ns id)) (hgu : gu.Perm (belowAt ns id)) : TreeOwn w base (cutN ns id) kb ub nk (goneF fk (belowAt ns id)) := by
  have hkm := h.kids
  have hum := h.up
  rw [goneF_perm _ hgk] at hkm
  rw [goneF_perm _ hgu] at hum
  have hfu : goneF (fun i => (upOf ns i).map (Value.int .u32)) (belowAt ns id) = fun i => (upOf (cutN ns id) i).map (Value.int .u32) := by
    funext i
    unfold goneF
    rw [cut_up_all hT]
    by_cases e : i ∈ belowAt ns id <;> simp [e]
  rw [hfu] at hum
  have hnd : ((cutN ns id).map (·.1)).Nodup := hT.nodup.sublist (List.filter_sublist.map _)
  have hnu : nu = (cutN ns id).length := by
    have := hum.count Tryz.underlying48 hnd (fun i => by
      rw [Option.isSome_map, List.mem_map]
      constructor
      · rintro ⟨q, hq, rfl⟩
        rw [upOf_mem hnd (show (q.1, q.2) ∈ cutN ns id from hq)]
        rfl
      · intro hi
        obtain ⟨p, hp⟩ := Option.isSome_iff_exists.1 hi
        exact ⟨(i, p), upOf_some hp, rfl⟩)
    rwa [List.length_map] at this
  rw [hnu] at hum
  have hkeys : ∀ i, (goneF fk (belowAt ns id) i).isSome = true → hasN (cutN ns id) i = true := fun i hi => by
    unfold goneF at hi
    by_cases e : i ∈ belowAt ns id
    · rw [if_pos e] at hi; cases hi
    · rw [if_neg e] at hi
      rw [cut_has hT e]
      exact h.keys i hi
  refine ⟨hkm, hum, fun i v hv => ?_, fun i hi => ?_, h.lok, h.lou, ?_, ?_, fun q hq => h.ok q (mem_cutN.1 hq).1, hkeys⟩
  · unfold goneF at hv
    by_cases e : i ∈ belowAt ns id
    · rw [if_pos e] at hv; cases hv
    · rw [if_neg e] at hv
      rw [cut_kids hT hk e]
      exact h.own i v hv
  · unfold goneF at hi
    by_cases e : i ∈ belowAt ns id
    · exact cut_kids_in hT hk e
    · rw [if_neg e] at hi
      rw [cut_kids hT hk e]
      exact h.nil i hi
  · have := hkm.atMost Tryz.underlying48 (L := 1 :: (cutN ns id).map (·.1)) (fun i hi => by
      rcases hasN_iff.1 (hkeys i hi) with e | ⟨p, hp⟩
      · rw [e]; simp
      · exact List.mem_cons_of_mem _ (List.mem_map.2 ⟨(i, p), upOf_some hp, rfl⟩))
    simpa using this
  · exact Nat.le_trans (List.length_filter_le _ _) h.few
end
end Go.Proofs.YtdaedkolpfkdjaaGreat
end

section
namespace Go.Proofs.YtdaedkolpfkdjaaGreat
open Go.RowKit Go.Maps Go.Shelf

/-- a row that lies in a block known whole. -/
theorem blk_row {w : World} {base g n c e : Nat} {xs tl : List Value} (h : Blk w g e (xs ++ tl).toArray) (hb : base ≤ g) (hl : xs.length = n) (hc : n + tl.length = c) (hm : c ≤ maxLen) : w.ownsRow base e 1 (.slice (some ⟨g, 0, none⟩) n c) n xs := by
  refine ⟨by omega, .inr ⟨g, c, (xs ++ tl).toArray, rfl, hb, h, by omega, hm, by simp; omega, ?_⟩⟩
  simp only [Nat.mul_one]
  rw [← hl]
  exact List.take_left
theorem TwinIs.cut {w w' X : World} {base : Nat} {ns : Nodes} {kb ub nk g n c : Nat} {fk : Int → Option Value} {id p : Int} {tl : List Value} (h : TwinIs w base ns kb ub nk fk) (hT : TreeOk ns) (hup : upOf ns id = some p) (hn : (kidsOf ns p).length = n) (hc : (n - 1) + tl.length = c) (hcm : c ≤ maxLen)
    (hfk : fk p = some (.slice (some ⟨g, 0, none⟩) n c)) (hm : MapIs Tryz.prog 48 .u32 w' kb nk (fun j => if j = p then some (.slice (some ⟨g, 0, none⟩) (n - 1) c) else fk j)) (hb : Blk w' g 48 (U32 (kidsC ns id p) ++ tl).toArray) (hlc : (kidsC ns id p).length = n - 1) (h1 : w.grownBy X (some g)) (h2 : X.grownBy w' (some kb)) :
    CutIs w' base ns id kb ub nk ns.length [] [] (fun j => if j = p then some (.slice (some ⟨g, 0, none⟩) (n - 1) c) else fk j) := by
  have hfp := h.far p _ hfk
  have hbg : base ≤ g := own_ge (h.own p _ hfk) g rfl
  refine ⟨by rw [goneF_nil]; exact hm, ?_, fun i v hv => ?_, fun i v hv => ?_, fun i hi => ?_, fun i hi => ?_, h.lok, h.lou, h.ne, h.few, h.ok⟩
  · rw [goneF_nil]
    exact (h.up.kept h1 (fun e => hfp.2 e.symm)).kept h2 (fun e => h.ne (Option.some.inj e).symm)
  · by_cases e : i = p
    · subst e
      rw [if_pos rfl] at hv
      injection hv with hv
      subst hv
      rw [hlc]
      exact blk_row hb hbg (by rw [U32_len, hlc]) hc hcm
    · rw [if_neg e] at hv
      rw [kidsC_other hT hup e]
      refine ((h.own i v hv).kept h1 ?_).kept h2 (.inr (h.far i v hv).1)
      exact h.apart i p v _ hv hfk e
  · by_cases e : i = p
    · rw [if_pos e] at hv
      injection hv with hv
      subst hv
      exact hfp
    · rw [if_neg e] at hv
      exact h.far i v hv
  · by_cases e : i = p
    · rw [if_pos e] at hi; cases hi
    · rw [if_neg e] at hi
      rw [kidsC_other hT hup e]
      exact h.nil i hi
  · by_cases e : i = p
    · rw [e]; exact h.keys p (by rw [hfk]; rfl)
    · rw [if_neg e] at hi
      exact h.keys i hi
end Go.Proofs.YtdaedkolpfkdjaaGreat
end

section
namespace Go.Proofs.YtdaedkolpfkdjaaGreat
open Go.RowKit Go.Maps Go.Shelf

section
variable {P : Program} {k e t : TypeId} {q : IntKind} {w w' : World} {b n : Nat} {f : Int → Option Value}
variable {ops : Array Oper} {rest : List Oper} {o : Oper} {a : Act} {Q : Exit → Act → World → Prop}
end

/-- boxes without those of some windows; the root's stays. -/
def dropBs (bs : Bxs) (ids : List Int) : Bxs := fun i => if i ∈ ids ∧ i ≠ 1 then none else bs i
end Go.Proofs.YtdaedkolpfkdjaaGreat
end

section
namespace Go.Proofs.YtdaedkolpfkdjaaGreat
open Go.RowKit Go.Maps Go.Shelf

end Go.Proofs.YtdaedkolpfkdjaaGreat
end

section
namespace Go.Proofs.YtdaedkolpfkdjaaGreat
open Go.RowKit Go.Maps Go.Shelf

theorem run_neq_rcE (w : World) (a b c d a' b' c' d' : Int) : (binOp .neq 103 (.agg #[.int .i64 a, .int .i64 b, .int .i64 c, .int .i64 d]) (.agg #[.int .i64 a', .int .i64 b', .int .i64 c', .int .i64 d'])).run Tryz.prog w = .ok (.bool (!(a == a' && b == b' && c == c' && d == d'))) w := by
  cases h1 : (a == a') <;> cases h2 : (b == b') <;> cases h3 : (c == c') <;> cases h4 : (d == d') <;> simp [go_sem, h1, h2, h3, h4]
attribute [local go_sem ↓] run_neq_rcE

end Go.Proofs.YtdaedkolpfkdjaaGreat
end

section
namespace Go.Proofs.YtdaedkolpfkdjaaGreat
open Go.RowKit Go.Maps Go.Shelf

/-- a window of a small scene. -/
structure PN where
  U : Int
  X : Int
  Y : Int
  W : Int
  H : Int
  F : Int
  s0 : Int
  s1 : Int
  s2 : Int
  s3 : Int
  s4 : Int
  s5 : Int
  s6 : Int
  s7 : Int
def PN.cells (p : PN) : List Value := [.int .u8 p.U, .int .i8 p.X, .int .i8 p.Y, .int .i8 p.W, .int .i8 p.H, .int .u8 p.F, .int .u8 p.s0, .int .u8 p.s1, .int .u8 p.s2, .int .u8 p.s3, .int .u8 p.s4, .int .u8 p.s5, .int .u8 p.s6, .int .u8 p.s7]
structure PN.ok (p : PN) : Prop where
  u : 0 ≤ p.U ∧ p.U ≤ 255
  x : -128 ≤ p.X ∧ p.X ≤ 127
  y : -128 ≤ p.Y ∧ p.Y ≤ 127
  w : -128 ≤ p.W ∧ p.W ≤ 127
  h : -128 ≤ p.H ∧ p.H ≤ 127
  f : 0 ≤ p.F ∧ p.F ≤ 255
  s : ((0 ≤ p.s0 ∧ p.s0 ≤ 255) ∧ (0 ≤ p.s1 ∧ p.s1 ≤ 255) ∧ (0 ≤ p.s2 ∧ p.s2 ≤ 255) ∧ 0 ≤ p.s3 ∧ p.s3 ≤ 255) ∧ (0 ≤ p.s4 ∧ p.s4 ≤ 255) ∧ (0 ≤ p.s5 ∧ p.s5 ≤ 255) ∧ (0 ≤ p.s6 ∧ p.s6 ≤ 255) ∧ 0 ≤ p.s7 ∧ p.s7 ≤ 255
theorem RdR.keepRowNe {w w' : World} {A : Option Addr} {n : Nat} {rs : List RC} {row : Option Nat} (h : RdR w A n rs) (hg : w.grownBy w' row) (hne : 0 < n → ∀ a, A = some a → row ≠ some a.block) : RdR w' A n rs :=
  ⟨h.1, fun hn => by
    obtain ⟨b, off, e, hl, hc⟩ := h.2 hn
    refine ⟨b, off, e, Nat.lt_of_lt_of_le hl hg.size, fun k r hk => ?_⟩
    have hb : w'.heap[b]? = w.heap[b]? := hg.block b hl (fun e' => hne hn _ e e'.symm)
    have hcell : ∀ o, w'.cell? ⟨b, o, none⟩ = w.cell? ⟨b, o, none⟩ := fun o => by unfold World.cell?; simp only [hb]
    obtain ⟨c0, c1, c2, c3⟩ := hc k r hk
    exact ⟨(hcell _).trans c0, (hcell _).trans c1, (hcell _).trans c2, (hcell _).trans c3⟩⟩
/-- windows made so far: all are well, their shapes lie apart from the list. -/
structure WinsAt (w : World) (base : Nat) (v : Value) (l : List DW) : Prop where
  own : w.ownsRow base 33 8 v l.length (l.flatMap DW.cells)
  up : UpOk l
  ok : ∀ d ∈ l, DWok d
  sh : ∀ d ∈ l, RdR w d.A d.n d.sh
  far : ∀ d ∈ l, 0 < d.n → ∀ a, d.A = some a → v.ownBlock ≠ some a.block
theorem WinsAt.below {w w' : World} {base : Nat} {v : Value} {l : List DW} (h : WinsAt w base v l) (hb : Below w.heap.size w w') : WinsAt w' base v l :=
  ⟨ownsRow_below h.own hb, h.up, h.ok, fun d hd => (h.sh d hd).below hb, h.far⟩
theorem WinsAt.snoc {w w' : World} {base : Nat} {v v' : Value} {l : List DW} {d : DW} (h : WinsAt w base v l) (hd : DWok d) (hp : -1 ≤ d.P ∧ d.P < (l.length : Int)) (hs : RdR w d.A d.n d.sh) (hf : 0 < d.n → ∀ a, d.A = some a → v.ownBlock ≠ some a.block)
    (hg : w.grownBy w' v.ownBlock) (ho : w'.ownsRow base 33 8 v' (l.length + 1) (l.flatMap DW.cells ++ d.cells)) (hat : v'.ownBlock = v.ownBlock ∨ v'.ownBlock = some w.heap.size) : WinsAt w' base v' (l ++ [d]) := by
  have hall : ∀ q ∈ l ++ [d], RdR w q.A q.n q.sh ∧ (0 < q.n → ∀ a, q.A = some a → v.ownBlock ≠ some a.block) := fun q hq => by
    rcases List.mem_append.1 hq with h1 | h1
    · exact ⟨h.sh q h1, h.far q h1⟩
    · obtain rfl := List.mem_singleton.1 h1
      exact ⟨hs, hf⟩
  refine ⟨by simpa using ho, fun i q hq => ?_, fun q hq => ?_, fun q hq => ?_, fun q hq hn a ha => ?_⟩
  · by_cases hi : i < l.length
    · rw [List.getElem?_append_left hi] at hq
      exact h.up i q hq
    · have hlt := (List.getElem?_eq_some_iff.1 hq).1
      simp only [List.length_append, List.length_singleton] at hlt
      obtain rfl : i = l.length := by omega
      rw [List.getElem?_append_right (Nat.le_refl _), Nat.sub_self] at hq
      obtain rfl : d = q := by simpa using hq
      exact hp
  · rcases List.mem_append.1 hq with h1 | h1
    · exact h.ok q h1
    · obtain rfl := List.mem_singleton.1 h1
      exact hd
  · exact (hall q hq).1.keepRowNe hg (hall q hq).2
  · obtain ⟨h1, h2⟩ := hall q hq
    rcases hat with e | e
    · rw [e]; exact h2 hn a ha
    · rw [e]
      obtain ⟨b, off, e1, hl, _⟩ := h1.2 hn
      rw [e1] at ha
      injection ha with ha
      subst ha
      intro e2
      injection e2 with e2
      simp only at e2
      omega
theorem WinsAt.reads {w : World} {base c : Nat} {A : Option Addr} {l : List DW} (h : WinsAt w base (.slice A l.length c) l) : RdWs w A l.length l := ⟨RdF.of_own DW.cells_len h.own rfl, h.sh⟩
theorem rcs_one (r : RC) : rcs [r] = [.int .i64 r.X, .int .i64 r.Y, .int .i64 r.W, .int .i64 r.H] := rfl
end Go.Proofs.YtdaedkolpfkdjaaGreat
end

section
namespace Go.Proofs.YtdaedkolpfkdjaaGreat
open Go.RowKit Go.Maps Go.Shelf

theorem RdF.of_blk {α : Type} {f : α → List Value} {m : Nat} (hm : ∀ x, (f x).length = m) {w : World} {g : Nat} {t : TypeId} {l : List α} {n : Nat} (h : Blk w g t (l.flatMap f).toArray) (hl : l.length = n) : RdF f m w (some ⟨g, 0, none⟩) n l := by
  refine ⟨hl, fun hn => ⟨g, 0, rfl, h.lt, fun k x hk i u hu => ?_⟩⟩
  have hi : i < m := by have := (List.getElem?_eq_some_iff.1 hu).1; rwa [hm] at this
  have hg := flat_get f m hm l k x i hk hi
  rw [hu] at hg
  rw [Nat.zero_add]
  exact h.cellV (by simpa using hg)
def awL : List DW := [⟨-1, 1, 1, 4, 3, true, false, none, 0, 0, []⟩, ⟨-1, 3, 2, 4, 3, true, false, none, 0, 0, []⟩, ⟨0, 0, 0, 2, 1, true, false, none, 0, 0, []⟩]
/-- a struct is built. -/
theorem wpList_bld {P : Program} {ops : Array Oper} {rest : List Oper} {o : Oper} {a : Act} {w : World} {Q : Exit → Act → World → Prop} (hg : o.guard = none) (cells : Array Value) (hb : bldOf P a.eval o = some cells) (h : wpList P ops Q rest (a.put o.dst (.agg cells)) w) : wpList P ops Q (o :: rest) a w := by
  refine wpList_plain hg fun K hK => ?_
  unfold Oper.wp
  rw [y_build hb]
  exact hK _ _ h
end Go.Proofs.YtdaedkolpfkdjaaGreat
end

section
namespace Go.Proofs.YtdaedkolpfkdjaaGreat
open Go.RowKit Go.Maps Go.Shelf

/-- a window of the list is no longer mapped. -/
def hideD (d : DW) : DW := { d with M := false }
end Go.Proofs.YtdaedkolpfkdjaaGreat
end

section
namespace Go.Proofs.YtdaedkolpfkdjaaGreat
open Go.RowKit Go.Maps Go.Shelf

theorem rd_nou8s {w : World} {A : Option Addr} {n : Nat} {px : List Int} (h : Rd w A n (Gr.U8 px)) {B : Nat} {t : TypeId} {cs : Array Value} (hB : Blk w B t cs) (hno : ∀ (j : Nat) (x : Int), cs[j]? ≠ some (.int .u8 x)) (i : Nat) (u : Value) : Rd (w.setCell ⟨B, i, none⟩ u) A n (Gr.U8 px) := by
 refine h.far' (p := ⟨B, i, none⟩) (fun hn a ha e => ?_) u
 obtain ⟨b, off, e1, _, hc⟩ := h.2 hn
 rw [e1] at ha
 cases ha
 dsimp only at e
 subst e
 have hl := h.1
 match px, hl with
 | [], hl => simp [Gr.U8] at hl; omega
 | x :: l, _ =>
  have := hc 0 (.int .u8 x) rfl
  rw [hB.cell] at this
  exact hno _ _ this
theorem grid_no8s (W H : Int) (A : Option Addr) (n c : Nat) : ∀ (j : Nat) (x : Int), (#[.int .i64 W, .int .i64 H, .slice A n c] : Array Value)[j]? ≠ some (.int .u8 x) := fun j x => by
 match j with
 | 0 => simp
 | 1 => simp
 | 2 => simp
 | j + 3 => simp
theorem rd_nou32s {w : World} {A : Option Addr} {n : Nat} {l : List Int} (h : Rd w A n (U32 l)) {B : Nat} {t : TypeId} {cs : Array Value} (hB : Blk w B t cs) (hno : ∀ (j : Nat) (x : Int), cs[j]? ≠ some (.int .u32 x)) (i : Nat) (u : Value) : Rd (w.setCell ⟨B, i, none⟩ u) A n (U32 l) := by
 refine h.far' (p := ⟨B, i, none⟩) (fun hn a ha e => ?_) u
 obtain ⟨b, off, e1, _, hc⟩ := h.2 hn
 rw [e1] at ha
 cases ha
 dsimp only at e
 subst e
 have hl := h.1
 match l, hl with
 | [], hl => simp [U32] at hl; omega
 | x :: l, _ =>
  have := hc 0 (.int .u32 x) rfl
  rw [hB.cell] at this
  exact hno _ _ this
theorem grid_no32s (W H : Int) (A : Option Addr) (n c : Nat) : ∀ (j : Nat) (x : Int), (#[.int .i64 W, .int .i64 H, .slice A n c] : Array Value)[j]? ≠ some (.int .u32 x) := fun j x => by
 match j with
 | 0 => simp
 | 1 => simp
 | 2 => simp
 | j + 3 => simp
set_option maxRecDepth 100000 in
set_option maxHeartbeats 8000000 in
theorem show_any (v cv : Value) (RW RH : Nat) (ns : Nodes) (bx : Int → Option VB) (og : Int → Int × Int) (nc : Nat) (cs : Its) (W H : Nat) (w : World) (hv : SeenG w v RW RH ns bx og) (hn : TreeOk ns) (hc : CanvasIs w cv nc cs) (hW : 1 ≤ W ∧ W ≤ 128) (hH : 1 ≤ H ∧ H ≤ 128) :
 Calls Tryz.prog 35 #[v, cv, .int .i64 W, .int .i64 H] w fun e w' => ∃ A c px, e = .returned (.tuple #[.agg #[.int .i64 W, .int .i64 H, .slice A (W * H) c], .int .i64 0]) ∧ Rd w' A (W * H) (Gr.U8 px) ∧ W * H ≤ c ∧ ScrAt RW RH W H ns bx cs (ordW ns bx 1) px ∧ Below w.heap.size w w' := by
 have hWH := Gr.mul_le_128 hW.2 hH.2
 have HV := Lib.hid hv
 have HN := Lib.hid hn
 have HC := Lib.hid hc
 obtain ⟨Av, nv, cw, mv, rfl⟩ := hv.form
 obtain ⟨mb, rfl⟩ : ∃ mb, cv = .agg #[.map mb] := by obtain ⟨mb, e, _⟩ := hc; exact ⟨mb, e⟩
 clear hv hn hc
 have xb := bal (bal (bal (bre w) (.cells #[.slice Av nv cw, .map mv] 52)) (.cells #[.map mb] 67)) (.cells #[.int .i64 0, .int .i64 0, .slice none 0 0] 75)
 have xv := ((Blk.new w 52 #[.slice Av nv cw, .map mv]).alloc (.cells #[.map mb] 67)).alloc (.cells #[.int .i64 0, .int .i64 0, .slice none 0 0] 75)
 have xc := (blk_new2 w (.cells #[.slice Av nv cw, .map mv] 52) 67 #[.map mb]).alloc (.cells #[.int .i64 0, .int .i64 0, .slice none 0 0] 75)
 have xr := blk_new3 w (.cells #[.slice Av nv cw, .map mv] 52) (.cells #[.map mb] 67) 75 #[.int .i64 0, .int .i64 0, .slice none 0 0]
 go_enter Tryz.func35, Tryz.ntmps35
 go_upto_region 1 with fail
 obtain ⟨X, hX⟩ : ∃ X, ((w.alloc (.cells #[.slice Av nv cw, .map mv] 52)).alloc (.cells #[.map mb] 67)).alloc (.cells #[.int .i64 0, .int .i64 0, .slice none 0 0] 75) = X := ⟨_, rfl⟩
 rw [hX] at xb xv xc xr ⊢
 have HB := Lib.hid xb
 have KV := Lib.hid xv
 have KC := Lib.hid xc
 have KR := Lib.hid xr
 clear xb xv xc xr hX
 go_wp2_with fail
 refine (Gr.new_any W H 0 _ hW hH).mono ?_
 rintro e w1 ⟨A1, c1, rfl, hr1, hc1, _, hb1⟩
 have ha1 := bal (bre w1) (.cells #[.int .i64 W, .int .i64 H, .slice A1 (W * H) c1] 75)
 have x8 := Blk.new w1 75 #[.int .i64 W, .int .i64 H, .slice A1 (W * H) c1]
 have xb := bstep (bstep HB.out hb1) ha1
 have xv := (KV.out.belowS hb1).belowS ha1
 have xc := (KC.out.belowS hb1).belowS ha1
 have xr := (KR.out.belowS hb1).belowS ha1
 have xd := hr1.below ha1
 have HLT := Lib.hid (show w.heap.size + 1 + 1 < w1.heap.size from Nat.lt_of_lt_of_le KR.out.lt hb1.size)
 clear hb1 ha1 hr1
 go_upto_region 2 with fail
 obtain ⟨g, hg⟩ : ∃ g, w1.heap.size = g := ⟨_, rfl⟩
 obtain ⟨Y, hY⟩ : ∃ Y, w1.alloc (.cells #[.int .i64 W, .int .i64 H, .slice A1 (W * H) c1] 75) = Y := ⟨_, rfl⟩
 have hlt := HLT.out
 rw [hY] at xb xv xc xr x8 xd ⊢
 rw [hg] at x8 hlt ⊢
 replace HB := Lib.hid xb
 replace KV := Lib.hid xv
 replace KC := Lib.hid xc
 replace KR := Lib.hid xr
 have KG := Lib.hid x8
 have HR1 := Lib.hid xd
 replace HLT := Lib.hid hlt
 have v0 := xv.cellV (i := 0) (v := .slice Av nv cw) rfl
 have v1 := xv.cellV (i := 1) (v := .map mv) rfl
 clear xb xv xc xr x8 xd hY hg hlt
 go_wp2_with fail
 refine (HV.out.below HB.out).windows.mono ?_
 rintro e w4 ⟨u, rfl, ho4, hid4, hln4, hb4⟩
 obtain ⟨Au, cu, rfl, _⟩ := own_form ho4
 have HRO := Lib.hid (Rd.of_own ho4)
 have HID := Lib.hid hid4
 have HFO := Lib.hid hln4
 replace HB := Lib.hid (bstep HB.out hb4)
 replace KV := Lib.hid (KV.out.belowS hb4)
 replace KC := Lib.hid (KC.out.belowS hb4)
 replace KR := Lib.hid (KR.out.belowS hb4)
 replace KG := Lib.hid (KG.out.belowS hb4)
 replace HR1 := Lib.hid (HR1.out.below hb4)
 clear ho4 hid4 hln4 hb4 v0 v1
 obtain ⟨ord, hord⟩ : ∃ o, ordW ns bx 1 = o := ⟨_, rfl⟩
 have HOE := Lib.hid hord
 have hro := HRO.out
 have hido := HID.out
 have hfo := HFO.out
 rw [hord] at hro hido hfo ⊢
 replace HRO := Lib.hid hro
 replace HID := Lib.hid hido
 obtain ⟨N, hN⟩ : ∃ N, ord.length = N := ⟨_, rfl⟩
 rw [hN] at hfo hro ⊢
 replace HRO := Lib.hid hro
 have HNL := Lib.hid hN
 clear hro hido hord hN HFO
 go_wp2_with fail
 go_loopw [32, 13, 14, 15, 16, 17, 18] (fun i _ _ _ _ _ _ wr => ∃ (k : Nat) (A2 : Option Addr) (c2 : Nat) (px : List Int), i = .int .i64 k ∧ k ≤ N ∧ W * H ≤ c2 ∧ Blk wr g 75 #[.int .i64 W, .int .i64 H, .slice A2 (W * H) c2] ∧ Rd wr A2 (W * H) (Gr.U8 px) ∧ ScrAt RW RH W H ns bx cs (ord.take k) px ∧ (Blk wr w.heap.size 52 #[.slice Av nv cw, .map mv] ∧ Blk wr (w.heap.size + 1) 67 #[.map mb] ∧ Blk wr (w.heap.size + 1 + 1) 75 #[.int .i64 0, .int .i64 0, .slice none 0 0]) ∧ Rd wr Au N (U32 ord) ∧ Below w.heap.size w wr) (fun i _ _ _ _ _ _ _ => N - (intOf i).toNat)
 case atStart => exact ⟨0, A1, c1, _, rfl, by omega, hc1, KG.out, HR1.out, ScrAt.start, ⟨KV.out, KC.out, KR.out⟩, HRO.out, HB.out⟩
 case round =>
  obtain ⟨k, A2, c2, px, rfl, hk, hc2, hkg, hr2, hsc, ⟨hkv, hkc, hkr⟩, hro, hbr⟩ := hrel
  replace KG := Lib.hid hkg
  have HR2 := Lib.hid hr2
  have HSC := Lib.hid hsc
  replace KV := Lib.hid hkv
  replace KC := Lib.hid hkc
  replace KR := Lib.hid hkr
  replace HRO := Lib.hid hro
  replace HB := Lib.hid hbr
  clear hkg hr2 hsc hkv hkc hkr hbr
  by_cases hlt : k < N
  ·
   obtain ⟨id, hid⟩ : ∃ id, ord[k]? = some id := ⟨_, List.getElem?_eq_getElem (by rw [HNL.out]; exact hlt)⟩
   obtain ⟨b, off, rfl, hbl, hcl⟩ := hro.2 (by omega)
   have q0 := hcl k (.int .u32 id) (by simp [U32, hid])
   have HII := Lib.hid (HID.out id (List.mem_of_getElem? hid))
   have HTK := Lib.hid (take_snocI' hid)
   have k0 : (0 : Int) ≤ (k : Int) := by omega
   have k1 : (k : Int) < (N : Int) := by omega
   clear hro hcl hid
   have v0 := KV.out.cellV (i := 0) (v := .slice Av nv cw) rfl
   have v1 := KV.out.cellV (i := 1) (v := .map mv) rfl
   go_wp2_with fail
   refine ((HV.out.below HB.out).clip HN.out id HII.out).mono ?_
   rintro e w5 ⟨u5, out, rfl, hreg, hpl, _, hlo, hb5⟩
   obtain ⟨Ao, co, rfl, hro5, hcan, hnr, hcnt⟩ := hreg
   have ha5 := bal (bre w5) (.cells #[.slice Ao out.length co] 57)
   have xk5 := Blk.new w5 57 #[.slice Ao out.length co]
   have HPL := Lib.hid hpl
   have HLO := Lib.hid hnr
   have HCT := Lib.hid hcnt
   have HRR := Lib.hid hro5
   have K5 := Lib.hid xk5
   replace KV := Lib.hid (KV.out.belowS hb5)
   replace KC := Lib.hid (KC.out.belowS hb5)
   replace KR := Lib.hid (KR.out.belowS hb5)
   replace KG := Lib.hid (KG.out.belowS hb5)
   replace HR2 := Lib.hid (HR2.out.below hb5)
   replace HRO := Lib.hid (HRO.out.below hb5)
   replace HB := Lib.hid (bstep HB.out hb5)
   replace KV := Lib.hid (KV.out.belowS ha5)
   replace KC := Lib.hid (KC.out.belowS ha5)
   replace KR := Lib.hid (KR.out.belowS ha5)
   replace KG := Lib.hid (KG.out.belowS ha5)
   replace HR2 := Lib.hid (HR2.out.below ha5)
   replace HRO := Lib.hid (HRO.out.below ha5)
   replace HRR := Lib.hid (HRR.out.below ha5)
   replace HB := Lib.hid (bstep HB.out ha5)
   clear hb5 ha5 hro5 xk5 hpl hnr hcnt hcan hlo q0 v0 v1
   go_upto_region 8 with fail
   have z0 := KV.out
   have z1 := KC.out
   have z2 := KR.out
   have z3 := KG.out
   have z4 := HR2.out
   have z5 := HRO.out
   have z6 := HB.out
   have z7 := HRR.out
   have z8 := K5.out
   obtain ⟨g5, hg5⟩ : ∃ g, w5.heap.size = g := ⟨_, rfl⟩
   obtain ⟨X5, hX5⟩ : ∃ X, w5.alloc (.cells #[.slice Ao out.length co] 57) = X := ⟨_, rfl⟩
   rw [hX5] at z0 z1 z2 z3 z4 z5 z6 z7 z8 ⊢
   try rw [hg5] at z8
   rw [hg5]
   replace KV := Lib.hid z0
   replace KC := Lib.hid z1
   replace KR := Lib.hid z2
   replace KG := Lib.hid z3
   replace HR2 := Lib.hid z4
   replace HRO := Lib.hid z5
   replace HB := Lib.hid z6
   replace HRR := Lib.hid z7
   replace K5 := Lib.hid z8
   clear hX5 z0 z1 z2 z3 z4 z5 z6 z7 z8
   clear hg5
   have c0 := KC.out.cellV (i := 0) (v := .map mb) rfl
   go_wp2_with fail
   refine (cgrid_any (.agg #[.map mb]) nc cs id _ HII.out (HC.out.below HB.out)).mono ?_
   rintro e w6 ⟨rfl, hb6⟩
   obtain ⟨it, hit⟩ : ∃ it, (cs id).getD zIT = it := ⟨_, rfl⟩
   obtain ⟨tb, htb⟩ : ∃ tb, (cs id).isSome = tb := ⟨_, rfl⟩
   rw [hit, htb]
   have HIT := Lib.hid hit
   have HTB := Lib.hid htb
   obtain ⟨iW, iH, iA, inn, ic, iG, iw, ib, ip⟩ := it
   have ha6 := bal (bre w6) (.cells #[.int .i64 iW, .int .i64 iH, .slice iA inn ic] 75)
   have xk6 := Blk.new w6 75 #[.int .i64 iW, .int .i64 iH, .slice iA inn ic]
   have K6 := Lib.hid xk6
   have hit' : (⟨iW, iH, iA, inn, ic, iG, iw, ib, ip⟩ : IT).g = .agg #[.int .i64 iW, .int .i64 iH, .slice iA inn ic] := rfl
   rw [hit']
   replace KV := Lib.hid (KV.out.belowS hb6)
   replace KC := Lib.hid (KC.out.belowS hb6)
   replace KR := Lib.hid (KR.out.belowS hb6)
   replace KG := Lib.hid (KG.out.belowS hb6)
   replace HR2 := Lib.hid (HR2.out.below hb6)
   replace HRO := Lib.hid (HRO.out.below hb6)
   replace HRR := Lib.hid (HRR.out.below hb6)
   replace HB := Lib.hid (bstep HB.out hb6)
   replace K5 := Lib.hid (K5.out.belowS hb6)
   replace KV := Lib.hid (KV.out.belowS ha6)
   replace KC := Lib.hid (KC.out.belowS ha6)
   replace KR := Lib.hid (KR.out.belowS ha6)
   replace KG := Lib.hid (KG.out.belowS ha6)
   replace HR2 := Lib.hid (HR2.out.below ha6)
   replace HRO := Lib.hid (HRO.out.below ha6)
   replace HRR := Lib.hid (HRR.out.below ha6)
   replace HB := Lib.hid (bstep HB.out ha6)
   replace K5 := Lib.hid (K5.out.belowS ha6)
   clear hb6 ha6 xk6 hit htb hit' c0
   go_upto_region 9 with fail
   have z0 := KV.out
   have z1 := KC.out
   have z2 := KR.out
   have z3 := KG.out
   have z4 := HR2.out
   have z5 := HRO.out
   have z6 := HB.out
   have z7 := HRR.out
   have z8 := K5.out
   have z9 := K6.out
   obtain ⟨g6, hg6⟩ : ∃ g, w6.heap.size = g := ⟨_, rfl⟩
   obtain ⟨X6, hX6⟩ : ∃ X, w6.alloc (.cells #[.int .i64 iW, .int .i64 iH, .slice iA inn ic] 75) = X := ⟨_, rfl⟩
   rw [hX6] at z0 z1 z2 z3 z4 z5 z6 z7 z8 z9 ⊢
   try rw [hg6] at z9
   rw [hg6]
   replace KV := Lib.hid z0
   replace KC := Lib.hid z1
   replace KR := Lib.hid z2
   replace KG := Lib.hid z3
   replace HR2 := Lib.hid z4
   replace HRO := Lib.hid z5
   replace HB := Lib.hid z6
   replace HRR := Lib.hid z7
   replace K5 := Lib.hid z8
   replace K6 := Lib.hid z9
   clear hX6 z0 z1 z2 z3 z4 z5 z6 z7 z8 z9
   clear hg6
   have v0 := KV.out.cellV (i := 0) (v := .slice Av nv cw) rfl
   have v1 := KV.out.cellV (i := 1) (v := .map mv) rfl
   go_wp2_with fail
   refine ((HV.out.below HB.out).origin HN.out id HII.out).mono ?_
   rintro e w7 ⟨rfl, hb7⟩
   have hco := coordB_og (HV.out.below HB.out) HN.out id
   obtain ⟨ox, hox⟩ : ∃ o, (ogG ns bx id).1 = o := ⟨_, rfl⟩
   obtain ⟨oy, hoy⟩ : ∃ o, (ogG ns bx id).2 = o := ⟨_, rfl⟩
   obtain ⟨ok, hok⟩ : ∃ o, (hasN ns id && vw ns bx id) = o := ⟨_, rfl⟩
   have HLY := Lib.hid (fun (l : List Int) (p : List Int) (it : IT) (h : ScrAt RW RH W H ns bx cs l p) (hi : cs id = some it) => h.lay hi HPL.out hco)
   have hly := HLY.out
   rw [hox, hoy] at hly
   rw [hox, hoy, hok]
   replace HLY := Lib.hid hly
   have HOK := Lib.hid hok
   have ha7 := bal (bre w7) (.cells #[.int .i64 ox, .int .i64 oy] 179)
   have xk7 := Blk.new w7 179 #[.int .i64 ox, .int .i64 oy]
   have K7 := Lib.hid xk7
   replace KV := Lib.hid (KV.out.belowS hb7)
   replace KC := Lib.hid (KC.out.belowS hb7)
   replace KR := Lib.hid (KR.out.belowS hb7)
   replace KG := Lib.hid (KG.out.belowS hb7)
   replace HR2 := Lib.hid (HR2.out.below hb7)
   replace HRO := Lib.hid (HRO.out.below hb7)
   replace HRR := Lib.hid (HRR.out.below hb7)
   replace HB := Lib.hid (bstep HB.out hb7)
   replace K5 := Lib.hid (K5.out.belowS hb7)
   replace K6 := Lib.hid (K6.out.belowS hb7)
   replace KV := Lib.hid (KV.out.belowS ha7)
   replace KC := Lib.hid (KC.out.belowS ha7)
   replace KR := Lib.hid (KR.out.belowS ha7)
   replace KG := Lib.hid (KG.out.belowS ha7)
   replace HR2 := Lib.hid (HR2.out.below ha7)
   replace HRO := Lib.hid (HRO.out.below ha7)
   replace HRR := Lib.hid (HRR.out.below ha7)
   replace HB := Lib.hid (bstep HB.out ha7)
   replace K5 := Lib.hid (K5.out.belowS ha7)
   replace K6 := Lib.hid (K6.out.belowS ha7)
   clear hb7 ha7 xk7 hox hoy hok hly hco v0 v1
   go_upto_region 10 with fail
   have z0 := KV.out
   have z1 := KC.out
   have z2 := KR.out
   have z3 := KG.out
   have z4 := HR2.out
   have z5 := HRO.out
   have z6 := HB.out
   have z7 := HRR.out
   have z8 := K5.out
   have z9 := K6.out
   have z10 := K7.out
   obtain ⟨g7, hg7⟩ : ∃ g, w7.heap.size = g := ⟨_, rfl⟩
   obtain ⟨X7, hX7⟩ : ∃ X, w7.alloc (.cells #[.int .i64 ox, .int .i64 oy] 179) = X := ⟨_, rfl⟩
   rw [hX7] at z0 z1 z2 z3 z4 z5 z6 z7 z8 z9 z10 ⊢
   try rw [hg7] at z10
   rw [hg7]
   replace KV := Lib.hid z0
   replace KC := Lib.hid z1
   replace KR := Lib.hid z2
   replace KG := Lib.hid z3
   replace HR2 := Lib.hid z4
   replace HRO := Lib.hid z5
   replace HB := Lib.hid z6
   replace HRR := Lib.hid z7
   replace K5 := Lib.hid z8
   replace K6 := Lib.hid z9
   replace K7 := Lib.hid z10
   clear hX7 z0 z1 z2 z3 z4 z5 z6 z7 z8 z9 z10
   clear hg7
   have s5 := K5.out.cellV (i := 0) (v := .slice Ao out.length co) rfl
   go_wp2_with fail
   refine (empty_any Ao out.length co _).mono ?_
   rintro e w8 ⟨rfl, hb8⟩
   replace KV := Lib.hid (KV.out.belowS hb8)
   replace KC := Lib.hid (KC.out.belowS hb8)
   replace KR := Lib.hid (KR.out.belowS hb8)
   replace KG := Lib.hid (KG.out.belowS hb8)
   replace HR2 := Lib.hid (HR2.out.below hb8)
   replace HRO := Lib.hid (HRO.out.below hb8)
   replace HRR := Lib.hid (HRR.out.below hb8)
   replace HB := Lib.hid (bstep HB.out hb8)
   replace K5 := Lib.hid (K5.out.belowS hb8)
   replace K6 := Lib.hid (K6.out.belowS hb8)
   replace K7 := Lib.hid (K7.out.belowS hb8)
   clear hb8 s5
   have HSK := Lib.hid (fun (h : cs id = none ∨ ∀ x y, shG RW RH ns bx x y id = false) => HSC.out.skip h)
   obtain ⟨ev, hev⟩ : ∃ v, decide (out.length = 0) = v := ⟨_, rfl⟩
   rw [hev]
   have HEV := Lib.hid hev
   clear hev
   cases ev
   case true =>
    as_aux_lemma =>
     have h0 : out = [] := List.length_eq_zero_iff.1 (of_decide_eq_true HEV.out)
     have hno : ∀ x y, shG RW RH ns bx x y id = false := fun x y => by
      rw [← HPL.out, h0]
      rfl
     have HSN := Lib.hid (HSK.out (.inr hno))
     clear hno h0
     go_wp2_with fail
     go_roundw
     case rel => exact ⟨k + 1, A2, c2, px, by go_num, by omega, hc2, KG.out, HR2.out, by rw [HTK.out]; exact HSN.out, ⟨KV.out, KC.out, KR.out⟩, HRO.out, HB.out⟩
     case measure => simp [intOf]; omega
   case false =>
    cases tb
    case false =>
     as_aux_lemma =>
      have hno : cs id = none := by have h1 := HTB.out; simpa using h1
      have HSN := Lib.hid (HSK.out (.inl hno))
      clear hno
      go_wp2_with fail
      go_roundw
      case rel => exact ⟨k + 1, A2, c2, px, by go_num, by omega, hc2, KG.out, HR2.out, by rw [HTK.out]; exact HSN.out, ⟨KV.out, KC.out, KR.out⟩, HRO.out, HB.out⟩
      case measure => simp [intOf]; omega
    case true =>
     cases ok
     case false =>
      as_aux_lemma =>
       have hno : ∀ x y, shG RW RH ns bx x y id = false := fun x y => by
        unfold shG
        rw [Bool.and_eq_false_iff]
        refine .inr (decide_eq_false fun e => ?_)
        obtain ⟨h1, h2⟩ := topF_vw (bx := bx) HN.out (belowAt ns 1).length 1 x y (hasN_root ns) (vw_root HN.out)
        have h3 := HOK.out
        rw [e] at h3
        unfold topN at h3
        rw [h1, h2] at h3
        cases h3
       have HSN := Lib.hid (HSK.out (.inr hno))
       clear hno
       go_wp2_with fail
       go_roundw
       case rel => exact ⟨k + 1, A2, c2, px, by go_num, by omega, hc2, KG.out, HR2.out, by rw [HTK.out]; exact HSN.out, ⟨KV.out, KC.out, KR.out⟩, HRO.out, HB.out⟩
       case measure => simp [intOf]; omega
     case true =>
      as_aux_lemma =>
       have hci : cs id = some ⟨iW, iH, iA, inn, ic, iG, iw, ib, ip⟩ := by
        have h1 := HIT.out
        have h2 := HTB.out
        cases hc : cs id with
        | none => rw [hc] at h2; cases h2
        | some i => rw [hc] at h1; exact congrArg some h1
       obtain ⟨_, _, _, hci2⟩ := HC.out.below HB.out
       have hio := hci2 id _ hci
       have HIO := Lib.hid hio
       have HCI := Lib.hid hci
       have t0 := KG.out.cellV (i := 0) (v := .int .i64 W) rfl
       have t1 := KG.out.cellV (i := 1) (v := .int .i64 H) rfl
       have t2 := KG.out.cellV (i := 2) (v := .slice A2 (W * H) c2) rfl
       have s0 := K6.out.cellV (i := 0) (v := .int .i64 iW) rfl
       have s1 := K6.out.cellV (i := 1) (v := .int .i64 iH) rfl
       have s2 := K6.out.cellV (i := 2) (v := .slice iA inn ic) rfl
       have p0 := K7.out.cellV (i := 0) (v := .int .i64 ox) rfl
       have p1 := K7.out.cellV (i := 1) (v := .int .i64 oy) rfl
       have s5 := K5.out.cellV (i := 0) (v := .slice Ao out.length co) rfl
       clear hci hci2 hio
       go_wp2_with fail
       refine (Gr.lay_any W H iW iH px ip A2 iA Ao (W * H) c2 inn ic out.length co out ox oy _ hc2 rfl hW.2 hH.2 HR2.out HIO.out.area HIO.out.wide HIO.out.high HIO.out.rd HLO.out HRR.out HCT.out).mono ?_
       rintro e w9 ⟨A9, c9, rfl, hr9, hc9, hb9⟩
       have HR9 := Lib.hid hr9
       have HSN := Lib.hid (HLY.out _ _ _ HSC.out HCI.out)
       replace KV := Lib.hid (KV.out.belowS hb9)
       replace KC := Lib.hid (KC.out.belowS hb9)
       replace KR := Lib.hid (KR.out.belowS hb9)
       replace KG := Lib.hid (KG.out.belowS hb9)
       replace HRO := Lib.hid (HRO.out.below hb9)
       replace HB := Lib.hid (bstep HB.out hb9)
       clear hb9 hr9 t0 t1 t2 s0 s1 s2 p0 p1 s5
       have t0 := KG.out.cellV (i := 0) (v := .int .i64 W) rfl
       have t1 := KG.out.cellV (i := 1) (v := .int .i64 H) rfl
       have t2 := KG.out.cellV (i := 2) (v := .slice A2 (W * H) c2) rfl
       have f0 := KG.out.frozen 0
       have f1 := KG.out.frozen 1
       have f2 := KG.out.frozen 2
       have lg := KG.out.lt
       go_wp2_with fail
       have x8 := ((KG.out.set_ 0 (.int .i64 W)).set_ 1 (.int .i64 H)).set_ 2 (.slice A9 (W * H) c9)
       have hne : ∀ b, b < g → b ≠ g := fun b h e => by omega
       have hlt := HLT.out
       have far := fun {t : TypeId} {cs : Array Value} {b : Nat} (h : Blk w9 b t cs) (hb : b < g) => ((h.far (p := ⟨g, 0, none⟩) (hne b hb) (.int .i64 W)).far (p := ⟨g, 1, none⟩) (hne b hb) (.int .i64 H)).far (p := ⟨g, 2, none⟩) (hne b hb) (.slice A9 (W * H) c9)
       have xv := far KV.out (by omega)
       have xc := far KC.out (by omega)
       have xr := far KR.out (by omega)
       have hgw : w.heap.size ≤ g := by omega
       have xb := bset (bset (bset HB.out (p := ⟨g, 0, none⟩) hgw (.int .i64 W)) (p := ⟨g, 1, none⟩) hgw (.int .i64 H)) (p := ⟨g, 2, none⟩) hgw (.slice A9 (W * H) c9)
       have x9 := rd_nou8s (rd_nou8s (rd_nou8s HR9.out KG.out (grid_no8s _ _ _ _ _) 0 (.int .i64 W)) (KG.out.set_ 0 (.int .i64 W)) (grid_no8s _ _ _ _ _) 1 (.int .i64 H)) ((KG.out.set_ 0 (.int .i64 W)).set_ 1 (.int .i64 H)) (grid_no8s _ _ _ _ _) 2 (.slice A9 (W * H) c9)
       have xo := rd_nou32s (rd_nou32s (rd_nou32s HRO.out KG.out (grid_no32s _ _ _ _ _) 0 (.int .i64 W)) (KG.out.set_ 0 (.int .i64 W)) (grid_no32s _ _ _ _ _) 1 (.int .i64 H)) ((KG.out.set_ 0 (.int .i64 W)).set_ 1 (.int .i64 H)) (grid_no32s _ _ _ _ _) 2 (.slice A9 (W * H) c9)
       go_roundw
       case rel => exact ⟨k + 1, A9, c9, _, by go_num, by omega, hc9, x8, x9, by rw [HTK.out]; exact HSN.out, ⟨xv, xc, xr⟩, xo, xb⟩
       case measure => simp [intOf]; omega
  ·
   obtain rfl : k = N := by omega
   have k1 : ¬ (k : Int) < (k : Int) := by omega
   have hall : ord.take k = ord := List.take_of_length_le (by rw [HNL.out]; exact Nat.le_refl _)
   have hsc := HSC.out
   rw [hall] at hsc
   have HSF := Lib.hid hsc
   clear hsc hall hro
   have t0 := KG.out.cellV (i := 0) (v := .int .i64 W) rfl
   have t1 := KG.out.cellV (i := 1) (v := .int .i64 H) rfl
   have t2 := KG.out.cellV (i := 2) (v := .slice A2 (W * H) c2) rfl
   have r0 := KR.out.cellV (i := 0) (v := .int .i64 0) rfl
   have r1 := KR.out.cellV (i := 1) (v := .int .i64 0) rfl
   have r2 := KR.out.cellV (i := 2) (v := .slice none 0 0) rfl
   have f0 := KR.out.frozen 0
   have f1 := KR.out.frozen 1
   have f2 := KR.out.frozen 2
   have lr := KR.out.lt
   go_wp2_with fail
   have h9 := ((KR.out.set_ 0 (.int .i64 W)).set_ 1 (.int .i64 H)).set_ 2 (.slice A2 (W * H) c2)
   have q0 := h9.cellV (i := 0) (v := .int .i64 W) rfl
   have q1 := h9.cellV (i := 1) (v := .int .i64 H) rfl
   have q2 := h9.cellV (i := 2) (v := .slice A2 (W * H) c2) rfl
   have hle : w.heap.size ≤ w.heap.size + 1 + 1 := by omega
   have xb := bset (bset (bset HB.out (p := ⟨w.heap.size + 1 + 1, 0, none⟩) hle (.int .i64 W)) (p := ⟨w.heap.size + 1 + 1, 1, none⟩) hle (.int .i64 H)) (p := ⟨w.heap.size + 1 + 1, 2, none⟩) hle (.slice A2 (W * H) c2)
   have xr := rd_nou8s (rd_nou8s (rd_nou8s HR2.out KR.out (grid_no8s _ _ _ _ _) 0 (.int .i64 W)) (KR.out.set_ 0 (.int .i64 W)) (grid_no8s _ _ _ _ _) 1 (.int .i64 H)) ((KR.out.set_ 0 (.int .i64 W)).set_ 1 (.int .i64 H)) (grid_no8s _ _ _ _ _) 2 (.slice A2 (W * H) c2)
   exact bodyPost_ret (v := .tuple #[.agg #[.int .i64 W, .int .i64 H, .slice A2 (W * H) c2], .int .i64 0]) (by simp [results, Tryz.results35, go_sem, q0, q1, q2]) rfl ⟨A2, c2, rfl, px, xr, hc2, HOE.out.symm ▸ HSF.out, xb⟩
end Go.Proofs.YtdaedkolpfkdjaaGreat
end
