/-
  The walk of a tree's Remove: its closure, and what it asks first.
  The walk of a tree's take: a window's place among its parent's kids goes.
  Plainly: a window that isn't mapped might as well not be there; a window that is raised shows no less.
  A tree from which a window has gone: how many nodes are left.
  How many entries a map has that is keyed by numbers: as many as there are numbers that have one.
  A tree of the call's own from whose lists one window has gone, and then keys: what tree it is at the end.
  The walk of a tree's take at a twin: what it leaves.
  delete on a map with raw elements, and the walk of a place's Drop.
  The walk of a tree's Remove.
  The walks of slices.Equal at rectangles, and of band.Same. (What PSetsA has of it, for a seat without PlaceSets.)
  The walk of glazierlaw31.windows: the document's windows of a scene.
  The walk of glazierlaw31.awake: the document's example.
  What the laws ViewHidden and ViewRaises have in common: a window of the list written, blocks, the trees.
-/
import Derived.Test.YtdaedkolpfkdjaaGreatZV23
import Derived.Test.YtdaedkolpfkdjaaGreatZV06
import Derived.Test.YtdaedkolpfkdjaaGreatZV27
import Derived.Test.YtdaedkolpfkdjaaGreatZV01
import Derived.Test.YtdaedkolpfkdjaaGreatZV02
import Derived.Test.YtdaedkolpfkdjaaGreatZV03
import Derived.Test.YtdaedkolpfkdjaaGreatZV17
import Derived.Test.YtdaedkolpfkdjaaGreatZV24
import Derived.Test.YtdaedkolpfkdjaaGreatZV25
import Derived.Laws.Closers25b
import Derived.Maps.AppendAt
section
namespace Go.Proofs.YtdaedkolpfkdjaaGreat
open Go.RowKit Go.Maps Go.Shelf

/-- the removal's own value: its captured variables. -/
def rwalkF (bt bw bo : Nat) : Value := .func (.func 83) #[] #[.pointer (some ⟨bt, 0, none⟩), .pointer (some ⟨bw, 0, none⟩), .pointer (some ⟨bo, 0, none⟩)]
/-- a list on the way: the first i places have been moved up. -/
def midL (l : List Int) (k i : Nat) : List Int := (l.eraseIdx k).take i ++ l.drop i
def zs1 (n : Nat) : List Value := (Builtin.zeroCells #[.int .u32 0] n).toList
end Go.Proofs.YtdaedkolpfkdjaaGreat
end

section
namespace Go.Proofs.YtdaedkolpfkdjaaGreat
open Go.RowKit Go.Maps Go.Shelf

end Go.Proofs.YtdaedkolpfkdjaaGreat
end

section
namespace Go.Proofs.YtdaedkolpfkdjaaGreat

section
variable {ns : Nodes} {bx : Int → Option VB}
/-- a tree without a window, and all below it. -/
def cutN (ns : Nodes) (k : Int) : Nodes := ns.filter fun q => !(belowAt ns k).contains q.1
theorem mem_cutN {k : Int} {q : Int × Int} : q ∈ cutN ns k ↔ q ∈ ns ∧ q.1 ∉ belowAt ns k := by
  unfold cutN
  rw [List.mem_filter]
  simp
theorem cut_up (h : TreeOk ns) {k i : Int} (hi : i ∉ belowAt ns k) : upOf (cutN ns k) i = upOf ns i := by
  have hnd : ((cutN ns k).map (·.1)).Nodup := h.nodup.sublist (List.filter_sublist.map _)
  cases hu : upOf ns i with
  | some p => exact upOf_mem hnd (mem_cutN.2 ⟨upOf_some hu, hi⟩)
  | none =>
    cases hc : upOf (cutN ns k) i with
    | none => rfl
    | some p =>
      have := upOf_mem h.nodup (mem_cutN.1 (upOf_some hc)).1
      rw [hu] at this
      cases this
theorem kid_out (h : TreeOk ns) {k i j : Int} (hk : hasN ns k = true) (hi : i ∉ belowAt ns k) (hj : j ∈ kidsOf ns i) : j ∈ belowAt ns k ↔ j = k := by
  have hp := upOf_mem h.nodup (kids_mem.1 hj)
  rw [below_iff h hk] at hi ⊢
  rw [(path_step h hp).1, List.mem_cons]
  constructor
  · rintro (e | e)
    · exact e.symm
    · exact absurd e hi
  · exact fun e => .inl e.symm
theorem cut_kids (h : TreeOk ns) {k i : Int} (hk : hasN ns k = true) (hi : i ∉ belowAt ns k) : kidsOf (cutN ns k) i = (kidsOf ns i).filter fun j => decide (j ≠ k) := by
  unfold kidsOf cutN
  rw [List.filter_filter, List.filter_map, List.filter_filter]
  congr 1
  refine List.filter_congr (fun q hq => ?_)
  cases e : q.2 == i with
  | false => simp
  | true =>
    rw [beq_iff_eq] at e
    have hj : q.1 ∈ kidsOf ns i := kids_mem.2 (by rw [← e]; exact hq)
    have := kid_out h hk hi hj
    simp only [Bool.true_and, Bool.and_true, Function.comp]
    rw [Bool.eq_iff_iff]
    simp [this]
theorem cut_has (h : TreeOk ns) {k i : Int} (hi : i ∉ belowAt ns k) : hasN (cutN ns k) i = hasN ns i := by
  unfold hasN
  rw [cut_up h hi]
end

section
variable {ns : Nodes} {bx : Int → Option VB}
/-- a tree in which a window is raised to the top of its siblings. -/
def topmost (ns : Nodes) (k p : Int) : Nodes := (ns.filter fun q => decide (q.1 ≠ k)) ++ [(k, p)]
end
end Go.Proofs.YtdaedkolpfkdjaaGreat
end

section
namespace Go.Proofs.YtdaedkolpfkdjaaGreat
open Go.RowKit Go.Maps Go.Shelf

theorem cut_up_all {ns : Nodes} (h : TreeOk ns) (k j : Int) : upOf (cutN ns k) j = if j ∈ belowAt ns k then none else upOf ns j := by
  by_cases hj : j ∈ belowAt ns k
  · rw [if_pos hj]
    cases hu : upOf (cutN ns k) j with
    | none => rfl
    | some p => exact absurd hj (mem_cutN.1 (upOf_some hu)).2
  · rw [if_neg hj]
    exact cut_up h hj
/-- a map from which some keys have gone. -/
def goneF (f : Int → Option Value) (l : List Int) : Int → Option Value := fun j => if j ∈ l then none else f j
theorem goneF_nil (f : Int → Option Value) : goneF f [] = f := by
  funext j
  simp [goneF]
theorem goneF_perm (f : Int → Option Value) {l m : List Int} (h : l.Perm m) : goneF f l = goneF f m := by
  funext j
  unfold goneF
  by_cases hj : j ∈ l
  · rw [if_pos hj, if_pos (h.mem_iff.1 hj)]
  · rw [if_neg hj, if_neg (fun e => hj (h.mem_iff.2 e))]
end Go.Proofs.YtdaedkolpfkdjaaGreat
end

section
namespace Go.Proofs.YtdaedkolpfkdjaaGreat
open Go.RowKit Go.Maps

section
variable {P : Program} {k : TypeId} {q : IntKind} {w : World} {b n : Nat} {f : Int → Option Value}
theorem sameKey_int (i : Int) : (Lit.int q i).sameKey (.int q i) = true := by simp [Lit.sameKey]
theorem MapIs.keyList (hk : P.underlying k = some (.int q)) (h : MapIs P k q w b n f) : ∃ ks : List Int, ks.Nodup ∧ ks.length = n ∧ ∀ i, i ∈ ks ↔ (f i).isSome = true := by
  obtain ⟨D, hD, hs, hh, _⟩ := h
  have hT := hD.tidy (int_keyed hk)
  obtain ⟨es, cl, h1, hF, h3, h4⟩ := hD
  obtain ⟨E, hE, hp⟩ := hT
  have hint : ∀ p ∈ E, ∃ i, p.1 = .int q i := by
    intro p hpE
    rw [hE] at h4
    injection h4 with h4
    rw [h4, mem_sorted, List.mem_map] at hpE
    obtain ⟨x, hx, rfl⟩ := hpE
    obtain ⟨y, hy⟩ := hF.reads x hx
    have hkey := WideElems.rd_key hy
    have e : (WideElems.rg P k rawR x).1 = y.1 := by simp [WideElems.rg, hy]
    rw [e]
    simp [keyOf, hk] at hkey
    cases hx2 : x.key <;> rw [hx2] at hkey <;> simp [mapKey, hk] at hkey
    obtain ⟨_, h9⟩ := hkey
    exact ⟨_, h9.symm⟩
  subst hE
  rw [size_eq] at hs
  refine ⟨E.map fun p => match p.1 with | .int _ i => i | _ => 0, ?_, by rw [List.length_map, hs], fun i => ⟨fun hi => ?_, fun hi => ?_⟩⟩
  · rw [List.Nodup, List.pairwise_map]
    refine hp.imp_of_mem (fun {a c} ha hc hne e => hne ?_)
    obtain ⟨i, hi⟩ := hint a ha
    obtain ⟨j, hj⟩ := hint c hc
    rw [hi, hj] at e ⊢
    dsimp only at e
    rw [e]
  · obtain ⟨p, hpE, rfl⟩ := List.mem_map.1 hi
    obtain ⟨i, hi⟩ := hint p hpE
    rw [← hh, hi]
    dsimp only
    rw [has_eq, List.any_eq_true]
    exact ⟨p, hpE, by rw [hi]; exact sameKey_int i⟩
  · rw [← hh, has_eq, List.any_eq_true] at hi
    obtain ⟨p, hpE, hs2⟩ := hi
    have := WideAt.sameKey_eq hs2
    exact List.mem_map.2 ⟨p, hpE, by rw [this]⟩
theorem sub_len : ∀ {l m : List Int}, l.Nodup → (∀ x ∈ l, x ∈ m) → l.length ≤ m.length
  | [], _, _, _ => Nat.zero_le _
  | a :: l, m, hn, h => by
    have ha := h a (by simp)
    rw [List.nodup_cons] at hn
    have := sub_len (l := l) (m := m.erase a) hn.2 (fun x hx => (List.mem_erase_of_ne (fun e => hn.1 (by rw [← e]; exact hx))).2 (h x (by simp [hx])))
    rw [List.length_erase_of_mem ha] at this
    have hp := List.length_pos_of_mem ha
    simp only [List.length_cons]
    omega
/-- as many entries as there are numbers that have one. -/
theorem MapIs.count (hk : P.underlying k = some (.int q)) (h : MapIs P k q w b n f) {L : List Int} (hL : L.Nodup) (hf : ∀ i, i ∈ L ↔ (f i).isSome = true) : n = L.length := by
  obtain ⟨ks, h1, h2, h3⟩ := h.keyList hk
  rw [← h2]
  exact Nat.le_antisymm (sub_len h1 fun x hx => (hf x).2 ((h3 x).1 hx)) (sub_len hL fun x hx => (h3 x).2 ((hf x).1 hx))
theorem MapIs.atMost (hk : P.underlying k = some (.int q)) (h : MapIs P k q w b n f) {L : List Int} (hf : ∀ i, (f i).isSome = true → i ∈ L) : n ≤ L.length := by
  obtain ⟨ks, h1, h2, h3⟩ := h.keyList hk
  rw [← h2]
  exact sub_len h1 fun x hx => hf x ((h3 x).1 hx)
end
end Go.Proofs.YtdaedkolpfkdjaaGreat
end

section
namespace Go.Proofs.YtdaedkolpfkdjaaGreat
open Go.RowKit Go.Maps Go.Shelf

/-- a window's kids without one. -/
def kidsC (ns : Nodes) (id i : Int) : List Int := (kidsOf ns i).filter fun j => decide (j ≠ id)
theorem kidsC_other {ns : Nodes} (h : TreeOk ns) {id p i : Int} (hp : upOf ns id = some p) (hi : i ≠ p) : kidsC ns id i = kidsOf ns i := by
  unfold kidsC
  rw [List.filter_eq_self]
  intro j hj
  refine decide_eq_true (fun e => hi ?_)
  have h1 := (kids_up h hj).1
  rw [e, hp] at h1
  exact (Option.some.inj h1).symm
/-- the windows on the way. -/
structure CutIs (w : World) (base : Nat) (ns : Nodes) (id : Int) (kb ub nk nu : Nat) (gk gu : List Int) (fk : Int → Option Value) : Prop where
  kids : MapIs Tryz.prog 48 .u32 w kb nk (goneF fk gk)
  up : MapIs Tryz.prog 48 .u32 w ub nu (goneF (fun i => (upOf ns i).map (Value.int .u32)) gu)
  own : ∀ i v, fk i = some v → w.ownsRow base 48 1 v (kidsC ns id i).length (U32 (kidsC ns id i))
  far : ∀ i v, fk i = some v → v.ownBlock ≠ some kb ∧ v.ownBlock ≠ some ub
  nil : ∀ i, fk i = Option.none → kidsC ns id i = []
  keys : ∀ i, (fk i).isSome = true → hasN ns i = true
  lok : base ≤ kb
  lou : base ≤ ub
  ne : kb ≠ ub
  few : ns.length ≤ 1000
  ok : okN ns
section
variable {w w' : World} {base : Nat} {ns : Nodes} {id : Int} {kb ub nk nu : Nat} {gk gu : List Int} {fk : Int → Option Value}
theorem CutIs.below (h : CutIs w base ns id kb ub nk nu gk gu fk) (hb : Below w.heap.size w w') : CutIs w' base ns id kb ub nk nu gk gu fk :=
  ⟨h.kids.below hb, h.up.below hb, fun i v hv => ownsRow_below (h.own i v hv) hb, h.far, h.nil, h.keys, h.lok, h.lou, h.ne, h.few, h.ok⟩
theorem cut_kids_in (hT : TreeOk ns) (hk : hasN ns id = true) {i : Int} (hi : i ∈ belowAt ns id) : kidsOf (cutN ns id) i = [] := by
  refine List.eq_nil_iff_forall_not_mem.2 (fun j hj => ?_)
  obtain ⟨h1, h2⟩ := mem_cutN.1 (kids_mem.1 hj)
  have hup := upOf_mem hT.nodup (show (j, i) ∈ ns from h1)
  refine h2 ?_
  rw [below_iff hT hk] at hi
  show j ∈ _
  rw [below_iff hT hk, (path_step hT hup).1]
  exact List.mem_cons_of_mem _ hi
theorem CutIs.done (h : CutIs w base ns id kb ub nk nu gk gu fk) (hT : TreeOk ns) (hk : hasN ns id = true) (hgk : gk.Perm (belowAt ns id)) (hgu : gu.Perm (belowAt ns id)) : TreeOwn w base (cutN ns id) kb ub nk (goneF fk (belowAt ns id)) := by
  have hkm := h.kids
  have hum := h.up
  rw [goneF_perm _ hgk] at hkm
  rw [goneF_perm _ hgu] at hum
  have hfu : goneF (fun i => (upOf ns i).map (Value.int .u32)) (belowAt ns id) = fun i => (upOf (cutN ns id) i).map (Value.int .u32) := by
    funext i
    unfold goneF
    rw [cut_up_all hT]
    by_cases e : i ∈ belowAt ns id <;> simp [e]
  rw [hfu] at hum
  have hnd : ((cutN ns id).map (·.1)).Nodup := hT.nodup.sublist (List.filter_sublist.map _)
  have hnu : nu = (cutN ns id).length := by
    have := hum.count Tryz.underlying48 hnd (fun i => by
      rw [Option.isSome_map, List.mem_map]
      constructor
      · rintro ⟨q, hq, rfl⟩
        rw [upOf_mem hnd (show (q.1, q.2) ∈ cutN ns id from hq)]
        rfl
      · intro hi
        obtain ⟨p, hp⟩ := Option.isSome_iff_exists.1 hi
        exact ⟨(i, p), upOf_some hp, rfl⟩)
    rwa [List.length_map] at this
  rw [hnu] at hum
  have hkeys : ∀ i, (goneF fk (belowAt ns id) i).isSome = true → hasN (cutN ns id) i = true := fun i hi => by
    unfold goneF at hi
    by_cases e : i ∈ belowAt ns id
    · rw [if_pos e] at hi; cases hi
    · rw [if_neg e] at hi
      rw [cut_has hT e]
      exact h.keys i hi
  refine ⟨hkm, hum, fun i v hv => ?_, fun i hi => ?_, h.lok, h.lou, ?_, ?_, fun q hq => h.ok q (mem_cutN.1 hq).1, hkeys⟩
  · unfold goneF at hv
    by_cases e : i ∈ belowAt ns id
    · rw [if_pos e] at hv; cases hv
    · rw [if_neg e] at hv
      rw [cut_kids hT hk e]
      exact h.own i v hv
  · unfold goneF at hi
    by_cases e : i ∈ belowAt ns id
    · exact cut_kids_in hT hk e
    · rw [if_neg e] at hi
      rw [cut_kids hT hk e]
      exact h.nil i hi
  · have := hkm.atMost Tryz.underlying48 (L := 1 :: (cutN ns id).map (·.1)) (fun i hi => by
      rcases hasN_iff.1 (hkeys i hi) with e | ⟨p, hp⟩
      · rw [e]; simp
      · exact List.mem_cons_of_mem _ (List.mem_map.2 ⟨(i, p), upOf_some hp, rfl⟩))
    simpa using this
  · exact Nat.le_trans (List.length_filter_le _ _) h.few
end
end Go.Proofs.YtdaedkolpfkdjaaGreat
end

section
namespace Go.Proofs.YtdaedkolpfkdjaaGreat
open Go.RowKit Go.Maps Go.Shelf

/-- a row that lies in a block known whole. -/
theorem blk_row {w : World} {base g n c e : Nat} {xs tl : List Value} (h : Blk w g e (xs ++ tl).toArray) (hb : base ≤ g) (hl : xs.length = n) (hc : n + tl.length = c) (hm : c ≤ maxLen) : w.ownsRow base e 1 (.slice (some ⟨g, 0, none⟩) n c) n xs := by
  refine ⟨by omega, .inr ⟨g, c, (xs ++ tl).toArray, rfl, hb, h, by omega, hm, by simp; omega, ?_⟩⟩
  simp only [Nat.mul_one]
  rw [← hl]
  exact List.take_left
theorem TwinIs.cut {w w' X : World} {base : Nat} {ns : Nodes} {kb ub nk g n c : Nat} {fk : Int → Option Value} {id p : Int} {tl : List Value} (h : TwinIs w base ns kb ub nk fk) (hT : TreeOk ns) (hup : upOf ns id = some p) (hn : (kidsOf ns p).length = n) (hc : (n - 1) + tl.length = c) (hcm : c ≤ maxLen)
    (hfk : fk p = some (.slice (some ⟨g, 0, none⟩) n c)) (hm : MapIs Tryz.prog 48 .u32 w' kb nk (fun j => if j = p then some (.slice (some ⟨g, 0, none⟩) (n - 1) c) else fk j)) (hb : Blk w' g 48 (U32 (kidsC ns id p) ++ tl).toArray) (hlc : (kidsC ns id p).length = n - 1) (h1 : w.grownBy X (some g)) (h2 : X.grownBy w' (some kb)) :
    CutIs w' base ns id kb ub nk ns.length [] [] (fun j => if j = p then some (.slice (some ⟨g, 0, none⟩) (n - 1) c) else fk j) := by
  have hfp := h.far p _ hfk
  have hbg : base ≤ g := own_ge (h.own p _ hfk) g rfl
  refine ⟨by rw [goneF_nil]; exact hm, ?_, fun i v hv => ?_, fun i v hv => ?_, fun i hi => ?_, fun i hi => ?_, h.lok, h.lou, h.ne, h.few, h.ok⟩
  · rw [goneF_nil]
    exact (h.up.kept h1 (fun e => hfp.2 e.symm)).kept h2 (fun e => h.ne (Option.some.inj e).symm)
  · by_cases e : i = p
    · subst e
      rw [if_pos rfl] at hv
      injection hv with hv
      subst hv
      rw [hlc]
      exact blk_row hb hbg (by rw [U32_len, hlc]) hc hcm
    · rw [if_neg e] at hv
      rw [kidsC_other hT hup e]
      refine ((h.own i v hv).kept h1 ?_).kept h2 (.inr (h.far i v hv).1)
      exact h.apart i p v _ hv hfk e
  · by_cases e : i = p
    · rw [if_pos e] at hv
      injection hv with hv
      subst hv
      exact hfp
    · rw [if_neg e] at hv
      exact h.far i v hv
  · by_cases e : i = p
    · rw [if_pos e] at hi; cases hi
    · rw [if_neg e] at hi
      rw [kidsC_other hT hup e]
      exact h.nil i hi
  · by_cases e : i = p
    · rw [e]; exact h.keys p (by rw [hfk]; rfl)
    · rw [if_neg e] at hi
      exact h.keys i hi
end Go.Proofs.YtdaedkolpfkdjaaGreat
end

section
namespace Go.Proofs.YtdaedkolpfkdjaaGreat
open Go.RowKit Go.Maps Go.Shelf

section
variable {P : Program} {k e t : TypeId} {q : IntKind} {w w' : World} {b n : Nat} {f : Int → Option Value}
variable {ops : Array Oper} {rest : List Oper} {o : Oper} {a : Act} {Q : Exit → Act → World → Prop}
end

/-- boxes without those of some windows; the root's stays. -/
def dropBs (bs : Bxs) (ids : List Int) : Bxs := fun i => if i ∈ ids ∧ i ≠ 1 then none else bs i
end Go.Proofs.YtdaedkolpfkdjaaGreat
end

section
namespace Go.Proofs.YtdaedkolpfkdjaaGreat
open Go.RowKit Go.Maps Go.Shelf

end Go.Proofs.YtdaedkolpfkdjaaGreat
end

section
namespace Go.Proofs.YtdaedkolpfkdjaaGreat
open Go.RowKit Go.Maps Go.Shelf

theorem run_neq_rcE (w : World) (a b c d a' b' c' d' : Int) : (binOp .neq 103 (.agg #[.int .i64 a, .int .i64 b, .int .i64 c, .int .i64 d]) (.agg #[.int .i64 a', .int .i64 b', .int .i64 c', .int .i64 d'])).run Tryz.prog w = .ok (.bool (!(a == a' && b == b' && c == c' && d == d'))) w := by
  cases h1 : (a == a') <;> cases h2 : (b == b') <;> cases h3 : (c == c') <;> cases h4 : (d == d') <;> simp [go_sem, h1, h2, h3, h4]
attribute [local go_sem ↓] run_neq_rcE

end Go.Proofs.YtdaedkolpfkdjaaGreat
end

section
namespace Go.Proofs.YtdaedkolpfkdjaaGreat
open Go.RowKit Go.Maps Go.Shelf

/-- a window of a small scene. -/
structure PN where
  U : Int
  X : Int
  Y : Int
  W : Int
  H : Int
  F : Int
  s0 : Int
  s1 : Int
  s2 : Int
  s3 : Int
  s4 : Int
  s5 : Int
  s6 : Int
  s7 : Int
def PN.cells (p : PN) : List Value := [.int .u8 p.U, .int .i8 p.X, .int .i8 p.Y, .int .i8 p.W, .int .i8 p.H, .int .u8 p.F, .int .u8 p.s0, .int .u8 p.s1, .int .u8 p.s2, .int .u8 p.s3, .int .u8 p.s4, .int .u8 p.s5, .int .u8 p.s6, .int .u8 p.s7]
structure PN.ok (p : PN) : Prop where
  u : 0 ≤ p.U ∧ p.U ≤ 255
  x : -128 ≤ p.X ∧ p.X ≤ 127
  y : -128 ≤ p.Y ∧ p.Y ≤ 127
  w : -128 ≤ p.W ∧ p.W ≤ 127
  h : -128 ≤ p.H ∧ p.H ≤ 127
  f : 0 ≤ p.F ∧ p.F ≤ 255
  s : ((0 ≤ p.s0 ∧ p.s0 ≤ 255) ∧ (0 ≤ p.s1 ∧ p.s1 ≤ 255) ∧ (0 ≤ p.s2 ∧ p.s2 ≤ 255) ∧ 0 ≤ p.s3 ∧ p.s3 ≤ 255) ∧ (0 ≤ p.s4 ∧ p.s4 ≤ 255) ∧ (0 ≤ p.s5 ∧ p.s5 ≤ 255) ∧ (0 ≤ p.s6 ∧ p.s6 ≤ 255) ∧ 0 ≤ p.s7 ∧ p.s7 ≤ 255
theorem RdR.keepRowNe {w w' : World} {A : Option Addr} {n : Nat} {rs : List RC} {row : Option Nat} (h : RdR w A n rs) (hg : w.grownBy w' row) (hne : 0 < n → ∀ a, A = some a → row ≠ some a.block) : RdR w' A n rs :=
  ⟨h.1, fun hn => by
    obtain ⟨b, off, e, hl, hc⟩ := h.2 hn
    refine ⟨b, off, e, Nat.lt_of_lt_of_le hl hg.size, fun k r hk => ?_⟩
    have hb : w'.heap[b]? = w.heap[b]? := hg.block b hl (fun e' => hne hn _ e e'.symm)
    have hcell : ∀ o, w'.cell? ⟨b, o, none⟩ = w.cell? ⟨b, o, none⟩ := fun o => by unfold World.cell?; simp only [hb]
    obtain ⟨c0, c1, c2, c3⟩ := hc k r hk
    exact ⟨(hcell _).trans c0, (hcell _).trans c1, (hcell _).trans c2, (hcell _).trans c3⟩⟩
/-- windows made so far: all are well, their shapes lie apart from the list. -/
structure WinsAt (w : World) (base : Nat) (v : Value) (l : List DW) : Prop where
  own : w.ownsRow base 33 8 v l.length (l.flatMap DW.cells)
  up : UpOk l
  ok : ∀ d ∈ l, DWok d
  sh : ∀ d ∈ l, RdR w d.A d.n d.sh
  far : ∀ d ∈ l, 0 < d.n → ∀ a, d.A = some a → v.ownBlock ≠ some a.block
theorem WinsAt.below {w w' : World} {base : Nat} {v : Value} {l : List DW} (h : WinsAt w base v l) (hb : Below w.heap.size w w') : WinsAt w' base v l :=
  ⟨ownsRow_below h.own hb, h.up, h.ok, fun d hd => (h.sh d hd).below hb, h.far⟩
theorem WinsAt.snoc {w w' : World} {base : Nat} {v v' : Value} {l : List DW} {d : DW} (h : WinsAt w base v l) (hd : DWok d) (hp : -1 ≤ d.P ∧ d.P < (l.length : Int)) (hs : RdR w d.A d.n d.sh) (hf : 0 < d.n → ∀ a, d.A = some a → v.ownBlock ≠ some a.block)
    (hg : w.grownBy w' v.ownBlock) (ho : w'.ownsRow base 33 8 v' (l.length + 1) (l.flatMap DW.cells ++ d.cells)) (hat : v'.ownBlock = v.ownBlock ∨ v'.ownBlock = some w.heap.size) : WinsAt w' base v' (l ++ [d]) := by
  have hall : ∀ q ∈ l ++ [d], RdR w q.A q.n q.sh ∧ (0 < q.n → ∀ a, q.A = some a → v.ownBlock ≠ some a.block) := fun q hq => by
    rcases List.mem_append.1 hq with h1 | h1
    · exact ⟨h.sh q h1, h.far q h1⟩
    · obtain rfl := List.mem_singleton.1 h1
      exact ⟨hs, hf⟩
  refine ⟨by simpa using ho, fun i q hq => ?_, fun q hq => ?_, fun q hq => ?_, fun q hq hn a ha => ?_⟩
  · by_cases hi : i < l.length
    · rw [List.getElem?_append_left hi] at hq
      exact h.up i q hq
    · have hlt := (List.getElem?_eq_some_iff.1 hq).1
      simp only [List.length_append, List.length_singleton] at hlt
      obtain rfl : i = l.length := by omega
      rw [List.getElem?_append_right (Nat.le_refl _), Nat.sub_self] at hq
      obtain rfl : d = q := by simpa using hq
      exact hp
  · rcases List.mem_append.1 hq with h1 | h1
    · exact h.ok q h1
    · obtain rfl := List.mem_singleton.1 h1
      exact hd
  · exact (hall q hq).1.keepRowNe hg (hall q hq).2
  · obtain ⟨h1, h2⟩ := hall q hq
    rcases hat with e | e
    · rw [e]; exact h2 hn a ha
    · rw [e]
      obtain ⟨b, off, e1, hl, _⟩ := h1.2 hn
      rw [e1] at ha
      injection ha with ha
      subst ha
      intro e2
      injection e2 with e2
      simp only at e2
      omega
theorem WinsAt.reads {w : World} {base c : Nat} {A : Option Addr} {l : List DW} (h : WinsAt w base (.slice A l.length c) l) : RdWs w A l.length l := ⟨RdF.of_own DW.cells_len h.own rfl, h.sh⟩
theorem news_new (w : World) (cs : List Value) (t : TypeId) : ∀ j u, cs[j]? = some u → (w.alloc (.cells cs.toArray t)).cell? ((⟨w.heap.size, 0, none⟩ : Addr).add j) = some u := by
  intro j u hj
  have h := (Blk.new w t cs.toArray).cellV (i := j) (v := u) (by simpa using hj)
  unfold Addr.add
  split
  · rename_i e; rw [e] at h; exact h
  · rw [Nat.zero_add]; exact h
theorem rcs_one (r : RC) : rcs [r] = [.int .i64 r.X, .int .i64 r.Y, .int .i64 r.W, .int .i64 r.H] := rfl
theorem blk_putsAll {w : World} {g : Nat} {t : TypeId} {cs : Array Value} (vs : Array Value) (hl : vs.size = cs.size) (h : Blk w g t cs) : Blk (World.setCells w g 0 vs.toList) g t vs := by
  have h1 := blk_all vs.toList 0 w cs.toList (by simpa using h) (by simp [hl])
  have e : (cs.toList.take 0 ++ vs.toList ++ cs.toList.drop (0 + vs.toList.length)).toArray = vs := by
    rw [List.drop_of_length_le (by simp [hl])]
    simp
  rw [e] at h1
  exact h1

end Go.Proofs.YtdaedkolpfkdjaaGreat
end

section
namespace Go.Proofs.YtdaedkolpfkdjaaGreat
open Go.RowKit Go.Maps Go.Shelf

theorem RdF.of_blk {α : Type} {f : α → List Value} {m : Nat} (hm : ∀ x, (f x).length = m) {w : World} {g : Nat} {t : TypeId} {l : List α} {n : Nat} (h : Blk w g t (l.flatMap f).toArray) (hl : l.length = n) : RdF f m w (some ⟨g, 0, none⟩) n l := by
  refine ⟨hl, fun hn => ⟨g, 0, rfl, h.lt, fun k x hk i u hu => ?_⟩⟩
  have hi : i < m := by have := (List.getElem?_eq_some_iff.1 hu).1; rwa [hm] at this
  have hg := flat_get f m hm l k x i hk hi
  rw [hu] at hg
  rw [Nat.zero_add]
  exact h.cellV (by simpa using hg)
def awL : List DW := [⟨-1, 1, 1, 4, 3, true, false, none, 0, 0, []⟩, ⟨-1, 3, 2, 4, 3, true, false, none, 0, 0, []⟩, ⟨0, 0, 0, 2, 1, true, false, none, 0, 0, []⟩]
/-- a struct is built. -/
theorem wpList_bld {P : Program} {ops : Array Oper} {rest : List Oper} {o : Oper} {a : Act} {w : World} {Q : Exit → Act → World → Prop} (hg : o.guard = none) (cells : Array Value) (hb : bldOf P a.eval o = some cells) (h : wpList P ops Q rest (a.put o.dst (.agg cells)) w) : wpList P ops Q (o :: rest) a w := by
  refine wpList_plain hg fun K hK => ?_
  unfold Oper.wp
  rw [y_build hb]
  exact hK _ _ h
end Go.Proofs.YtdaedkolpfkdjaaGreat
end

section
namespace Go.Proofs.YtdaedkolpfkdjaaGreat
open Go.RowKit Go.Maps Go.Shelf

/-- a window of the list is no longer mapped. -/
def hideD (d : DW) : DW := { d with M := false }
end Go.Proofs.YtdaedkolpfkdjaaGreat
end
