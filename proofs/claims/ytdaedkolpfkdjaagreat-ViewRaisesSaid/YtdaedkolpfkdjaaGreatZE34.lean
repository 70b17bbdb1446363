/-
  A tree from which a window has gone: how many nodes are left.
  How many entries a map has that is keyed by numbers: as many as there are numbers that have one.
  A tree of the call's own from whose lists one window has gone, and then keys: what tree it is at the end.
  The walk of a tree's take at a twin: what it leaves.
  delete on a map with raw elements, and the walk of a place's Drop.
  The walk of a tree's Remove.
  A view of any tree whose windows' boxes are the document's, as the laws use it.
  The walks of slices.Equal at rectangles, and of band.Same. (What PSetsA has of it, for a seat without PlaceSets.)
  What the laws ViewHidden and ViewRaises have in common: a window of the list written, blocks, the trees.
  The walk of a tree's Place, where the window goes to the top of its siblings.
-/
import Derived.Test.YtdaedkolpfkdjaaGreatZE33
import Derived.Test.YtdaedkolpfkdjaaGreatZE00
import Derived.Test.YtdaedkolpfkdjaaGreatZE02
import Derived.Test.YtdaedkolpfkdjaaGreatZE03
import Derived.Test.YtdaedkolpfkdjaaGreatZE32
import Derived.Test.YtdaedkolpfkdjaaGreatZE19
import Derived.Test.YtdaedkolpfkdjaaGreatZE06
import Derived.Test.YtdaedkolpfkdjaaGreatZE29
section
namespace Go.Proofs.YtdaedkolpfkdjaaGreat
open Go.RowKit Go.Maps Go.Shelf

theorem cut_up_all {ns : Nodes} (h : TreeOk ns) (k j : Int) : upOf (cutN ns k) j = if j ∈ belowAt ns k then none else upOf ns j := by
  by_cases hj : j ∈ belowAt ns k
  · rw [if_pos hj]
    cases hu : upOf (cutN ns k) j with
    | none => rfl
    | some p => exact absurd hj (mem_cutN.1 (upOf_some hu)).2
  · rw [if_neg hj]
    exact cut_up h hj
/-- a map from which some keys have gone. -/
def goneF (f : Int → Option Value) (l : List Int) : Int → Option Value := fun j => if j ∈ l then none else f j
theorem goneF_nil (f : Int → Option Value) : goneF f [] = f := by
  funext j
  simp [goneF]
theorem goneF_perm (f : Int → Option Value) {l m : List Int} (h : l.Perm m) : goneF f l = goneF f m := by
  funext j
  unfold goneF
  by_cases hj : j ∈ l
  · rw [if_pos hj, if_pos (h.mem_iff.1 hj)]
  · rw [if_neg hj, if_neg (fun e => hj (h.mem_iff.2 e))]
end Go.Proofs.YtdaedkolpfkdjaaGreat
end

section
namespace Go.Proofs.YtdaedkolpfkdjaaGreat
open Go.RowKit Go.Maps

section
variable {P : Program} {k : TypeId} {q : IntKind} {w : World} {b n : Nat} {f : Int → Option Value}
theorem sameKey_int (i : Int) : (Lit.int q i).sameKey (.int q i) = true := by simp [Lit.sameKey]
theorem MapIs.keyList (hk : P.underlying k = some (.int q)) (h : MapIs P k q w b n f) : ∃ ks : List Int, ks.Nodup ∧ ks.length = n ∧ ∀ i, i ∈ ks ↔ (f i).isSome = true := by
  obtain ⟨D, hD, hs, hh, _⟩ := h
  have hT := hD.tidy (int_keyed hk)
  obtain ⟨es, cl, h1, hF, h3, h4⟩ := hD
  obtain ⟨E, hE, hp⟩ := hT
  have hint : ∀ p ∈ E, ∃ i, p.1 = .int q i := by
    intro p hpE
    rw [hE] at h4
    injection h4 with h4
    rw [h4, mem_sorted, List.mem_map] at hpE
    obtain ⟨x, hx, rfl⟩ := hpE
    obtain ⟨y, hy⟩ := hF.reads x hx
    have hkey := WideElems.rd_key hy
    have e : (WideElems.rg P k rawR x).1 = y.1 := by simp [WideElems.rg, hy]
    rw [e]
    simp [keyOf, hk] at hkey
    cases hx2 : x.key <;> rw [hx2] at hkey <;> simp [mapKey, hk] at hkey
    obtain ⟨_, h9⟩ := hkey
    exact ⟨_, h9.symm⟩
  subst hE
  rw [size_eq] at hs
  refine ⟨E.map fun p => match p.1 with | .int _ i => i | _ => 0, ?_, by rw [List.length_map, hs], fun i => ⟨fun hi => ?_, fun hi => ?_⟩⟩
  · rw [List.Nodup, List.pairwise_map]
    refine hp.imp_of_mem (fun {a c} ha hc hne e => hne ?_)
    obtain ⟨i, hi⟩ := hint a ha
    obtain ⟨j, hj⟩ := hint c hc
    rw [hi, hj] at e ⊢
    dsimp only at e
    rw [e]
  · obtain ⟨p, hpE, rfl⟩ := List.mem_map.1 hi
    obtain ⟨i, hi⟩ := hint p hpE
    rw [← hh, hi]
    dsimp only
    rw [has_eq, List.any_eq_true]
    exact ⟨p, hpE, by rw [hi]; exact sameKey_int i⟩
  · rw [← hh, has_eq, List.any_eq_true] at hi
    obtain ⟨p, hpE, hs2⟩ := hi
    have := WideAt.sameKey_eq hs2
    exact List.mem_map.2 ⟨p, hpE, by rw [this]⟩
theorem sub_len : ∀ {l m : List Int}, l.Nodup → (∀ x ∈ l, x ∈ m) → l.length ≤ m.length
  | [], _, _, _ => Nat.zero_le _
  | a :: l, m, hn, h => by
    have ha := h a (by simp)
    rw [List.nodup_cons] at hn
    have := sub_len (l := l) (m := m.erase a) hn.2 (fun x hx => (List.mem_erase_of_ne (fun e => hn.1 (by rw [← e]; exact hx))).2 (h x (by simp [hx])))
    rw [List.length_erase_of_mem ha] at this
    have hp := List.length_pos_of_mem ha
    simp only [List.length_cons]
    omega
/-- as many entries as there are numbers that have one. -/
theorem MapIs.count (hk : P.underlying k = some (.int q)) (h : MapIs P k q w b n f) {L : List Int} (hL : L.Nodup) (hf : ∀ i, i ∈ L ↔ (f i).isSome = true) : n = L.length := by
  obtain ⟨ks, h1, h2, h3⟩ := h.keyList hk
  rw [← h2]
  exact Nat.le_antisymm (sub_len h1 fun x hx => (hf x).2 ((h3 x).1 hx)) (sub_len hL fun x hx => (h3 x).2 ((hf x).1 hx))
theorem MapIs.atMost (hk : P.underlying k = some (.int q)) (h : MapIs P k q w b n f) {L : List Int} (hf : ∀ i, (f i).isSome = true → i ∈ L) : n ≤ L.length := by
  obtain ⟨ks, h1, h2, h3⟩ := h.keyList hk
  rw [← h2]
  exact sub_len h1 fun x hx => hf x ((h3 x).1 hx)
end
end Go.Proofs.YtdaedkolpfkdjaaGreat
end

section
namespace Go.Proofs.YtdaedkolpfkdjaaGreat
open Go.RowKit Go.Maps Go.Shelf

/-- a window's kids without one. -/
def kidsC (ns : Nodes) (id i : Int) : List Int := (kidsOf ns i).filter fun j => decide (j ≠ id)
theorem kidsC_other {ns : Nodes} (h : TreeOk ns) {id p i : Int} (hp : upOf ns id = some p) (hi : i ≠ p) : kidsC ns id i = kidsOf ns i := by
  unfold kidsC
  rw [List.filter_eq_self]
  intro j hj
  refine decide_eq_true (fun e => hi ?_)
  have h1 := (kids_up h hj).1
  rw [e, hp] at h1
  exact (Option.some.inj h1).symm
/-- the windows on the way. -/
structure CutIs (w : World) (base : Nat) (ns : Nodes) (id : Int) (kb ub nk nu : Nat) (gk gu : List Int) (fk : Int → Option Value) : Prop where
  kids : MapIs Tryz.prog 48 .u32 w kb nk (goneF fk gk)
  up : MapIs Tryz.prog 48 .u32 w ub nu (goneF (fun i => (upOf ns i).map (Value.int .u32)) gu)
  own : ∀ i v, fk i = some v → w.ownsRow base 48 1 v (kidsC ns id i).length (U32 (kidsC ns id i))
  far : ∀ i v, fk i = some v → v.ownBlock ≠ some kb ∧ v.ownBlock ≠ some ub
  nil : ∀ i, fk i = Option.none → kidsC ns id i = []
  keys : ∀ i, (fk i).isSome = true → hasN ns i = true
  lok : base ≤ kb
  lou : base ≤ ub
  ne : kb ≠ ub
  few : ns.length ≤ 1000
  ok : okN ns
section
variable {w w' : World} {base : Nat} {ns : Nodes} {id : Int} {kb ub nk nu : Nat} {gk gu : List Int} {fk : Int → Option Value}
theorem CutIs.below (h : CutIs w base ns id kb ub nk nu gk gu fk) (hb : Below w.heap.size w w') : CutIs w' base ns id kb ub nk nu gk gu fk :=
  ⟨h.kids.below hb, h.up.below hb, fun i v hv => ownsRow_below (h.own i v hv) hb, h.far, h.nil, h.keys, h.lok, h.lou, h.ne, h.few, h.ok⟩
theorem cut_kids_in (hT : TreeOk ns) (hk : hasN ns id = true) {i : Int} (hi : i ∈ belowAt ns id) : kidsOf (cutN ns id) i = [] := by
  refine List.eq_nil_iff_forall_not_mem.2 (fun j hj => ?_)
  obtain ⟨h1, h2⟩ := mem_cutN.1 (kids_mem.1 hj)
  have hup := upOf_mem hT.nodup (show (j, i) ∈ ns from h1)
  refine h2 ?_
  rw [below_iff hT hk] at hi
  show j ∈ _
  rw [below_iff hT hk, (path_step hT hup).1]
  exact List.mem_cons_of_mem _ hi
theorem CutIs.done (h : CutIs w base ns id kb ub nk nu gk gu fk) (hT : TreeOk ns) (hk : hasN ns id = true) (hgk : gk.Perm (belowAt ns id)) (hgu : gu.Perm (belowAt ns id)) : TreeOwn w base (cutN ns id) kb ub nk (goneF fk (belowAt ns id)) := by
  have hkm := h.kids
  have hum := h.up
  rw [goneF_perm _ hgk] at hkm
  rw [goneF_perm _ hgu] at hum
  have hfu : goneF (fun i => (upOf ns i).map (Value.int .u32)) (belowAt ns id) = fun i => (upOf (cutN ns id) i).map (Value.int .u32) := by
    funext i
    unfold goneF
    rw [cut_up_all hT]
    by_cases e : i ∈ belowAt ns id <;> simp [e]
  rw [hfu] at hum
  have hnd : ((cutN ns id).map (·.1)).Nodup := hT.nodup.sublist (List.filter_sublist.map _)
  have hnu : nu = (cutN ns id).length := by
    have := hum.count Tryz.underlying48 hnd (fun i => by
      rw [Option.isSome_map, List.mem_map]
      constructor
      · rintro ⟨q, hq, rfl⟩
        rw [upOf_mem hnd (show (q.1, q.2) ∈ cutN ns id from hq)]
        rfl
      · intro hi
        obtain ⟨p, hp⟩ := Option.isSome_iff_exists.1 hi
        exact ⟨(i, p), upOf_some hp, rfl⟩)
    rwa [List.length_map] at this
  rw [hnu] at hum
  have hkeys : ∀ i, (goneF fk (belowAt ns id) i).isSome = true → hasN (cutN ns id) i = true := fun i hi => by
    unfold goneF at hi
    by_cases e : i ∈ belowAt ns id
    · rw [if_pos e] at hi; cases hi
    · rw [if_neg e] at hi
      rw [cut_has hT e]
      exact h.keys i hi
  refine ⟨hkm, hum, fun i v hv => ?_, fun i hi => ?_, h.lok, h.lou, ?_, ?_, fun q hq => h.ok q (mem_cutN.1 hq).1, hkeys⟩
  · unfold goneF at hv
    by_cases e : i ∈ belowAt ns id
    · rw [if_pos e] at hv; cases hv
    · rw [if_neg e] at hv
      rw [cut_kids hT hk e]
      exact h.own i v hv
  · unfold goneF at hi
    by_cases e : i ∈ belowAt ns id
    · exact cut_kids_in hT hk e
    · rw [if_neg e] at hi
      rw [cut_kids hT hk e]
      exact h.nil i hi
  · have := hkm.atMost Tryz.underlying48 (L := 1 :: (cutN ns id).map (·.1)) (fun i hi => by
      rcases hasN_iff.1 (hkeys i hi) with e | ⟨p, hp⟩
      · rw [e]; simp
      · exact List.mem_cons_of_mem _ (List.mem_map.2 ⟨(i, p), upOf_some hp, rfl⟩))
    simpa using this
  · exact Nat.le_trans (List.length_filter_le _ _) h.few
end
end Go.Proofs.YtdaedkolpfkdjaaGreat
end

section
namespace Go.Proofs.YtdaedkolpfkdjaaGreat
open Go.RowKit Go.Maps Go.Shelf

theorem at_nodup {l : List Int} (h : l.Nodup) {k : Nat} {id : Int} (hk : l[k]? = some id) : ∀ j, j ≠ k → l[j]? ≠ some id := fun j hj e => by
  exact hj ((List.getElem?_inj (List.getElem?_eq_some_iff.1 e).1 h).1 (e.trans hk.symm))
/-- a row that lies in a block known whole. -/
theorem blk_row {w : World} {base g n c e : Nat} {xs tl : List Value} (h : Blk w g e (xs ++ tl).toArray) (hb : base ≤ g) (hl : xs.length = n) (hc : n + tl.length = c) (hm : c ≤ maxLen) : w.ownsRow base e 1 (.slice (some ⟨g, 0, none⟩) n c) n xs := by
  refine ⟨by omega, .inr ⟨g, c, (xs ++ tl).toArray, rfl, hb, h, by omega, hm, by simp; omega, ?_⟩⟩
  simp only [Nat.mul_one]
  rw [← hl]
  exact List.take_left
theorem TwinIs.cut {w w' X : World} {base : Nat} {ns : Nodes} {kb ub nk g n c : Nat} {fk : Int → Option Value} {id p : Int} {tl : List Value} (h : TwinIs w base ns kb ub nk fk) (hT : TreeOk ns) (hup : upOf ns id = some p) (hn : (kidsOf ns p).length = n) (hc : (n - 1) + tl.length = c) (hcm : c ≤ maxLen)
    (hfk : fk p = some (.slice (some ⟨g, 0, none⟩) n c)) (hm : MapIs Tryz.prog 48 .u32 w' kb nk (fun j => if j = p then some (.slice (some ⟨g, 0, none⟩) (n - 1) c) else fk j)) (hb : Blk w' g 48 (U32 (kidsC ns id p) ++ tl).toArray) (hlc : (kidsC ns id p).length = n - 1) (h1 : w.grownBy X (some g)) (h2 : X.grownBy w' (some kb)) :
    CutIs w' base ns id kb ub nk ns.length [] [] (fun j => if j = p then some (.slice (some ⟨g, 0, none⟩) (n - 1) c) else fk j) := by
  have hfp := h.far p _ hfk
  have hbg : base ≤ g := own_ge (h.own p _ hfk) g rfl
  refine ⟨by rw [goneF_nil]; exact hm, ?_, fun i v hv => ?_, fun i v hv => ?_, fun i hi => ?_, fun i hi => ?_, h.lok, h.lou, h.ne, h.few, h.ok⟩
  · rw [goneF_nil]
    exact (h.up.kept h1 (fun e => hfp.2 e.symm)).kept h2 (fun e => h.ne (Option.some.inj e).symm)
  · by_cases e : i = p
    · subst e
      rw [if_pos rfl] at hv
      injection hv with hv
      subst hv
      rw [hlc]
      exact blk_row hb hbg (by rw [U32_len, hlc]) hc hcm
    · rw [if_neg e] at hv
      rw [kidsC_other hT hup e]
      refine ((h.own i v hv).kept h1 ?_).kept h2 (.inr (h.far i v hv).1)
      exact h.apart i p v _ hv hfk e
  · by_cases e : i = p
    · rw [if_pos e] at hv
      injection hv with hv
      subst hv
      exact hfp
    · rw [if_neg e] at hv
      exact h.far i v hv
  · by_cases e : i = p
    · rw [if_pos e] at hi; cases hi
    · rw [if_neg e] at hi
      rw [kidsC_other hT hup e]
      exact h.nil i hi
  · by_cases e : i = p
    · rw [e]; exact h.keys p (by rw [hfk]; rfl)
    · rw [if_neg e] at hi
      exact h.keys i hi
theorem take_own (base : Nat) (ns : Nodes) (kb ub nk : Nat) (fk : Int → Option Value) (id p : Int) (w : World) (h : TwinIs w base ns kb ub nk fk) (hT : TreeOk ns) (hup : upOf ns id = some p) (hb : base ≤ w.heap.size) :
    Calls Tryz.prog 85 #[.agg #[.map (some kb), .map (some ub)], .int .u32 id] w fun e w' => e = .returned (.tuple #[]) ∧ ∃ (fk' : Int → Option Value) (g c : Nat), CutIs w' base ns id kb ub nk ns.length [] [] fk' ∧ (fk' p = some (.slice (some ⟨g, 0, none⟩) ((kidsOf ns p).length - 1) c) ∧ (kidsC ns id p).length = (kidsOf ns p).length - 1 ∧ 0 < (kidsOf ns p).length ∧ g ≠ kb ∧ base ≤ g) ∧ (∀ j v, j ≠ p → fk' j = some v → v.ownBlock = none ∨ v.ownBlock ≠ some g) ∧ Below base w w' ∧ ∀ q cs, Blk w q 37 cs → Blk w' q 37 cs := by
  have hkid : id ∈ kidsOf ns p := kids_mem.2 (upOf_some hup)
  obtain ⟨k, hk⟩ := List.getElem?_of_mem hkid
  have hpos : 0 < (kidsOf ns p).length := List.length_pos_of_mem hkid
  have hnd := kids_nodup hT p
  have hat := at_nodup hnd hk
  obtain ⟨n, hn⟩ : ∃ n, (kidsOf ns p).length = n := ⟨_, rfl⟩
  have hfl := kids_len h.few p
  have hroom := h.room
  have hfew := h.few
  have hids := h.ok _ (upOf_some hup)
  cases hfk : fk p with
  | none => rw [h.nil p hfk] at hpos; simp at hpos
  | some v =>
    have ho := h.own p v hfk
    rcases ho.2 with ⟨_, h0⟩ | ⟨g, c, cur, e1, hbg, hg, h1, h2, h3, h4⟩
    · omega
    have hcur : (U32 (kidsOf ns p) ++ cur.toList.drop ((kidsOf ns p).length * 1)).toArray = cur := by rw [← h4, List.take_append_drop]
    have hblk : Blk w g 48 (U32 (kidsOf ns p) ++ cur.toList.drop ((kidsOf ns p).length * 1)).toArray := by rw [hcur]; exact hg
    rw [hn] at e1 h1
    subst e1
    have hgk : g ≠ kb := fun e => (h.far p _ hfk).1 (by rw [← e]; rfl)
    have her := erase_filter hk hat
    refine (take_any kb ub nk g n c k fk ns p id _ w h.kids h.up (by omega) hup hids.1 hids.2 hfk hn (by omega) h1 hblk hk hat hgk).mono ?_
    rintro e w' ⟨rfl, hm, ⟨tl', htl, hb'⟩, X, hg1, hg2⟩
    have hlen : (kidsC ns id p).length = n - 1 := by
      show ((kidsOf ns p).filter _).length = _
      rw [← her, List.length_eraseIdx_of_lt (List.getElem?_eq_some_iff.1 hk).1, hn]
    rw [her] at hb'
    have htl2 : (n - 1) + tl'.length = c := by
      rw [htl]
      simp only [List.length_drop, Array.length_toList, h3, hn]
      omega
    refine ⟨rfl, _, g, c, h.cut hT hup hn htl2 h2 hfk hm hb' hlen hg1 hg2, ⟨by rw [if_pos rfl, hn], by rw [hlen, hn], hpos, hgk, hbg⟩, fun j v hj hv => ?_, ?_⟩
    · rw [if_neg hj] at hv
      exact h.apart j p v _ hv hfk hj
    · refine ⟨?_, fun q cs hq => ?_⟩
      · exact ((Below.refl base w).grown hg1 hb (fun q e => by cases e; exact hbg)).grown hg2 (by have := hg1.size; omega) (fun q e => by cases e; exact h.lok)
      · have h1' := hq.grown hg1 (fun e => by
          injection e with e
          subst e
          unfold Blk at hq
          rw [hg] at hq
          injection hq with hq
          injection hq with _ hq _
          cases hq)
        refine h1'.grown hg2 (fun e => by
          injection e with e
          subst e
          obtain ⟨es, cl, hb9⟩ := h.kids.obj
          unfold Blk at hq
          rw [hb9] at hq
          cases hq)
end Go.Proofs.YtdaedkolpfkdjaaGreat
end

section
namespace Go.Proofs.YtdaedkolpfkdjaaGreat
open Go.RowKit Go.Maps Go.Shelf

section
variable {P : Program} {k e t : TypeId} {q : IntKind} {w w' : World} {b n : Nat} {f : Int → Option Value}
variable {ops : Array Oper} {rest : List Oper} {o : Oper} {a : Act} {Q : Exit → Act → World → Prop}
end

/-- boxes without those of some windows; the root's stays. -/
def dropBs (bs : Bxs) (ids : List Int) : Bxs := fun i => if i ∈ ids ∧ i ≠ 1 then none else bs i
end Go.Proofs.YtdaedkolpfkdjaaGreat
end

section
namespace Go.Proofs.YtdaedkolpfkdjaaGreat
open Go.RowKit Go.Maps Go.Shelf

end Go.Proofs.YtdaedkolpfkdjaaGreat
end

section
namespace Go.Proofs.YtdaedkolpfkdjaaGreat
open Go.RowKit Go.Maps Go.Shelf

/-- a view of a tree and boxes. -/
structure SeenG (w : World) (v : Value) (RW RH : Nat) (ns : Nodes) (bx : Int → Option VB) (og : Int → Int × Int) : Prop where
  is : ∃ A n c mv nm f, ViewIs w v A n c mv nm f (ordW ns bx 1) (esN ns bx (rectP RW RH)) og RW RH
  org : ∀ k : Int, hasN ns k = true → og k = orgN ns bx k
theorem SeenG.below {w w' : World} {v : Value} {RW RH : Nat} {ns : Nodes} {bx : Int → Option VB} {og : Int → Int × Int} (h : SeenG w v RW RH ns bx og) (hb : Below w.heap.size w w') : SeenG w' v RW RH ns bx og :=
  ⟨by
    obtain ⟨A, n, c, mv, nm, f, h1⟩ := h.is
    exact ⟨A, n, c, mv, nm, f, h1.below hb⟩, h.org⟩
section
variable {W : World} {bs : Bxs} {RW RH : Int} {l : List DW} {ns : Nodes}
def nearS (bs : Bxs) : Prop := ∀ i b, bs i = some b → (-200 ≤ b.X ∧ b.X ≤ 200) ∧ (-200 ≤ b.Y ∧ b.Y ≤ 200)
theorem nearS_sum {bs : Bxs} (h : nearS bs) (l : List Int) : (-200 * (l.length : Int) ≤ sumX bs l ∧ sumX bs l ≤ 200 * (l.length : Int)) ∧ (-200 * (l.length : Int) ≤ sumY bs l ∧ sumY bs l ≤ 200 * (l.length : Int)) := by
  induction l with
  | nil => simp [sumX, sumY]
  | cons w l ih =>
    have hb : (-200 ≤ ((bs w).getD zBX).X ∧ ((bs w).getD zBX).X ≤ 200) ∧ (-200 ≤ ((bs w).getD zBX).Y ∧ ((bs w).getD zBX).Y ≤ 200) := by
      cases hb : bs w with
      | none => simp [zBX]
      | some b => exact h w b hb
    have e1 : sumX bs (w :: l) = (if w = 1 then 0 else ((bs w).getD zBX).X) + sumX bs l := by simp [sumX]
    have e2 : sumY bs (w :: l) = (if w = 1 then 0 else ((bs w).getD zBX).Y) + sumY bs l := by simp [sumY]
    rw [e1, e2]
    simp only [List.length_cons]
    split <;> omega
theorem nearS_of (hn : nearS bs) (hok : TreeOk ns) (hl : ns.length ≤ 1000) (k : Int) : (-900000 ≤ orgX ns bs k ∧ orgX ns bs k ≤ 900000) ∧ -900000 ≤ orgY ns bs k ∧ orgY ns bs k ≤ 900000 := by
  unfold orgX orgY
  cases Go.Proofs.YtdaedkolpfkdjaaGreat.orgOk ns bs k with
  | false => simp
  | true =>
    have h1 := nearS_sum hn (pathN ns k)
    have h2 := path_len hok k
    simp only [if_true]
    omega
theorem SceneIs.nearS (h : SceneIs W bs RW RH l) (hok : ∀ d ∈ l, DWok d) : nearS bs := fun k b hk => by
  rcases h.box hk with ⟨_, rfl⟩ | ⟨i, d, hd, _, ⟨e1, e2, _⟩, _⟩
  · simp [rootBX]
  · have hD := hok d (List.mem_of_getElem? hd)
    have h1 := hD.x
    have h2 := hD.y
    rw [e1, e2]
    omega
theorem SceneIs.some (h : SceneIs W bs RW RH l) {k : Int} (hk : hasN (nodesW l) k = true) : (bs k).isSome = true := by
  obtain ⟨n, h1, h2, rfl⟩ := hasW_inv hk
  by_cases hn : n < 0
  · obtain rfl : n = -1 := by omega
    rw [idW_root, h.root]
    rfl
  · obtain ⟨i, rfl⟩ : ∃ i : Nat, n = (i : Int) := ⟨n.toNat, by omega⟩
    obtain ⟨b, e, _⟩ := h.each i _ (List.getElem?_eq_getElem (by omega))
    rw [e]
    rfl
theorem orgOk_of (hok : TreeOk ns) (hs : ∀ k, hasN ns k = true → (bs k).isSome = true) {k : Int} (hk : hasN ns k = true) : orgOk ns bs k = true := by
  unfold orgOk
  rw [hk, Bool.true_and]
  unfold allB
  rw [List.all_eq_true]
  exact fun x hx => hs x (path_has hok hx)
end
theorem seenG_of {mk mu mp : Option Nat} {nk n : Nat} {fk : Int → Option Value} {bs : Bxs} {RW RH : Nat} {l : List DW} {ns : Nodes} (w : World) (hT : TreeIs w (.agg #[.map mk, .map mu]) ns mk mu nk fk) (hP : PlaceIs w (.agg #[.map mp]) n bs) (hS : SceneIs w bs RW RH l) (tok : TreeOk ns)
    (hsub : ∀ k, hasN ns k = true → hasN (nodesW l) k = true) (hok : ∀ d ∈ l, DWok d) (hl : ns.length ≤ 1000) (hR : (1 ≤ RW ∧ RW ≤ 128) ∧ 1 ≤ RH ∧ RH ≤ 128) :
    Calls Tryz.prog 25 #[.agg #[.map mk, .map mu], .agg #[.map mp]] w fun e w' => ∃ v og, e = .returned v ∧ SeenG w' v RW RH ns (bxS RW RH l) og ∧ Below w.heap.size w w' := by
  have hRI : (1 ≤ (RW : Int) ∧ (RW : Int) ≤ 128) ∧ 1 ≤ (RH : Int) ∧ (RH : Int) ≤ 128 := by omega
  have hrel := hS.rel hok hRI
  refine (viewOf_any mp mk mu n nk fk ns bs (bxS RW RH l) RW RH w hT hP tok hrel (hS.sides hok hRI) (hS.nearb hok) (nearS_of (hS.nearS hok) tok hl) hR hS.root).mono ?_
  rintro e w' ⟨v, A, n, c, mv, nm, f, rfl, hv, hb⟩
  exact ⟨v, _, rfl, ⟨⟨A, n, c, mv, nm, f, hv⟩, fun k hk => (orgN_eq hrel (orgOk_of tok (fun j hj => hS.some (hsub j hj)) hk)).symm⟩, hb⟩
section
variable {w : World} {v : Value} {RW RH : Nat} {ns : Nodes} {bx : Int → Option VB} {og : Int → Int × Int}
theorem SeenG.form (h : SeenG w v RW RH ns bx og) : ∃ A n c mv, v = .agg #[.slice A n c, .map mv] := by
  obtain ⟨A, n, c, mv, nm, f, hv⟩ := h.is
  exact ⟨A, n, c, mv, hv.shape⟩
/-- where a window begins, as a view of it tells. -/
def ogG (ns : Nodes) (bx : Int → Option VB) (i : Int) : Int × Int := if hasN ns i && vw ns bx i then orgN ns bx i else (0, 0)
theorem SeenG.og_eq (h : SeenG w v RW RH ns bx og) (hn : TreeOk ns) (i : Int) : ogV (esN ns bx (rectP RW RH)) og i = ogG ns bx i := by
  unfold ogV ogG
  rw [look_some hn]
  cases hh : hasN ns i with
  | false => rfl
  | true =>
    rw [h.org i hh]
/-- what a window shows, place by place of the root. -/
def shG (RW RH : Nat) (ns : Nodes) (bx : Int → Option VB) (x y i : Int) : Bool := rectP RW RH x y && decide (i = topN ns bx x y)
theorem SeenG.clip (h : SeenG w v RW RH ns bx og) (hn : TreeOk ns) (i : Int) (hi : 0 ≤ i ∧ i ≤ 4294967295) :
    Calls Tryz.prog 31 #[v, .int .u32 i] w fun e w' => ∃ u out, e = .returned u ∧ RegAt w' u out ∧ (∀ x y, inB out x y = shG RW RH ns bx x y i) ∧ areaL out = cntP RW RH (fun x y => shG RW RH ns bx x y i) ∧ out.length ≤ 100000 ∧ Below w.heap.size w w' := by
  obtain ⟨A, n, c, mv, nm, f, hv⟩ := h.is
  refine (vclip_any i hi hv).mono ?_
  rintro e w' ⟨u, out, rfl, hr, hp, hb⟩
  have hp2 : ∀ x y, inB out x y = shG RW RH ns bx x y i := fun x y => by rw [hp, show_at hn]; rfl
  have ha : areaL out = cntP RW RH (fun x y => showB (esN ns bx (rectP RW RH)) x y i) := by
    obtain ⟨_, _, _, _, hc, _⟩ := hr
    exact hv.area (a := 0) (b := 0) hc (fun x y => by rw [hp]; congr 1 <;> omega)
  refine ⟨u, out, rfl, hr, hp2, ?_, reg_few hv.side hr ha, hb⟩
  rw [ha]
  exact congrArg (fun P : Places => ((cntP RW RH P : Nat) : Int)) (funext fun x => funext fun y => show_at (bx := bx) hn (rectP RW RH) x y i)
theorem SeenG.visible (h : SeenG w v RW RH ns bx og) (hn : TreeOk ns) (i : Int) (hi : 0 ≤ i ∧ i ≤ 4294967295) :
    Calls Tryz.prog 28 #[v, .int .u32 i] w fun e w' => ∃ u out, e = .returned u ∧ RegAt w' u out ∧ (∀ x y, inB out x y = shG RW RH ns bx (x + (ogG ns bx i).1) (y + (ogG ns bx i).2) i) ∧ areaL out = cntP RW RH (fun x y => shG RW RH ns bx x y i) ∧ out.length ≤ 100000 ∧ Below w.heap.size w w' := by
  obtain ⟨A, n, c, mv, nm, f, hv⟩ := h.is
  refine (vvisible_any i hi hv).mono ?_
  rintro e w' ⟨u, out, rfl, hr, hp, hb⟩
  have ha : areaL out = cntP RW RH (fun x y => showB (esN ns bx (rectP RW RH)) x y i) := by
    obtain ⟨_, _, _, _, hc, _⟩ := hr
    exact hv.area hc hp
  refine ⟨u, out, rfl, hr, fun x y => ?_, ?_, reg_few hv.side hr ha, hb⟩
  · rw [hp, h.og_eq hn, show_at hn]; rfl
  · rw [ha]
    exact congrArg (fun P : Places => ((cntP RW RH P : Nat) : Int)) (funext fun x => funext fun y => show_at (bx := bx) hn (rectP RW RH) x y i)
end
end Go.Proofs.YtdaedkolpfkdjaaGreat
end

section
namespace Go.Proofs.YtdaedkolpfkdjaaGreat
open Go.RowKit Go.Maps Go.Shelf

theorem run_neq_rcE (w : World) (a b c d a' b' c' d' : Int) : (binOp .neq 103 (.agg #[.int .i64 a, .int .i64 b, .int .i64 c, .int .i64 d]) (.agg #[.int .i64 a', .int .i64 b', .int .i64 c', .int .i64 d'])).run Tryz.prog w = .ok (.bool (!(a == a' && b == b' && c == c' && d == d'))) w := by
  cases h1 : (a == a') <;> cases h2 : (b == b') <;> cases h3 : (c == c') <;> cases h4 : (d == d') <;> simp [go_sem, h1, h2, h3, h4]
attribute [local go_sem ↓] run_neq_rcE

end Go.Proofs.YtdaedkolpfkdjaaGreat
end

section
namespace Go.Proofs.YtdaedkolpfkdjaaGreat
open Go.RowKit Go.Maps Go.Shelf

theorem own_blkN {w : World} {B n e s : Nat} {v : Value} {xs : List Value} (h : w.ownsRow B e s v n xs) (hn : 0 < n) : ∃ g c rest, v = .slice (some ⟨g, 0, none⟩) n c ∧ B ≤ g ∧ Blk w g e (xs ++ rest).toArray := by
  rcases h.2 with ⟨_, h0⟩ | ⟨g, cap, cur, e1, hb, hg, h1, h2, h3, h4⟩
  · omega
  · refine ⟨g, cap, cur.toList.drop (n * s), e1, hb, ?_⟩
    rw [← h4, List.take_append_drop]
    exact hg
theorem RdF.of_blkR {α : Type} {f : α → List Value} {m : Nat} (hm : ∀ x, (f x).length = m) {w : World} {g : Nat} {t : TypeId} {l : List α} {rest : List Value} {n : Nat} (h : Blk w g t (l.flatMap f ++ rest).toArray) (hl : l.length = n) : RdF f m w (some ⟨g, 0, none⟩) n l := by
  refine ⟨hl, fun hn => ⟨g, 0, rfl, h.lt, fun k x hk i u hu => ?_⟩⟩
  have hi : i < m := by have := (List.getElem?_eq_some_iff.1 hu).1; rwa [hm] at this
  have hg := flat_get f m hm l k x i hk hi
  rw [hu] at hg
  rw [Nat.zero_add]
  have hlt := (List.getElem?_eq_some_iff.1 hg).1
  exact h.cellV (by rw [List.getElem?_toArray, List.getElem?_append_left hlt]; exact hg)
set_option maxRecDepth 100000 in
theorem Tryz.sizeVx : (Tryz.prog.info? 52).map (·.size) = some 2 := by kernel_rfl
theorem viewX_no (A : Option Addr) (n c : Nat) (m : Option Nat) : ∀ (j : Nat) (k : IntKind) (x : Int), (#[.slice A n c, .map m] : Array Value)[j]? ≠ some (.int k x) := fun j k x => by
  match j with
  | 0 => simp
  | 1 => simp
  | j + 2 => simp
theorem blkX_noI {w : World} {g : Nat} {t : TypeId} {cs : Array Value} (h : Blk w g t cs) (hn : ∀ (j : Nat) (k : IntKind) (x : Int), cs[j]? ≠ some (.int k x)) : NoInt w g := fun o k i e => by
  rw [h.cell] at e
  exact hn o k i e
theorem SeenG.setNo {w : World} {v : Value} {RW RH : Nat} {ns : Nodes} {bx : Int → Option VB} {og : Int → Int × Int} (h : SeenG w v RW RH ns bx og) {B : Nat} {t : TypeId} {cs : Array Value} (hB : Blk w B t cs) (hno : NoInt w B) (i : Nat) (u : Value) : SeenG (w.setCell ⟨B, i, none⟩ u) v RW RH ns bx og := by
  obtain ⟨A, n, c, mv, nm, f, hv⟩ := h.is
  refine ⟨⟨A, n, c, mv, nm, f, ?_⟩, h.org⟩
  exact { hv with
    order := hv.order.keepG (grown_setCell w ⟨B, i, none⟩ u) hno
    map := hv.map.setBlk hB i u
    told := fun j e he => by
      obtain ⟨A, c, out, h1, h2, h3⟩ := hv.told j e he
      exact ⟨A, c, out, h1, h2.keepG (grown_setCell w ⟨B, i, none⟩ u) hno, h3⟩ }
/-- a window of the list is no longer mapped. -/
def hideD (d : DW) : DW := { d with M := false }
theorem SeenG.putS {w : World} {v : Value} {RW RH : Nat} {ns : Nodes} {bx : Int → Option VB} {og : Int → Int × Int} (h : SeenG w v RW RH ns bx og) {B : Nat} {t : TypeId} {A : Option Addr} {n c : Nat} {m : Option Nat} (hB : Blk w B t #[.slice A n c, .map m]) (A' : Option Addr) (n' c' : Nat) (m' : Option Nat) : SeenG (World.setCells w B 0 (#[.slice A' n' c', .map m'] : Array Value).toList) v RW RH ns bx og :=
  (h.setNo hB (blkX_noI hB (viewX_no _ _ _ _)) 0 (.slice A' n' c')).setNo (hB.set_ 0 (.slice A' n' c')) (blkX_noI (hB.set_ 0 (.slice A' n' c')) (viewX_no _ _ _ _)) 1 (.map m')
theorem reg_no (A : Option Addr) (n c : Nat) : ∀ (j : Nat) (k : IntKind) (x : Int), (#[.slice A n c] : Array Value)[j]? ≠ some (.int k x) := fun j k x => by
  match j with
  | 0 => simp
  | j + 1 => simp
theorem RegAt.putS {w : World} {v : Value} {l : List RC} (h : RegAt w v l) {B : Nat} {t : TypeId} {A : Option Addr} {n c : Nat} (hB : Blk w B t #[.slice A n c]) (u : Value) : RegAt (World.setCells w B 0 (#[u] : Array Value).toList) v l :=
  h.keepG (grown_setCell w ⟨B, 0, none⟩ u) (blkX_noI hB (reg_no _ _ _))
theorem cell_keep {w w' : World} (hb : Below w.heap.size w w') {b o : Nat} {v : Value} (h : b < w.heap.size) (hc : w.cell? ⟨b, o, none⟩ = some v) : w'.cell? ⟨b, o, none⟩ = some v := ((bcell hb).1 b o h).trans hc
end Go.Proofs.YtdaedkolpfkdjaaGreat
end

section
namespace Go.Proofs.YtdaedkolpfkdjaaGreat
open Go.RowKit Go.Maps Go.Shelf

set_option maxRecDepth 100000 in
set_option maxHeartbeats 4000000 in
theorem insert_end (base g n c : Nat) (l : List Int) (x : Int) (a : Addr) (w : World) (ho : w.ownsRow base 48 1 (.slice (some ⟨g, 0, none⟩) n c) n (U32 l)) (hn : n ≤ 2000) (hc : w.cell? a = some (.int .u32 x)) (hb : base ≤ w.heap.size) (hnc : n ≤ c) :
    Calls Tryz.prog 95 #[.slice (some ⟨g, 0, none⟩) n c, .int .i64 n, .slice (some a) 1 1] w fun e w' => ∃ v', e = .returned v' ∧ w'.ownsRow base 48 1 v' (n + 1) (U32 (l ++ [x])) ∧ w.grownBy w' (some g) := by
  obtain ⟨i0, hi0, hz0, hz1, hz2⟩ := info_parts Tryz.infoU
  have HO := Lib.hid ho
  have HC := Lib.hid hc
  have k0 : (0 : Int) ≤ (n : Int) := by omega
  have k1 : (n : Int) ≤ (c : Int) := by omega
  clear ho hc
  by_cases h : n = c
  · subst h
    go_enter Tryz.func95, Tryz.ntmps95
    go_wp2_with (at_builtin; refine wpList_append_own _ rfl _ _ 43 rfl base 48 i0 _ 1 4 Tryz.underlying43 hi0 hz0 hz1 hz2 rfl (by decide) _ _ _ rfl HO.out a 1 1 [.int .u32 x] rfl rfl (fun j u hj => by cases j with | zero => (have e : u = .int .u32 x := by simpa using hj.symm); rw [e]; exact HC.out | succ j => simp at hj) (by simp [Value.oneCell']) (by simp only [maxLen]; omega) (by omega) hb ?_; intro v' w4 hown' hgrow _; have HO4 := Lib.hid hown'; have HG4 := Lib.hid hgrow; clear hown' hgrow)
    go_ret
    exact ⟨_, rfl, by have := HO4.out; simpa [U32] using this, HG4.out⟩
  · have k2 : n < c := by omega
    have k3 : (n : Int) < (c : Int) := by omega
    go_enter Tryz.func95, Tryz.ntmps95
    go_wp2_with (at_builtin; refine wpList_append_own _ rfl _ _ 43 rfl base 48 i0 _ 1 4 Tryz.underlying43 hi0 hz0 hz1 hz2 rfl (by decide) _ _ _ rfl HO.out a 1 1 [.int .u32 x] rfl rfl (fun j u hj => by cases j with | zero => (have e : u = .int .u32 x := by simpa using hj.symm); rw [e]; exact HC.out | succ j => simp at hj) (by simp [Value.oneCell']) (by simp only [maxLen]; omega) (by omega) hb ?_; intro v' w4 hown' hgrow _; have HO4 := Lib.hid hown'; have HG4 := Lib.hid hgrow; clear hown' hgrow)
    go_ret
    exact ⟨_, rfl, by have := HO4.out; simpa [U32] using this, HG4.out⟩
/-- raised: the tree at the end. -/
theorem CutIs.raise {w w5 w6 : World} {base : Nat} {ns : Nodes} {id p : Int} {kb ub nk g : Nat} {fk : Int → Option Value} {u v5 : Value} (h : CutIs w base ns id kb ub nk ns.length [] [] fk) (hT : TreeOk ns) (hup : upOf ns id = some p) (hfk : fk p = some u) (hu : u.ownBlock = some g) (hap : ∀ j v, j ≠ p → fk j = some v → v.ownBlock = none ∨ v.ownBlock ≠ some g) (hnk : nk ≤ ns.length + 1)
    (h5 : w5.ownsRow base 48 1 v5 ((kidsC ns id p).length + 1) (U32 (kidsC ns id p ++ [id]))) (hg5 : w.grownBy w5 (some g)) (hm6 : MapIs Tryz.prog 48 .u32 w6 kb nk (fun j => if j = p then some v5 else fk j)) (hg6 : w5.grownBy w6 (some kb)) :
    TreeOwn w6 base (topmost ns id p) kb ub nk (fun j => if j = p then some v5 else fk j) := by
  have hmem := upOf_some hup
  have hku := h.kids
  have hup' := h.up
  rw [goneF_nil] at hku hup'
  have hne := h.far p _ hfk
  have hk5 := hku.kept hg5 (fun e => hne.1 (hu.trans e.symm))
  have hu5 := hup'.kept hg5 (fun e => hne.2 (hu.trans e.symm))
  have hu6 := hu5.kept hg6 (fun e => h.ne (Option.some.inj e).symm)
  have hkids : ∀ i, kidsOf (topmost ns id p) i = kidsC ns id i ++ (if p = i then [id] else []) := fun i => topmost_kids id p i
  refine ⟨hm6, ?_, fun i v hv => ?_, fun i hi => ?_, h.lok, h.lou, by rw [topmost_len hT hmem]; exact hnk, by rw [topmost_len hT hmem]; exact h.few, fun q hq => h.ok q ((mem_topmost hmem hT.nodup).1 hq), fun i hi => ?_⟩
  · have e : (fun i => (upOf ns i).map (Value.int .u32)) = fun i => (upOf (topmost ns id p) i).map (Value.int .u32) := by
      funext i
      rw [topmost_up hT hmem]
    rw [e] at hu6
    rw [topmost_len hT hmem]
    exact hu6
  · rw [hkids]
    by_cases e : i = p
    · subst e
      rw [if_pos rfl] at hv ⊢
      injection hv with hv
      subst hv
      have := h5.kept hg6 (.inr (hk5.not_row h5))
      simpa using this
    · rw [if_neg e] at hv
      rw [if_neg (fun e' => e e'.symm), List.append_nil]
      exact ((h.own i v hv).kept hg5 (hap i v e hv)).kept hg6 (.inr (h.far i v hv).1)
  · rw [hkids]
    by_cases e : i = p
    · rw [if_pos e] at hi; cases hi
    · rw [if_neg e] at hi
      rw [if_neg (fun e' => e e'.symm), List.append_nil]
      exact h.nil i hi
  · rw [topmost_has hT hmem]
    by_cases e : i = p
    · rw [e]
      exact h.keys p (by rw [hfk]; rfl)
    · rw [if_neg e] at hi
      exact h.keys i hi
end Go.Proofs.YtdaedkolpfkdjaaGreat
end
