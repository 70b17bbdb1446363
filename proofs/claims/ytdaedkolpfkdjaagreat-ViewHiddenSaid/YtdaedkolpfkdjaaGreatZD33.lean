/-
  A tree from which a window has gone: how many nodes are left.
  How many entries a map has that is keyed by numbers: as many as there are numbers that have one.
  A tree of the call's own from whose lists one window has gone, and then keys: what tree it is at the end.
  The walk of a tree's take at a twin: what it leaves.
  delete on a map with raw elements, and the walk of a place's Drop.
  The walk of a tree's Remove.
-/
import Derived.Test.YtdaedkolpfkdjaaGreatZD32
import Derived.Test.YtdaedkolpfkdjaaGreatZD00
import Derived.Test.YtdaedkolpfkdjaaGreatZD02
import Derived.Test.YtdaedkolpfkdjaaGreatZD03
section
namespace Go.Proofs.YtdaedkolpfkdjaaGreat
open Go.RowKit Go.Maps Go.Shelf

theorem cut_up_all {ns : Nodes} (h : TreeOk ns) (k j : Int) : upOf (cutN ns k) j = if j ∈ belowAt ns k then none else upOf ns j := by
  by_cases hj : j ∈ belowAt ns k
  · rw [if_pos hj]
    cases hu : upOf (cutN ns k) j with
    | none => rfl
    | some p => exact absurd hj (mem_cutN.1 (upOf_some hu)).2
  · rw [if_neg hj]
    exact cut_up h hj
/-- a map from which some keys have gone. -/
def goneF (f : Int → Option Value) (l : List Int) : Int → Option Value := fun j => if j ∈ l then none else f j
theorem goneF_nil (f : Int → Option Value) : goneF f [] = f := by
  funext j
  simp [goneF]
theorem goneF_snoc (f : Int → Option Value) (l : List Int) (x : Int) : goneF f (l ++ [x]) = fun j => if j = x then none else goneF f l j := by
  funext j
  unfold goneF
  by_cases e : j = x
  · simp [e]
  · by_cases hj : j ∈ l <;> simp [e, hj]
theorem goneF_perm (f : Int → Option Value) {l m : List Int} (h : l.Perm m) : goneF f l = goneF f m := by
  funext j
  unfold goneF
  by_cases hj : j ∈ l
  · rw [if_pos hj, if_pos (h.mem_iff.1 hj)]
  · rw [if_neg hj, if_neg (fun e => hj (h.mem_iff.2 e))]
end Go.Proofs.YtdaedkolpfkdjaaGreat
end

section
namespace Go.Proofs.YtdaedkolpfkdjaaGreat
open Go.RowKit Go.Maps

section
variable {P : Program} {k : TypeId} {q : IntKind} {w : World} {b n : Nat} {f : Int → Option Value}
theorem sameKey_int (i : Int) : (Lit.int q i).sameKey (.int q i) = true := by simp [Lit.sameKey]
theorem MapIs.keyList (hk : P.underlying k = some (.int q)) (h : MapIs P k q w b n f) : ∃ ks : List Int, ks.Nodup ∧ ks.length = n ∧ ∀ i, i ∈ ks ↔ (f i).isSome = true := by
  obtain ⟨D, hD, hs, hh, _⟩ := h
  have hT := hD.tidy (int_keyed hk)
  obtain ⟨es, cl, h1, hF, h3, h4⟩ := hD
  obtain ⟨E, hE, hp⟩ := hT
  have hint : ∀ p ∈ E, ∃ i, p.1 = .int q i := by
    intro p hpE
    rw [hE] at h4
    injection h4 with h4
    rw [h4, mem_sorted, List.mem_map] at hpE
    obtain ⟨x, hx, rfl⟩ := hpE
    obtain ⟨y, hy⟩ := hF.reads x hx
    have hkey := WideElems.rd_key hy
    have e : (WideElems.rg P k rawR x).1 = y.1 := by simp [WideElems.rg, hy]
    rw [e]
    simp [keyOf, hk] at hkey
    cases hx2 : x.key <;> rw [hx2] at hkey <;> simp [mapKey, hk] at hkey
    obtain ⟨_, h9⟩ := hkey
    exact ⟨_, h9.symm⟩
  subst hE
  rw [size_eq] at hs
  refine ⟨E.map fun p => match p.1 with | .int _ i => i | _ => 0, ?_, by rw [List.length_map, hs], fun i => ⟨fun hi => ?_, fun hi => ?_⟩⟩
  · rw [List.Nodup, List.pairwise_map]
    refine hp.imp_of_mem (fun {a c} ha hc hne e => hne ?_)
    obtain ⟨i, hi⟩ := hint a ha
    obtain ⟨j, hj⟩ := hint c hc
    rw [hi, hj] at e ⊢
    dsimp only at e
    rw [e]
  · obtain ⟨p, hpE, rfl⟩ := List.mem_map.1 hi
    obtain ⟨i, hi⟩ := hint p hpE
    rw [← hh, hi]
    dsimp only
    rw [has_eq, List.any_eq_true]
    exact ⟨p, hpE, by rw [hi]; exact sameKey_int i⟩
  · rw [← hh, has_eq, List.any_eq_true] at hi
    obtain ⟨p, hpE, hs2⟩ := hi
    have := WideAt.sameKey_eq hs2
    exact List.mem_map.2 ⟨p, hpE, by rw [this]⟩
theorem sub_len : ∀ {l m : List Int}, l.Nodup → (∀ x ∈ l, x ∈ m) → l.length ≤ m.length
  | [], _, _, _ => Nat.zero_le _
  | a :: l, m, hn, h => by
    have ha := h a (by simp)
    rw [List.nodup_cons] at hn
    have := sub_len (l := l) (m := m.erase a) hn.2 (fun x hx => (List.mem_erase_of_ne (fun e => hn.1 (by rw [← e]; exact hx))).2 (h x (by simp [hx])))
    rw [List.length_erase_of_mem ha] at this
    have hp := List.length_pos_of_mem ha
    simp only [List.length_cons]
    omega
/-- as many entries as there are numbers that have one. -/
theorem MapIs.count (hk : P.underlying k = some (.int q)) (h : MapIs P k q w b n f) {L : List Int} (hL : L.Nodup) (hf : ∀ i, i ∈ L ↔ (f i).isSome = true) : n = L.length := by
  obtain ⟨ks, h1, h2, h3⟩ := h.keyList hk
  rw [← h2]
  exact Nat.le_antisymm (sub_len h1 fun x hx => (hf x).2 ((h3 x).1 hx)) (sub_len hL fun x hx => (h3 x).2 ((hf x).1 hx))
theorem MapIs.atMost (hk : P.underlying k = some (.int q)) (h : MapIs P k q w b n f) {L : List Int} (hf : ∀ i, (f i).isSome = true → i ∈ L) : n ≤ L.length := by
  obtain ⟨ks, h1, h2, h3⟩ := h.keyList hk
  rw [← h2]
  exact sub_len h1 fun x hx => hf x ((h3 x).1 hx)
end
end Go.Proofs.YtdaedkolpfkdjaaGreat
end

section
namespace Go.Proofs.YtdaedkolpfkdjaaGreat
open Go.RowKit Go.Maps Go.Shelf

/-- a window's kids without one. -/
def kidsC (ns : Nodes) (id i : Int) : List Int := (kidsOf ns i).filter fun j => decide (j ≠ id)
theorem kidsC_other {ns : Nodes} (h : TreeOk ns) {id p i : Int} (hp : upOf ns id = some p) (hi : i ≠ p) : kidsC ns id i = kidsOf ns i := by
  unfold kidsC
  rw [List.filter_eq_self]
  intro j hj
  refine decide_eq_true (fun e => hi ?_)
  have h1 := (kids_up h hj).1
  rw [e, hp] at h1
  exact (Option.some.inj h1).symm
/-- the windows on the way. -/
structure CutIs (w : World) (base : Nat) (ns : Nodes) (id : Int) (kb ub nk nu : Nat) (gk gu : List Int) (fk : Int → Option Value) : Prop where
  kids : MapIs Tryz.prog 48 .u32 w kb nk (goneF fk gk)
  up : MapIs Tryz.prog 48 .u32 w ub nu (goneF (fun i => (upOf ns i).map (Value.int .u32)) gu)
  own : ∀ i v, fk i = some v → w.ownsRow base 48 1 v (kidsC ns id i).length (U32 (kidsC ns id i))
  far : ∀ i v, fk i = some v → v.ownBlock ≠ some kb ∧ v.ownBlock ≠ some ub
  nil : ∀ i, fk i = Option.none → kidsC ns id i = []
  keys : ∀ i, (fk i).isSome = true → hasN ns i = true
  lok : base ≤ kb
  lou : base ≤ ub
  ne : kb ≠ ub
  few : ns.length ≤ 1000
  ok : okN ns
section
variable {w w' : World} {base : Nat} {ns : Nodes} {id : Int} {kb ub nk nu : Nat} {gk gu : List Int} {fk : Int → Option Value}
theorem CutIs.below (h : CutIs w base ns id kb ub nk nu gk gu fk) (hb : Below w.heap.size w w') : CutIs w' base ns id kb ub nk nu gk gu fk :=
  ⟨h.kids.below hb, h.up.below hb, fun i v hv => ownsRow_below (h.own i v hv) hb, h.far, h.nil, h.keys, h.lok, h.lou, h.ne, h.few, h.ok⟩
/-- a window's kids are forgotten. -/
theorem CutIs.delK (h : CutIs w base ns id kb ub nk nu gk gu fk) {x : Int} {n' : Nat} (hm : MapIs Tryz.prog 48 .u32 w' kb n' (fun j => if j = x then none else goneF fk gk j)) (hg : w.grownBy w' (some kb)) : CutIs w' base ns id kb ub n' nu (gk ++ [x]) gu fk :=
  ⟨by rw [goneF_snoc]; exact hm, h.up.kept hg (fun e => h.ne (Option.some.inj e).symm), fun i v hv => (h.own i v hv).kept hg (.inr (h.far i v hv).1), h.far, h.nil, h.keys, h.lok, h.lou, h.ne, h.few, h.ok⟩
theorem CutIs.delU (h : CutIs w base ns id kb ub nk nu gk gu fk) {x : Int} {n' : Nat} (hm : MapIs Tryz.prog 48 .u32 w' ub n' (fun j => if j = x then none else goneF (fun i => (upOf ns i).map (Value.int .u32)) gu j)) (hg : w.grownBy w' (some ub)) : CutIs w' base ns id kb ub nk n' gk (gu ++ [x]) fk :=
  ⟨h.kids.kept hg (fun e => h.ne (Option.some.inj e)), by rw [goneF_snoc]; exact hm, fun i v hv => (h.own i v hv).kept hg (.inr (h.far i v hv).2), h.far, h.nil, h.keys, h.lok, h.lou, h.ne, h.few, h.ok⟩
theorem cut_kids_in (hT : TreeOk ns) (hk : hasN ns id = true) {i : Int} (hi : i ∈ belowAt ns id) : kidsOf (cutN ns id) i = [] := by
  refine List.eq_nil_iff_forall_not_mem.2 (fun j hj => ?_)
  obtain ⟨h1, h2⟩ := mem_cutN.1 (kids_mem.1 hj)
  have hup := upOf_mem hT.nodup (show (j, i) ∈ ns from h1)
  refine h2 ?_
  rw [below_iff hT hk] at hi
  show j ∈ _
  rw [below_iff hT hk, (path_step hT hup).1]
  exact List.mem_cons_of_mem _ hi
theorem CutIs.done (h : CutIs w base ns id kb ub nk nu gk gu fk) (hT : TreeOk ns) (hk : hasN ns id = true) (h1 : id ≠ 1) (hgk : gk.Perm (belowAt ns id)) (hgu : gu.Perm (belowAt ns id)) : TreeOwn w base (cutN ns id) kb ub nk (goneF fk (belowAt ns id)) := by
  have hkm := h.kids
  have hum := h.up
  rw [goneF_perm _ hgk] at hkm
  rw [goneF_perm _ hgu] at hum
  have hfu : goneF (fun i => (upOf ns i).map (Value.int .u32)) (belowAt ns id) = fun i => (upOf (cutN ns id) i).map (Value.int .u32) := by
    funext i
    unfold goneF
    rw [cut_up_all hT]
    by_cases e : i ∈ belowAt ns id <;> simp [e]
  rw [hfu] at hum
  have hnd : ((cutN ns id).map (·.1)).Nodup := hT.nodup.sublist (List.filter_sublist.map _)
  have hnu : nu = (cutN ns id).length := by
    have := hum.count Tryz.underlying48 hnd (fun i => by
      rw [Option.isSome_map, List.mem_map]
      constructor
      · rintro ⟨q, hq, rfl⟩
        rw [upOf_mem hnd (show (q.1, q.2) ∈ cutN ns id from hq)]
        rfl
      · intro hi
        obtain ⟨p, hp⟩ := Option.isSome_iff_exists.1 hi
        exact ⟨(i, p), upOf_some hp, rfl⟩)
    rwa [List.length_map] at this
  rw [hnu] at hum
  have hkeys : ∀ i, (goneF fk (belowAt ns id) i).isSome = true → hasN (cutN ns id) i = true := fun i hi => by
    unfold goneF at hi
    by_cases e : i ∈ belowAt ns id
    · rw [if_pos e] at hi; cases hi
    · rw [if_neg e] at hi
      rw [cut_has hT e]
      exact h.keys i hi
  refine ⟨hkm, hum, fun i v hv => ?_, fun i hi => ?_, h.lok, h.lou, ?_, ?_, fun q hq => h.ok q (mem_cutN.1 hq).1, hkeys⟩
  · unfold goneF at hv
    by_cases e : i ∈ belowAt ns id
    · rw [if_pos e] at hv; cases hv
    · rw [if_neg e] at hv
      rw [cut_kids hT hk e]
      exact h.own i v hv
  · unfold goneF at hi
    by_cases e : i ∈ belowAt ns id
    · exact cut_kids_in hT hk e
    · rw [if_neg e] at hi
      rw [cut_kids hT hk e]
      exact h.nil i hi
  · have := hkm.atMost Tryz.underlying48 (L := 1 :: (cutN ns id).map (·.1)) (fun i hi => by
      rcases hasN_iff.1 (hkeys i hi) with e | ⟨p, hp⟩
      · rw [e]; simp
      · exact List.mem_cons_of_mem _ (List.mem_map.2 ⟨(i, p), upOf_some hp, rfl⟩))
    simpa using this
  · exact Nat.le_trans (List.length_filter_le _ _) h.few
end
end Go.Proofs.YtdaedkolpfkdjaaGreat
end

section
namespace Go.Proofs.YtdaedkolpfkdjaaGreat
open Go.RowKit Go.Maps Go.Shelf

theorem at_nodup {l : List Int} (h : l.Nodup) {k : Nat} {id : Int} (hk : l[k]? = some id) : ∀ j, j ≠ k → l[j]? ≠ some id := fun j hj e => by
  exact hj ((List.getElem?_inj (List.getElem?_eq_some_iff.1 e).1 h).1 (e.trans hk.symm))
/-- a row that lies in a block known whole. -/
theorem blk_row {w : World} {base g n c e : Nat} {xs tl : List Value} (h : Blk w g e (xs ++ tl).toArray) (hb : base ≤ g) (hl : xs.length = n) (hc : n + tl.length = c) (hm : c ≤ maxLen) : w.ownsRow base e 1 (.slice (some ⟨g, 0, none⟩) n c) n xs := by
  refine ⟨by omega, .inr ⟨g, c, (xs ++ tl).toArray, rfl, hb, h, by omega, hm, by simp; omega, ?_⟩⟩
  simp only [Nat.mul_one]
  rw [← hl]
  exact List.take_left
theorem TwinIs.cut {w w' X : World} {base : Nat} {ns : Nodes} {kb ub nk g n c : Nat} {fk : Int → Option Value} {id p : Int} {tl : List Value} (h : TwinIs w base ns kb ub nk fk) (hT : TreeOk ns) (hup : upOf ns id = some p) (hn : (kidsOf ns p).length = n) (hn0 : 0 < n) (hc : (n - 1) + tl.length = c) (hcm : c ≤ maxLen)
    (hfk : fk p = some (.slice (some ⟨g, 0, none⟩) n c)) (hm : MapIs Tryz.prog 48 .u32 w' kb nk (fun j => if j = p then some (.slice (some ⟨g, 0, none⟩) (n - 1) c) else fk j)) (hb : Blk w' g 48 (U32 (kidsC ns id p) ++ tl).toArray) (hlc : (kidsC ns id p).length = n - 1) (h1 : w.grownBy X (some g)) (h2 : X.grownBy w' (some kb)) :
    CutIs w' base ns id kb ub nk ns.length [] [] (fun j => if j = p then some (.slice (some ⟨g, 0, none⟩) (n - 1) c) else fk j) := by
  have hfp := h.far p _ hfk
  have hbg : base ≤ g := own_ge (h.own p _ hfk) g rfl
  refine ⟨by rw [goneF_nil]; exact hm, ?_, fun i v hv => ?_, fun i v hv => ?_, fun i hi => ?_, fun i hi => ?_, h.lok, h.lou, h.ne, h.few, h.ok⟩
  · rw [goneF_nil]
    exact (h.up.kept h1 (fun e => hfp.2 e.symm)).kept h2 (fun e => h.ne (Option.some.inj e).symm)
  · by_cases e : i = p
    · subst e
      rw [if_pos rfl] at hv
      injection hv with hv
      subst hv
      rw [hlc]
      exact blk_row hb hbg (by rw [U32_len, hlc]) hc hcm
    · rw [if_neg e] at hv
      rw [kidsC_other hT hup e]
      refine ((h.own i v hv).kept h1 ?_).kept h2 (.inr (h.far i v hv).1)
      exact h.apart i p v _ hv hfk e
  · by_cases e : i = p
    · rw [if_pos e] at hv
      injection hv with hv
      subst hv
      exact hfp
    · rw [if_neg e] at hv
      exact h.far i v hv
  · by_cases e : i = p
    · rw [if_pos e] at hi; cases hi
    · rw [if_neg e] at hi
      rw [kidsC_other hT hup e]
      exact h.nil i hi
  · by_cases e : i = p
    · rw [e]; exact h.keys p (by rw [hfk]; rfl)
    · rw [if_neg e] at hi
      exact h.keys i hi
theorem take_own (base : Nat) (ns : Nodes) (kb ub nk : Nat) (fk : Int → Option Value) (id p : Int) (w : World) (h : TwinIs w base ns kb ub nk fk) (hT : TreeOk ns) (hup : upOf ns id = some p) (hb : base ≤ w.heap.size) :
    Calls Tryz.prog 85 #[.agg #[.map (some kb), .map (some ub)], .int .u32 id] w fun e w' => e = .returned (.tuple #[]) ∧ ∃ (fk' : Int → Option Value) (g c : Nat) (tl : List Value), CutIs w' base ns id kb ub nk ns.length [] [] fk' ∧ (fk' p = some (.slice (some ⟨g, 0, none⟩) ((kidsOf ns p).length - 1) c) ∧ (kidsC ns id p).length = (kidsOf ns p).length - 1 ∧ 0 < (kidsOf ns p).length ∧ g ≠ kb ∧ base ≤ g) ∧ (∀ j v, j ≠ p → fk' j = some v → v.ownBlock = none ∨ v.ownBlock ≠ some g) ∧ Below base w w' ∧ ∀ q cs, Blk w q 37 cs → Blk w' q 37 cs := by
  have hkid : id ∈ kidsOf ns p := kids_mem.2 (upOf_some hup)
  obtain ⟨k, hk⟩ := List.getElem?_of_mem hkid
  have hpos : 0 < (kidsOf ns p).length := List.length_pos_of_mem hkid
  have hnd := kids_nodup hT p
  have hat := at_nodup hnd hk
  obtain ⟨n, hn⟩ : ∃ n, (kidsOf ns p).length = n := ⟨_, rfl⟩
  have hfl := kids_len h.few p
  have hroom := h.room
  have hfew := h.few
  have hids := h.ok _ (upOf_some hup)
  cases hfk : fk p with
  | none => rw [h.nil p hfk] at hpos; simp at hpos
  | some v =>
    have ho := h.own p v hfk
    rcases ho.2 with ⟨_, h0⟩ | ⟨g, c, cur, e1, hbg, hg, h1, h2, h3, h4⟩
    · omega
    have hcur : (U32 (kidsOf ns p) ++ cur.toList.drop ((kidsOf ns p).length * 1)).toArray = cur := by rw [← h4, List.take_append_drop]
    have hblk : Blk w g 48 (U32 (kidsOf ns p) ++ cur.toList.drop ((kidsOf ns p).length * 1)).toArray := by rw [hcur]; exact hg
    rw [hn] at e1 h1
    subst e1
    have hgk : g ≠ kb := fun e => (h.far p _ hfk).1 (by rw [← e]; rfl)
    have her := erase_filter hk hat
    refine (take_any 0 kb ub nk g n c k fk ns p id _ w h.kids h.up (by omega) hup hids.1 hids.2 hfk hn (by omega) h1 hblk hk hat hgk).mono ?_
    rintro e w' ⟨rfl, hm, ⟨tl', htl, hb'⟩, X, hg1, hg2⟩
    have hlen : (kidsC ns id p).length = n - 1 := by
      show ((kidsOf ns p).filter _).length = _
      rw [← her, List.length_eraseIdx_of_lt (List.getElem?_eq_some_iff.1 hk).1, hn]
    rw [her] at hb'
    have htl2 : (n - 1) + tl'.length = c := by
      rw [htl]
      simp only [List.length_drop, Array.length_toList, h3, hn]
      omega
    refine ⟨rfl, _, g, c, tl', h.cut hT hup hn (by omega) htl2 h2 hfk hm hb' hlen hg1 hg2, ⟨by rw [if_pos rfl, hn], by rw [hlen, hn], hpos, hgk, hbg⟩, fun j v hj hv => ?_, ?_⟩
    · rw [if_neg hj] at hv
      exact h.apart j p v _ hv hfk hj
    · refine ⟨?_, fun q cs hq => ?_⟩
      · exact ((Below.refl base w).grown hg1 hb (fun q e => by cases e; exact hbg)).grown hg2 (by have := hg1.size; omega) (fun q e => by cases e; exact h.lok)
      · have h1' := hq.grown hg1 (fun e => by
          injection e with e
          subst e
          unfold Blk at hq
          rw [hg] at hq
          injection hq with hq
          injection hq with _ hq _
          cases hq)
        refine h1'.grown hg2 (fun e => by
          injection e with e
          subst e
          obtain ⟨es, cl, hb9⟩ := h.kids.obj
          unfold Blk at hq
          rw [hb9] at hq
          cases hq)
end Go.Proofs.YtdaedkolpfkdjaaGreat
end

section
namespace Go.Proofs.YtdaedkolpfkdjaaGreat
open Go.RowKit Go.Maps Go.Shelf

section
variable {P : Program} {k e t : TypeId} {q : IntKind} {w w' : World} {b n : Nat} {f : Int → Option Value}
theorem MapIs.del_of {D : DataW Value} {m : Nat} {i : Int} (K : Keyed P k) (hD : w.ownsMap P k rawR b m D) (hs : Maps.size D = n) (hh : ∀ i, Maps.has D (.int q i) = (f i).isSome) (ha : ∀ i v, f i = some v → ∀ z, D.atKey (.int q i) z = .held v)
    (hD' : w'.ownsMap P k rawR b m (D.del (.int q i))) : ∃ n', n' ≤ n ∧ MapIs P k q w' b n' (fun j => if j = i then none else f j) := by
  have hT := hD.tidy K
  have hsz := size_del (k := .int q i) hT
  refine ⟨Maps.size (D.del (.int q i)), by omega, D.del (.int q i), ?_, rfl, fun j => ?_, fun j u hj z => ?_⟩
  · obtain ⟨es, clock, h1, h2, h3, h4⟩ := hD'
    refine ⟨es, clock, h1, h2, ?_, h4⟩
    have := length_read (P := P) (k := k) (R0 := rawR) es
    rw [h4, size_eq, this]
    exact Nat.le_refl _
  · by_cases hj : j = i
    · subst hj
      rw [has_del_same]
      simp
    · rw [has_del_other (by intro e; injection e with _ e; exact hj e), hh]
      simp [hj]
  · by_cases hj' : j = i
    · simp [hj'] at hj
    · simp [hj'] at hj
      rw [atKey_del_other (by intro e; injection e with _ e; exact hj' e)]
      exact ha j u hj z
variable {ops : Array Oper} {rest : List Oper} {o : Oper} {a : Act} {Q : Exit → Act → World → Prop}
/-- 'delete(m, i)', the map nil or not. -/
theorem opt_del (hg : o.guard = none) (m x : Operand) (t k : TypeId) (hop : o.op = Op.call { callee := Callee.builtin Builtin.delete, args := #[m, x], argTypes := #[t, k] }) (e : TypeId) (q : IntKind) (hk : P.underlying k = some (.int q)) (ht : P.underlying t = some (.map k e))
    (mb : Option Nat) (n : Nat) (f : Int → Option Value) (hm : a.eval m = .map mb) (h : MapOpt P k q w mb n f) (i : Int) (hx : a.eval x = .int q i) (hwf : (Lit.int q i).wf = true)
    (hK : ∀ w' n', n' ≤ n → MapOpt P k q w' mb n' (fun j => if j = i then none else f j) → w.grownBy w' mb → wpList P ops Q rest (a.put o.dst (.tuple #[])) w') : wpList P ops Q (o :: rest) a w := by
  rcases h with ⟨rfl, rfl, hf⟩ | ⟨b, rfl, h⟩
  · refine wpList_plain hg fun K' hK' => ?_
    have hrun := Maps.drop_nil (w := w) (int_keyed hk) ht (keyOf_int_mk hk hwf) o.type
    unfold Oper.wp
    simp [execOp, hop, resolve, invoke, builtin, hm, hx, hrun, Result.andThen]
    exact hK' _ _ (hK w 0 (Nat.le_refl _) (.inl ⟨rfl, rfl, fun j => by dsimp only; split; rfl; exact hf j⟩) ⟨rfl, rfl, rfl, Nat.le_refl _, fun _ _ _ => rfl⟩)
  · obtain ⟨D, hD, hs, hh, ha⟩ := h
    refine wpList_delete_own w hg m x t k hop e (int_keyed hk) ht rawR b n D hm hD _ (.int q i) hx (keyOf_int_mk hk hwf) (fun w' h1 h2 => ?_)
    obtain ⟨n', hn', hm'⟩ := MapIs.del_of (int_keyed hk) hD hs hh ha h1
    exact hK w' n' hn' (.inr ⟨b, rfl, hm'⟩) h2.grown
end

/-- boxes without those of some windows; the root's stays. -/
def dropBs (bs : Bxs) (ids : List Int) : Bxs := fun i => if i ∈ ids ∧ i ≠ 1 then none else bs i
end Go.Proofs.YtdaedkolpfkdjaaGreat
end

section
namespace Go.Proofs.YtdaedkolpfkdjaaGreat
open Go.RowKit Go.Maps Go.Shelf

theorem idN_ok {ns : Nodes} (hk : okN ns) {x : Int} (h : hasN ns x = true) : 0 ≤ x ∧ x ≤ 4294967295 := by
  rcases hasN_iff.1 h with rfl | ⟨p, hp⟩
  · omega
  · exact (hk _ (upOf_some hp)).1
set_option maxRecDepth 100000 in
set_option maxHeartbeats 4000000 in
theorem tremove_any (v : Value) (ns : Nodes) (mk mu : Option Nat) (nk : Nat) (fk : Int → Option Value) (id p : Int) (w : World) (hid : 0 ≤ id ∧ id ≤ 4294967295) (h : TreeIs w v ns mk mu nk fk) (hT : TreeOk ns) (hup : upOf ns id = some p) :
    Calls Tryz.prog 23 #[v, .int .u32 id] w fun e w' => (∃ (kb ub nk' : Nat) (fk' : Int → Option Value) (A : Option Addr) (n c : Nat), e = .returned (.tuple #[.agg #[.map (some kb), .map (some ub)], .slice A n c, .int .i64 0]) ∧ TreeOwn w' w.heap.size (cutN ns id) kb ub nk' fk') ∧ Below w.heap.size w w' := by
  have hv := h.shape
  subst hv
  have hne1 : id ≠ 1 := fun e => by rw [e, upOf_root hT] at hup; cases hup
  have hhas : hasN ns id = true := hasN_iff.2 (.inr ⟨p, hup⟩)
  have HT := Lib.hid h
  have HOK := Lib.hid hT
  have HUP := Lib.hid hup
  have HNE := Lib.hid hne1
  have HHAS := Lib.hid hhas
  have HBE := Lib.hid (bal (bal (bre w) (.cells #[.map mk, .map mu] 37)) (.cells #[.map none, .map none] 37))
  have H0 := Lib.hid ((Blk.new w 37 #[.map mk, .map mu]).alloc (.cells #[.map none, .map none] 37))
  have H1 := Lib.hid (blk_new2 w (.cells #[.map mk, .map mu] 37) 37 #[.map none, .map none])
  have hfew := h.few
  clear h hT hup hne1 hhas
  go_enter Tryz.func23, Tryz.ntmps23
  go_wp2_with fail
  with_reducible refine (other_ok _ ns mk mu nk fk id _ hid (HT.out.below HBE.out) HNE.out HHAS.out).mono ?_
  rintro e w1 ⟨rfl, hb1⟩
  replace H0 := Lib.hid (H0.out.belowS hb1)
  replace H1 := Lib.hid (H1.out.belowS hb1)
  replace HBE := Lib.hid (bstep HBE.out hb1)
  have HT1 := Lib.hid (HT.out.below HBE.out)
  clear hb1
  go_upto_region 7 with fail
  have x8 := (Blk.new w1 43 #[.slice none 0 0]).alloc (.cells #[rwalkF w.heap.size (w1.heap.size + 1) w1.heap.size] 176)
  have x9 := blk_new2 w1 (.cells #[.slice none 0 0] 43) 176 #[rwalkF w.heap.size (w1.heap.size + 1) w1.heap.size]
  have x0 := (H0.out.alloc (.cells #[.slice none 0 0] 43)).alloc (.cells #[rwalkF w.heap.size (w1.heap.size + 1) w1.heap.size] 176)
  have x1 := (H1.out.alloc (.cells #[.slice none 0 0] 43)).alloc (.cells #[rwalkF w.heap.size (w1.heap.size + 1) w1.heap.size] 176)
  have xb := bal (bal HBE.out (.cells #[.slice none 0 0] 43)) (.cells #[rwalkF w.heap.size (w1.heap.size + 1) w1.heap.size] 176)
  have xc := bal (bal (bre w1) (.cells #[.slice none 0 0] 43)) (.cells #[rwalkF w.heap.size (w1.heap.size + 1) w1.heap.size] 176)
  have xs : ((w1.alloc (.cells #[.slice none 0 0] 43)).alloc (.cells #[rwalkF w.heap.size (w1.heap.size + 1) w1.heap.size] 176)).heap.size = w1.heap.size + 2 := by rw [World.size_alloc, World.size_alloc]
  have e9 : rwalkF w.heap.size (w1.heap.size + 1) w1.heap.size = .func (.func 83) #[] #[.pointer (some ⟨w.heap.size, 0, none⟩), .pointer (some ⟨w1.heap.size + 1, 0, none⟩), .pointer (some ⟨w1.heap.size, 0, none⟩)] := rfl
  rw [← e9]
  have hl0 := H0.out.lt
  have hl1 := H1.out.lt
  obtain ⟨W0, hW0⟩ : ∃ W, (w1.alloc (.cells #[.slice none 0 0] 43)).alloc (.cells #[rwalkF w.heap.size (w1.heap.size + 1) w1.heap.size] 176) = W := ⟨_, rfl⟩
  rw [hW0] at x8 x9 x0 x1 xb xc xs ⊢
  have K8 := Lib.hid x8
  have K9 := Lib.hid x9
  replace H0 := Lib.hid x0
  replace H1 := Lib.hid x1
  replace HBE := Lib.hid xb
  have HBC := Lib.hid xc
  have c9 := x9.cellV (i := 0) (v := rwalkF w.heap.size (w1.heap.size + 1) w1.heap.size) rfl
  have hbn := below_len HOK.out HHAS.out
  have HBN := Lib.hid hbn
  clear x8 x9 x0 x1 xb xc hW0 e9 hbn
  unfold rwalkF at c9
  have hrm := remove1_any ns mk mu nk fk w1 W0 w1.heap.size w.heap.size (w1.heap.size + 1) HT1.out HOK.out HBC.out (Nat.le_refl _) (by omega) H0.out K9.out (by omega) (by omega) id hid [] W0 (by have := HBN.out; simp; omega) ⟨⟨_, K8.out, World.ownsRow_nil _ _ _ _⟩, ⟨rfl, rfl, rfl, Nat.le_refl _, fun _ _ _ => rfl⟩⟩
  have HRM := Lib.hid hrm
  clear hrm
  go_wp2_with fail
  with_reducible refine HRM.out.mono ?_
  rintro e w2 ⟨rfl, l, hp, ⟨v, hbv, hov⟩, hgr⟩
  rw [List.nil_append] at hov
  obtain ⟨A, c, rfl, hnc⟩ := own_form hov
  have HP := Lib.hid hp
  have HR := Lib.hid (Rd.of_own hov)
  have hln : l.length ≤ 1001 := by have h1 := hp.length_eq; have := HBN.out; omega
  have hs2 := hgr.size
  replace H0 := Lib.hid (H0.out.grown hgr (by intro e; injection e with e; omega))
  replace H1 := Lib.hid (H1.out.grown hgr (by intro e; injection e with e; omega))
  have hbe2 := HBE.out.grown hgr (by have := HBE.out.size; omega) (fun g e => by cases e; omega)
  have hbc2 := HBC.out.grown hgr (by omega) (fun g e => by cases e; omega)
  replace HBE := Lib.hid hbe2
  have HT2 := Lib.hid (HT1.out.below hbc2)
  replace K8 := Lib.hid hbv
  have K82 := K8
  have H12 := H1
  have HB2 := HBE
  have HR2 := HR
  have hs82 := K8.out.lt
  have hs12 := H1.out.lt
  clear hp hov hbv hbe2 hbc2 hgr HRM HBC HT1 K9 c9
  have p0 := H0.out.cellV (i := 0) (v := .map mk) rfl
  have p1 := H0.out.cellV (i := 1) (v := .map mu) rfl
  go_wp2_with fail
  with_reducible refine (twin_any _ ns mk mu nk fk _ HT2.out).mono ?_
  rintro e w3 ⟨kb, ub, nk', fo, rfl, ht3, hb3⟩
  have hw3 := hb3.size
  have HB23 := Lib.hid hb3
  replace H1 := Lib.hid (H1.out.belowS hb3)
  replace K8 := Lib.hid (K8.out.belowS hb3)
  replace HBE := Lib.hid (bstep HBE.out hb3)
  replace HR := Lib.hid (HR.out.below hb3)
  have hs8 := K8.out.lt
  have HT3 := Lib.hid (ht3.alloc (.cells #[.map (some kb), .map (some ub)] 37))
  have hroom := ht3.room
  clear p0 p1 hb3 ht3 HT2 H0
  go_upto_region 9 with fail
  have xk := Blk.new w3 37 #[.map (some kb), .map (some ub)]
  have x1 := H1.out.alloc (.cells #[.map (some kb), .map (some ub)] 37)
  have x8 := K8.out.alloc (.cells #[.map (some kb), .map (some ub)] 37)
  have xb := bal HBE.out (.cells #[.map (some kb), .map (some ub)] 37)
  have xr := HR.out.below (bal (bre w3) (.cells #[.map (some kb), .map (some ub)] 37))
  have xb3 := HB23.out.trans ((bal (bre w3) (.cells #[.map (some kb), .map (some ub)] 37)).mono hw3)
  have xs3 : (w3.alloc (.cells #[.map (some kb), .map (some ub)] 37)).heap.size = w3.heap.size + 1 := World.size_alloc _ _
  have HT4 := HT3.out
  obtain ⟨X3, hX3⟩ : ∃ W, w3.alloc (.cells #[.map (some kb), .map (some ub)] 37) = W := ⟨_, rfl⟩
  rw [hX3] at xk x1 x8 xb xr xb3 xs3 HT4 ⊢
  have HB33 := Lib.hid xb3
  replace HT3 := Lib.hid HT4
  have K10 := Lib.hid xk
  replace H1 := Lib.hid x1
  replace K8 := Lib.hid x8
  replace HBE := Lib.hid xb
  replace HR := Lib.hid xr
  have s0 := xk.cellV (i := 0) (v := .map (some kb)) rfl
  have s1 := xk.cellV (i := 1) (v := .map (some ub)) rfl
  clear xk x1 x8 xb xr xb3 hX3 HT4
  go_wp2_with fail
  refine (take_own w2.heap.size ns kb ub nk' fo id p X3 HT3.out HOK.out HUP.out (by omega)).mono ?_
  rintro e w4 ⟨rfl, fk', g, c4, tl, hcut, _, _, hb4, hbl⟩
  have HCUT := Lib.hid hcut
  replace K10 := Lib.hid (hbl _ _ K10.out)
  have HB4 := Lib.hid (HB33.out.trans hb4)
  clear hcut hbl hb4 s0 s1 HT3 HR K8 H1 HBE HB33 HB23
  have q8 := (K82.out.below HB4.out hs82).cellV (i := 0) (v := .slice A l.length c) rfl
  go_wp2_with fail
  obtain ⟨m, hm⟩ : ∃ m, l.length = m := ⟨_, rfl⟩
  rw [hm] at hln q8 ⊢
  have HMM := Lib.hid hm
  clear hm q8
  go_loopw [31, 12] (fun i _ wr => ∃ (j nk2 nu2 : Nat), i = .int .i64 j ∧ j ≤ m ∧ CutIs wr w2.heap.size ns id kb ub nk2 nu2 (l.take j) (l.take j) fk' ∧ Blk wr w3.heap.size 37 #[.map (some kb), .map (some ub)] ∧ Below w2.heap.size w2 wr) (fun i _ _ => m - (intOf i).toNat)
  case atStart => exact ⟨0, _, _, rfl, by omega, by rw [List.take_zero]; exact HCUT.out, K10.out, HB4.out⟩
  case round =>
    obtain ⟨j, nk2, nu2, rfl, hj, hcr, hkr, hbr⟩ := hrel
    have HC := Lib.hid hcr
    have HK := Lib.hid hkr
    have HBR := Lib.hid hbr
    have hlk := hcr.lok
    have hlu := hcr.lou
    have hkk : w3.heap.size ≠ kb := fun e => by
      have h1 := hcr.kids.obj
      rw [← e] at h1
      obtain ⟨es, cl, h1⟩ := h1
      unfold Blk at hkr
      rw [h1] at hkr
      cases hkr
    have hku : w3.heap.size ≠ ub := fun e => by
      have h1 := hcr.up.obj
      rw [← e] at h1
      obtain ⟨es, cl, h1⟩ := h1
      unfold Blk at hkr
      rw [h1] at hkr
      cases hkr
    have c0 := hkr.cellV (i := 0) (v := .map (some kb)) rfl
    have c1 := hkr.cellV (i := 1) (v := .map (some ub)) rfl
    clear hcr hkr hbr
    by_cases hlt : j < m
    · obtain ⟨x, hx⟩ : ∃ x, l[j]? = some x := ⟨_, List.getElem?_eq_getElem (by rw [HMM.out]; exact hlt)⟩
      have hxb : 0 ≤ x ∧ x ≤ 4294967295 := idN_ok HT.out.ok (below_has HOK.out HHAS.out (HP.out.mem_iff.1 (List.mem_of_getElem? hx)))
      have HWF := Lib.hid (u32_wf hxb)
      obtain ⟨b, off, rfl, hbl, hcl⟩ := HR2.out.2 (by rw [HMM.out]; omega)
      have hcell : wr.cell? ⟨b, off + j, none⟩ = some (.int .u32 x) := (HBR.out.cell (p := ⟨b, off + j, none⟩) hbl).trans (hcl j _ (U32_at hx))
      have HTK := Lib.hid (show l.take (j + 1) = l.take j ++ [x] by rw [List.take_add_one, hx]; rfl)
      have k1 : (j : Int) < (m : Int) := by omega
      have k0 : (0 : Int) ≤ (j : Int) := by omega
      clear hx hcl
      have HKM := Lib.hid (show MapOpt Tryz.prog 48 .u32 wr (some kb) nk2 (goneF fk' (l.take j)) from .inr ⟨kb, rfl, HC.out.kids⟩)
      go_upto_region 14 with (at_delete; refine opt_del rfl _ _ 34 48 rfl 43 .u32 Tryz.underlying48 Tryz.underlying34 (some kb) nk2 _ rfl HKM.out x rfl HWF.out ?_; intro w5 n3 hn3 hm5 hg5; have HG5 := Lib.hid hg5; have HM5 := Lib.hid hm5; clear hm5 hg5)
      have hm5 : MapIs Tryz.prog 48 .u32 w5 kb n3 (fun i => if i = x then none else goneF fk' (l.take j) i) := by
        rcases HM5.out with ⟨e, _⟩ | ⟨b', e, h⟩
        · cases e
        · cases e; exact h
      have HC5 := Lib.hid (HC.out.delK hm5 HG5.out)
      have HK5 := Lib.hid (HK.out.grown HG5.out (fun e => hkk (Option.some.inj e)))
      have HB5 := Lib.hid (HBR.out.grown HG5.out HBR.out.size (fun q e => by cases e; exact hlk))
      have HUM := Lib.hid (show MapOpt Tryz.prog 48 .u32 w5 (some ub) nu2 (goneF (fun i => (upOf ns i).map (Value.int .u32)) (l.take j)) from .inr ⟨ub, rfl, HC5.out.up⟩)
      have d0 := HK5.out.cellV (i := 0) (v := .map (some kb)) rfl
      have d1 := HK5.out.cellV (i := 1) (v := .map (some ub)) rfl
      have hs5 := HG5.out.size
      clear hm5 c0 c1
      go_wp2_with (at_delete; refine opt_del rfl _ _ 35 48 rfl 48 .u32 Tryz.underlying48 Tryz.underlying35 (some ub) nu2 _ rfl HUM.out x rfl HWF.out ?_; intro w6 n4 hn4 hm6 hg6; have HG6 := Lib.hid hg6; have HM6 := Lib.hid hm6; clear hm6 hg6)
      have hm6 : MapIs Tryz.prog 48 .u32 w6 ub n4 (fun i => if i = x then none else goneF (fun i => (upOf ns i).map (Value.int .u32)) (l.take j) i) := by
        rcases HM6.out with ⟨e, _⟩ | ⟨b', e, h⟩
        · cases e
        · cases e; exact h
      go_roundw
      case rel => exact ⟨j + 1, n3, n4, by go_num, by omega, by rw [HTK.out]; exact HC5.out.delU hm6 HG6.out, HK5.out.grown HG6.out (fun e => hku (Option.some.inj e)), HB5.out.grown HG6.out (by have := HBR.out.size; omega) (fun q e => by cases e; exact hlu)⟩
      case measure => simp [intOf]; omega
    · obtain rfl : j = m := by omega
      have k1 : ¬ (j : Int) < (j : Int) := by omega
      have htk : l.take j = l := List.take_of_length_le (by rw [HMM.out]; exact Nat.le_refl _)
      have hdone := HC.out
      rw [htk] at hdone
      have HD := Lib.hid (hdone.done HOK.out HHAS.out HNE.out HP.out HP.out)
      have q8 := (K82.out.below HBR.out hs82).cellV (i := 0) (v := .slice A j c) (by rw [HMM.out]; rfl)
      have r1 := H12.out.below HBR.out hs12
      have HR1 := Lib.hid r1
      have g0 := r1.cellV (i := 0) (v := .map none) rfl
      have g1 := r1.cellV (i := 1) (v := .map none) rfl
      have gf0 := r1.frozen 0
      have gf1 := r1.frozen 1
      have gl := r1.lt
      have HBF := Lib.hid (HB2.out.trans (HBR.out.mono HB2.out.size))
      clear hdone r1
      go_wp2_with fail
      have hne8 : ¬ (w.heap.size + 1 = w1.heap.size) := by omega
      have hne9 : ¬ (w.heap.size + 1 = w3.heap.size) := by omega
      go_region
      all_goals go_wp2_with fail
      have hb1 := (HR1.out.set_ 0 (.map (some kb))).set_ 1 (.map (some ub))
      have hr0 := hb1.cellV (i := 0) (v := .map (some kb)) rfl
      have hr1 := hb1.cellV (i := 1) (v := .map (some ub)) rfl
      have hbx := (bset (bset HBF.out (p := ⟨w.heap.size + 1, 0, none⟩) (by show w.heap.size ≤ w.heap.size + 1; omega) (.map (some kb))) (p := ⟨w.heap.size + 1, 1, none⟩) (by show w.heap.size ≤ w.heap.size + 1; omega) (.map (some ub))).drew
      have hto := ((HD.out.far (p := ⟨w.heap.size + 1, 0, none⟩) hs12 (.map (some kb))).far (p := ⟨w.heap.size + 1, 1, none⟩) hs12 (.map (some ub))).lower HB2.out.size
      exact bodyPost_ret (v := .tuple #[.agg #[.map (some kb), .map (some ub)], .slice A j c, .int .i64 0]) (by simp [results, Tryz.results23, go_sem, hr0, hr1]) rfl ⟨⟨_, _, _, _, _, _, _, rfl, ⟨hto.kids.drew, hto.up.drew, fun i v hv => (hto.own i v hv).drew, hto.nil, hto.lok, hto.lou, hto.room, hto.few, hto.ok, hto.keys⟩⟩, hbx⟩
end Go.Proofs.YtdaedkolpfkdjaaGreat
end
