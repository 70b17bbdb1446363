/-
  The windows of glazierlaw37, plainly: as the document's scenes; which of them show; where a focus goes.
  What glazierlaw37.made holds while it makes windows, and how each step keeps it.
  Events of rectangles: the walks of expose.events, Events and Graphics, and of the document's Events.
  The walk of the document's Same: are two lists of events the same?
-/
import Derived.Test.YtbkkecijcijhdaaGreatZD29
import Derived.Test.YtbkkecijcijhdaaGreatZD28
import Derived.Test.YtbkkecijcijhdaaGreatZD07
import Derived.Test.YtbkkecijcijhdaaGreatZD30
section
namespace Go.Proofs.YtbkkecijcijhdaaGreat

/-- a window that is made: its parent's number, whether it is mapped, whether it lies outside. -/
structure FW where
  U : Int
  M : Bool
  O : Bool
def FW.cells (f : FW) : List Value := [.int .u8 f.U, .bool f.M, .bool f.O]
theorem FW.cells_len (f : FW) : f.cells.length = 3 := rfl
def FW.ok (f : FW) : Prop := 0 ≤ f.U ∧ f.U ≤ 255
def FW.dw (f : FW) (i : Nat) : DW := ⟨f.U % ((i : Int) + 1) - 1, if f.O then 100 else 0, 0, 8, 8, f.M, false, none, 0, 0, []⟩
def dwsF (fs : List FW) : List DW := fs.zipIdx.map fun q => q.1.dw q.2
section
variable {l : List DW}
/-- is a window of a number, the root's is 0, viewable? -/
def isAt (l : List DW) (j : Nat) : Bool := vw (nodesW l) (bxS 8 8 l) (idW ((j : Int) - 1))
def isL (l : List DW) (k : Nat) : List Bool := (List.range (k + 1)).map (isAt l)
def shL (l : List DW) (k : Nat) : List Int := ((List.range (k + 1)).filter (isAt l)).map fun (j : Nat) => idW ((j : Int) - 1)
end
end Go.Proofs.YtbkkecijcijhdaaGreat
end

section
namespace Go.Proofs.YtbkkecijcijhdaaGreat
open Go.RowKit Go.Maps Go.Shelf

def BL (l : List Bool) : List Value := l.map Value.bool
theorem TreeOwn.below {w w' : World} {base : Nat} {ns : Nodes} {kb ub nk : Nat} {fk : Int → Option Value} (h : TreeOwn w base ns kb ub nk fk) (hb : Below w.heap.size w w') : TreeOwn w' base ns kb ub nk fk :=
  ⟨h.kids.below hb, h.up.below hb, fun i v hv => ownsRow_below (h.own i v hv) hb, h.nil, h.lok, h.lou, h.room, h.few, h.ok⟩
theorem TreeOwn.setBlk {w : World} {base : Nat} {ns : Nodes} {kb ub nk : Nat} {fk : Int → Option Value} (h : TreeOwn w base ns kb ub nk fk) {B : Nat} {t : TypeId} {cs : Array Value} (hB : Blk w B t cs) (ht : t ≠ 49) (i : Nat) (u : Value) : TreeOwn (w.setCell ⟨B, i, none⟩ u) base ns kb ub nk fk :=
  ⟨h.kids.setCell (h.kids.neBlk hB) u, h.up.setCell (h.up.neBlk hB) u, fun j v hv => (h.own j v hv).kept (grown_setCell w ⟨B, i, none⟩ u) (.inr (own_other (h.own j v hv) hB ht)), h.nil, h.lok, h.lou, h.room, h.few, h.ok⟩
theorem TreeOwn.row {w w' : World} {base : Nat} {ns : Nodes} {kb ub nk : Nat} {fk : Int → Option Value} {row : Option Nat} (h : TreeOwn w base ns kb ub nk fk) (hg : w.grownBy w' row) (hr : ∀ g, row = some g → g < base) : TreeOwn w' base ns kb ub nk fk :=
  ⟨h.kids.kept hg (fun e => by have h1 := hr kb e.symm; have h2 := h.lok; omega), h.up.kept hg (fun e => by have h1 := hr ub e.symm; have h2 := h.lou; omega), fun i v hv => (h.own i v hv).kept hg (by
    cases hb : v.ownBlock with
    | none => exact .inl rfl
    | some g => exact .inr (fun e => by have h1 := hr g e.symm; have h2 := own_ge (h.own i v hv) g hb; omega)), h.nil, h.lok, h.lou, h.room, h.few, h.ok⟩
theorem PlaceIs.row {w w' : World} {pv : Value} {n : Nat} {bs : Bxs} {base size m : Nat} {e : TypeId} {v : Value} {xs : List Value} (h : PlaceIs w pv n bs) (ho : w.ownsRow base e size v m xs) (hg : w.grownBy w' v.ownBlock) : PlaceIs w' pv n bs := by
  obtain ⟨mb, e1, h1⟩ := h
  refine ⟨mb, e1, ?_⟩
  rcases h1 with h2 | ⟨b, rfl, h2⟩
  · exact .inl h2
  · exact .inr ⟨b, rfl, h2.kept hg (fun e => h2.not_row ho e.symm)⟩
/-- rows of different elements lie apart. -/
theorem own_apart {w : World} {base base' e e' size size' n n' : Nat} {v v' : Value} {xs xs' : List Value} (h : w.ownsRow base e size v n xs) (h' : w.ownsRow base' e' size' v' n' xs') (hne : e ≠ e') : v.ownBlock = none ∨ v.ownBlock ≠ v'.ownBlock := by
  cases hb : v.ownBlock with
  | none => exact .inl rfl
  | some g =>
    right
    intro hq
    obtain ⟨cs, h1⟩ := own_cells h hb
    exact own_other h' h1 hne hq.symm
/-- windows without shapes are so in any world. -/
theorem SceneIs.any {W W' : World} {bs : Bxs} {RW RH : Int} {l : List DW} (h : SceneIs W bs RW RH l) (hs : ∀ d ∈ l, d.sh = []) : SceneIs W' bs RW RH l :=
  ⟨h.root, fun i d hd => by
    obtain ⟨b, h1, h2, out, h3, h4⟩ := h.each i d hd
    have h5 := hs d (List.mem_of_getElem? hd)
    have h6 : out = [] := by
      obtain ⟨_, _, _, _, hc, _⟩ := h3
      exact no_places hc (fun x y hxy => by
        have h7 := (inB_iff out x y).2 hxy
        rw [h4, h5] at h7
        cases h7)
    subst h6
    obtain ⟨A, c, e, _⟩ := h3
    refine ⟨b, h1, h2, [], ?_, h4⟩
    rw [e]
    exact ⟨A, c, rfl, ⟨rfl, fun h => absurd h (by decide)⟩, canon_nilV, by simp, by simp⟩, h.only⟩
/-- a row of ids of the call's own. -/
def IdsOwn (w : World) (lo : Nat) (v : Value) (zs : List Int) : Prop := w.ownsRow lo 49 1 v zs.length (U32 zs)
theorem IdsOwn.below {w w' : World} {lo : Nat} {v : Value} {zs : List Int} (h : IdsOwn w lo v zs) (hb : Below w.heap.size w w') : IdsOwn w' lo v zs := ownsRow_below h hb
/-- what is held. -/
structure MK (w : World) (lo g6 g7 : Nat) (l : List DW) (k : Nat) (mk mu mp : Option Nat) (nk : Nat) (fk : Int → Option Value) (bs : Bxs) (v9 v10 : Value) : Prop where
  k6 : Blk w g6 34 #[.map mk, .map mu]
  k7 : Blk w g7 37 #[.map mp]
  tree : TreeIs w (.agg #[.map mk, .map mu]) (nodesW (l.take k)) mk mu nk fk
  place : PlaceIs w (.agg #[.map mp]) (k + 1) bs
  scene : SceneIs w bs 8 8 (l.take k)
  own9 : w.ownsRow lo 49 1 v9 (shL l k).length (U32 (shL l k))
  own10 : w.ownsRow lo 4 1 v10 (k + 1) (BL (isL l k))
theorem MK.below {w w' : World} {lo g6 g7 : Nat} {l : List DW} {k : Nat} {mk mu mp : Option Nat} {nk : Nat} {fk : Int → Option Value} {bs : Bxs} {v9 v10 : Value} (h : MK w lo g6 g7 l k mk mu mp nk fk bs v9 v10) (hb : Below w.heap.size w w') : MK w' lo g6 g7 l k mk mu mp nk fk bs v9 v10 :=
  ⟨h.k6.belowS hb, h.k7.belowS hb, h.tree.below hb, h.place.below hb, h.scene.below hb, ownsRow_below h.own9 hb, ownsRow_below h.own10 hb⟩
/-- what is held when a round's tree and place are laid down. -/
structure MN (w : World) (base g6 g7 : Nat) (l : List DW) (k : Nat) (kb ub : Nat) (mp : Option Nat) (nk : Nat) (fk : Int → Option Value) (bs : Bxs) : Prop where
  k6 : Blk w g6 34 #[.map (some kb), .map (some ub)]
  k7 : Blk w g7 37 #[.map mp]
  tree : TreeOwn w base (nodesW (l.take (k + 1))) kb ub nk fk
  place : PlaceIs w (.agg #[.map mp]) (k + 1 + 1) bs
  scene : SceneIs w bs 8 8 (l.take (k + 1))
section
variable {w w' : World} {base lo g6 g7 : Nat} {l : List DW} {k : Nat} {kb ub : Nat} {mp : Option Nat} {nk : Nat} {fk : Int → Option Value} {bs : Bxs}
theorem MN.below (h : MN w base g6 g7 l k kb ub mp nk fk bs) (hb : Below w.heap.size w w') : MN w' base g6 g7 l k kb ub mp nk fk bs :=
  ⟨h.k6.belowS hb, h.k7.belowS hb, h.tree.below hb, h.place.below hb, h.scene.below hb⟩
/-- an append to a row of the call's own leaves it. -/
theorem MN.app (h : MN w base g6 g7 l k kb ub mp nk fk bs) {o : Obj} {e size n : Nat} {v : Value} {xs : List Value} (ho : w.ownsRow lo e size v n xs) (hg : (w.alloc o).grownBy w' v.ownBlock) (hb : ∀ g, v.ownBlock = some g → g < base) (h6 : g6 < lo) (h7 : g7 < lo) (hs : ∀ d ∈ l.take (k + 1), d.sh = []) : MN w' base g6 g7 l k kb ub mp nk fk bs :=
  ⟨(h.k6.alloc o).grown hg (fun e => by have := own_ge ho _ e.symm; omega), (h.k7.alloc o).grown hg (fun e => by have := own_ge ho _ e.symm; omega), (h.tree.below (bal (bre w) o)).row hg hb, (h.place.below (bal (bre w) o)).row (ho.alloc o) hg, h.scene.any hs⟩
theorem MN.done (h : MN w base g6 g7 l k kb ub mp nk fk bs) {v9 v10 : Value} (h9 : w.ownsRow lo 49 1 v9 (shL l (k + 1)).length (U32 (shL l (k + 1)))) (h10 : w.ownsRow lo 4 1 v10 (k + 1 + 1) (BL (isL l (k + 1)))) : MK w lo g6 g7 l (k + 1) (some kb) (some ub) mp nk fk bs v9 v10 :=
  ⟨h.k6, h.k7, h.tree.tree, h.place, h.scene, h9, h10⟩
end
end Go.Proofs.YtbkkecijcijhdaaGreat
end

section
namespace Go.Proofs.YtbkkecijcijhdaaGreat
open Go.RowKit Go.Maps Go.Shelf

/-- an event: its code, and its numbers' row. -/
structure OV where
  C : Int
  A : Option Addr
  c : Nat
  ns : List Int
def OV.cells (o : OV) : List Value := [.int .i64 2, .int .i64 o.C, .int .i64 0, .slice o.A o.ns.length o.c, .string ByteArray.empty, .slice none 0 0]
theorem OV.cells_len (o : OV) : o.cells.length = 6 := rfl
def OV.key (o : OV) : Int × List Int := (o.C, o.ns)
/-- events in a row of the call's own. -/
structure OutsAt (w : World) (base : Nat) (v : Value) (l : List OV) : Prop where
  own : w.ownsRow base 106 6 v l.length (l.flatMap OV.cells)
  each : ∀ o ∈ l, w.ownsRow base 2 1 (.slice o.A o.ns.length o.c) o.ns.length (I64 o.ns)
theorem OutsAt.below {w w' : World} {base : Nat} {v : Value} {l : List OV} (h : OutsAt w base v l) (hb : Below w.heap.size w w') : OutsAt w' base v l :=
  ⟨ownsRow_below h.own hb, fun o ho => ownsRow_below (h.each o ho) hb⟩
theorem OutsAt.nil (w : World) (base : Nat) {v : Value} (h : w.ownsRow base 106 6 v 0 []) : OutsAt w base v [] := ⟨h, fun o ho => by cases ho⟩
theorem OutsAt.snoc {w w' : World} {base : Nat} {v v' : Value} {l : List OV} {o : OV} (h : OutsAt w base v l) (ho : w.ownsRow base 2 1 (.slice o.A o.ns.length o.c) o.ns.length (I64 o.ns)) (hg : w.grownBy w' v.ownBlock) (hv : w'.ownsRow base 106 6 v' (l.length + 1) (l.flatMap OV.cells ++ o.cells)) : OutsAt w' base v' (l ++ [o]) :=
  ⟨by simpa using hv, fun q hq => by
    rcases List.mem_append.1 hq with h1 | h1
    · exact (h.each q h1).kept hg (own_apart (h.each q h1) h.own (by decide))
    · obtain rfl := List.mem_singleton.1 h1
      exact ho.kept hg (own_apart ho h.own (by decide))⟩
/-- what the first k events tell. -/
def evK (code id : Int) (rs : List RC) (k : Nat) : List (Int × List Int) := (rs.take k).zipIdx.map fun q => (code, [id, q.1.X, q.1.Y, q.1.W, q.1.H, (rs.length : Int) - 1 - (q.2 : Int)])
theorem evK_succ (code id : Int) {rs : List RC} {k : Nat} {r : RC} (h : rs[k]? = some r) : evK code id rs (k + 1) = evK code id rs k ++ [(code, [id, r.X, r.Y, r.W, r.H, (rs.length : Int) - 1 - (k : Int)])] := by
  have hk := (List.getElem?_eq_some_iff.1 h).1
  unfold evK
  rw [take_snocI' h, List.zipIdx_append, List.map_append]
  simp [List.length_take, Nat.min_eq_left (Nat.le_of_lt hk)]
set_option maxRecDepth 100000 in
theorem Tryz.infoOut : (Tryz.prog.info? 106).map (fun i => (i.zero, i.size, i.bytes)) = some (some (.agg #[.int .i64 0, .int .i64 0, .int .i64 0, .slice none 0 0, .string ByteArray.empty, .slice none 0 0]), 6, 88) := by kernel_rfl
theorem Tryz.infoI6 : (Tryz.prog.info? 2).map (fun i => (i.zero, i.size, i.bytes)) = some (some (.int .i64 0), 1, 8) := by kernel_rfl
theorem evK_len {code id : Int} {rs : List RC} {k : Nat} (h : k ≤ rs.length) : (evK code id rs k).length = k := by simp [evK]; omega
set_option maxRecDepth 100000 in
set_option maxHeartbeats 4000000 in
theorem events_any (code id : Int) (u : Value) (rs : List RC) (w : World) (hi : 0 ≤ id ∧ id ≤ 4294967295) (hr : RegAt w u rs) (hn : rs.length ≤ 1000000000000) :
    Calls Tryz.prog 109 #[.int .i64 code, .int .u32 id, u] w fun e w' => ∃ v l, e = .returned v ∧ OutsAt w' w.heap.size v l ∧ l.map OV.key = evK code id rs rs.length ∧ Below w.heap.size w w' := by
  obtain ⟨i0, hi0, hz0, hz1, hz2⟩ := info_parts Tryz.infoOut
  obtain ⟨j0, hj0, hy0, hy1, hy2⟩ := info_parts Tryz.infoI6
  have HI := Lib.hid hi
  have HRG := Lib.hid hr
  obtain ⟨A, c, rfl, _⟩ := hr
  obtain ⟨n, hnn⟩ : ∃ n, rs.length = n := ⟨_, rfl⟩
  have HL := Lib.hid hnn
  have HN := Lib.hid (show n ≤ 1000000000000 by omega)
  have xR := HRG.out
  rw [hnn] at xR ⊢
  replace HRG := Lib.hid xR
  clear hi xR hnn hn
  have xB := bal (bre w) (.cells #[.slice A n c] 60)
  have xK := Blk.new w 60 #[.slice A n c]
  have xG := HRG.out.below xB
  go_enter Tryz.func109, Tryz.ntmps109
  go_upto_region 1 with fail
  obtain ⟨X0, hX0⟩ : ∃ X0, w.alloc (.cells #[.slice A n c] 60) = X0 := ⟨_, rfl⟩
  rw [hX0] at xB xK xG ⊢
  have HB := Lib.hid xB
  have K5 := Lib.hid xK
  replace HRG := Lib.hid xG
  clear xB xK xG hX0
  have q5 := K5.out.cellV (i := 0) (v := .slice A n c) rfl
  go_wp2_with fail
  have hro := rectsO_any (.agg #[.slice A n c]) rs X0 HRG.out
  rw [HL.out] at hro
  refine hro.mono ?_
  rintro e w1 ⟨A1, c1, rfl, ho1, hb1⟩
  have HR1 := Lib.hid (RdR.of_own ho1 HL.out)
  have hba := bstep HB.out hb1
  have HS1 := Lib.hid hba.size
  have HBB := Lib.hid hba
  clear ho1 hb1 hba K5 q5 HRG hro HB
  have hn := HN.out
  go_wp2_with (at_make; refine wpList_make_own _ rfl _ _ 100 rfl w1.heap.size 106 i0 _ 6 Tryz.underlying100 hi0 hz0 hz1 _ _ _ n rfl rfl rfl (by rw [hz2]; omega) (by simp only [maxLen]; omega) (Nat.le_refl _) ?_; intro w2 hown hg2; have HO2 := Lib.hid hown; have HG2 := Lib.hid hg2; clear hown hg2)
  have HB2 := Lib.hid (below_of_grown HG2.out)
  have HB := Lib.hid (bstep HBB.out HB2.out)
  go_loopw [19, 8] (fun i s8 wr => ∃ (k : Nat) (l : List OV), i = .int .i64 k ∧ k ≤ n ∧ OutsAt wr w1.heap.size s8 l ∧ l.map OV.key = evK code id rs k ∧ Below w1.heap.size w1 wr) (fun i _ _ => n - (intOf i).toNat)
  case atStart => exact ⟨0, [], rfl, by omega, OutsAt.nil _ _ HO2.out, rfl, HB2.out⟩
  case round =>
    obtain ⟨k, l, rfl, hk, hat, hkey, hB⟩ := hrel
    replace HB := Lib.hid (bstep HBB.out hB)
    obtain ⟨Ao, co, rfl, hco⟩ := own_form hat.own
    have HAT := Lib.hid hat
    have HKEY := Lib.hid hkey
    have HBX := Lib.hid hB
    have HLK := Lib.hid (show l.length = k by have h1 := congrArg List.length hkey; rw [List.length_map, evK_len (by have := HL.out; omega)] at h1; exact h1)
    by_cases hlt : k < n
    · obtain ⟨r, hr⟩ : ∃ r, rs[k]? = some r := ⟨_, List.getElem?_eq_getElem (by have := HL.out; omega)⟩
      obtain ⟨b, off, rfl, hb, hcl⟩ := (HR1.out.below hB).2 (by omega)
      obtain ⟨c0, c1, c2, c3⟩ := hcl k r hr
      have HR0 := Lib.hid hr
      have k1 : (k : Int) < (n : Int) := by omega
      have k0 : (0 : Int) ≤ (k : Int) := by omega
      have hn := HN.out
      have v1 : IntKind.i64.wrap ((n : Int) - 1) = (n : Int) - 1 := IntWalk.i64_in _ (by omega)
      have v2 : IntKind.i64.wrap ((n : Int) - 1 - (k : Int)) = (n : Int) - 1 - (k : Int) := IntWalk.i64_in _ (by omega)
      have v3 : IntKind.i64.wrap id = id := IntWalk.i64_in _ (by have := HI.out; omega)
      clear hat hkey hB hr hcl
      go_upto_region 6 with fail
      have xK10 := Blk.new wr 113 #[.int .i64 r.X, .int .i64 r.Y, .int .i64 r.W, .int .i64 r.H]
      have hba := bal (bre wr) (.cells #[.int .i64 r.X, .int .i64 r.Y, .int .i64 r.W, .int .i64 r.H] 113)
      have xAT := HAT.out.below hba
      have xBX := bstep HBX.out hba
      obtain ⟨X5, hX5⟩ : ∃ X5, wr.alloc (.cells #[.int .i64 r.X, .int .i64 r.Y, .int .i64 r.W, .int .i64 r.H] 113) = X5 := ⟨_, rfl⟩
      rw [hX5] at xK10 xAT xBX ⊢
      replace HAT := Lib.hid xAT
      replace HBX := Lib.hid xBX
      have c0 := xK10.cellV (i := 0) (v := .int .i64 r.X) rfl
      have c1 := xK10.cellV (i := 1) (v := .int .i64 r.Y) rfl
      have c2 := xK10.cellV (i := 2) (v := .int .i64 r.W) rfl
      have c3 := xK10.cellV (i := 3) (v := .int .i64 r.H) rfl
      clear hba xAT xBX hX5 xK10
      go_upto_region 7 with (refine wpList_recs rfl 104 2 6 _ rfl 1 _ j0 Tryz.underlying104 hj0 hy0 hy1 rfl (by decide) (by decide) (by decide) [.int .i64 id, .int .i64 r.X, .int .i64 r.Y, .int .i64 r.W, .int .i64 r.H, .int .i64 ((n : Int) - 1 - (k : Int))] (by simp [Value.cells]) rfl (by as_aux_lemma => kernel_rfl) #[.int .i64 id, .int .i64 r.X, .int .i64 r.Y, .int .i64 r.W, .int .i64 r.H, .int .i64 ((n : Int) - 1 - (k : Int))] rfl ?_)
      clear c0 c1 c2 c3
      have hba := bal (bre X5) (.cells #[.int .i64 id, .int .i64 r.X, .int .i64 r.Y, .int .i64 r.W, .int .i64 r.H, .int .i64 ((n : Int) - 1 - (k : Int))] 2)
      have xN := blk_own (Blk.new X5 2 ([.int .i64 id, .int .i64 r.X, .int .i64 r.Y, .int .i64 r.W, .int .i64 r.H, .int .i64 ((n : Int) - 1 - (k : Int))] : List Value).toArray) (show w1.heap.size ≤ X5.heap.size from HBX.out.size) rfl (by simp [maxLen])
      have xAT := HAT.out.below hba
      have xBX := bstep HBX.out hba
      obtain ⟨g6, hg6⟩ : ∃ g, X5.heap.size = g := ⟨_, rfl⟩
      obtain ⟨X6, hX6⟩ : ∃ X6, X5.alloc (.cells #[.int .i64 id, .int .i64 r.X, .int .i64 r.Y, .int .i64 r.W, .int .i64 r.H, .int .i64 ((n : Int) - 1 - (k : Int))] 2) = X6 := ⟨_, rfl⟩
      have xN' : X6.ownsRow w1.heap.size 2 1 (.slice (some ⟨g6, 0, none⟩) 6 6) 6 [.int .i64 id, .int .i64 r.X, .int .i64 r.Y, .int .i64 r.W, .int .i64 r.H, .int .i64 ((n : Int) - 1 - (k : Int))] := by rw [← hX6, ← hg6]; exact xN
      rw [hX6] at xAT xBX ⊢
      rw [hg6] at ⊢
      replace HAT := Lib.hid xAT
      replace HBX := Lib.hid xBX
      have HNR := Lib.hid xN'
      clear hba xN xN' xAT xBX hX6 hg6
      have HOA := Lib.hid (HAT.out.own.alloc (.cells #[.int .i64 2, .int .i64 code, .int .i64 0, .slice (some ⟨g6, 0, none⟩) 6 6, .string ByteArray.empty, .slice none 0 0] 106))
      go_wp2_with (first | (refine wpList_bld rfl #[.int .i64 2, .int .i64 code, .int .i64 0, .slice (some ⟨g6, 0, none⟩) 6 6, .string ByteArray.empty, .slice none 0 0] (by as_aux_lemma => kernel_rfl) ?_) | (refine wpList_recs rfl 100 106 1 _ rfl 6 _ i0 Tryz.underlying100 hi0 hz0 hz1 rfl (by decide) (by decide) (by decide) [.agg #[.int .i64 2, .int .i64 code, .int .i64 0, .slice (some ⟨g6, 0, none⟩) 6 6, .string ByteArray.empty, .slice none 0 0]] (by simp [Value.cells]) rfl (by as_aux_lemma => kernel_rfl) #[.int .i64 2, .int .i64 code, .int .i64 0, .slice (some ⟨g6, 0, none⟩) 6 6, .string ByteArray.empty, .slice none 0 0] rfl ?_) | (at_builtin; refine wpList_append_own_at _ rfl _ _ 100 rfl w1.heap.size 106 i0 _ 6 88 Tryz.underlying100 hi0 hz0 hz1 hz2 rfl (by decide) (.slice Ao l.length co) l.length (l.flatMap OV.cells) rfl HOA.out ⟨X6.heap.size, 0, none⟩ 1 1 [.int .i64 2, .int .i64 code, .int .i64 0, .slice (some ⟨g6, 0, none⟩) 6 6, .string ByteArray.empty, .slice none 0 0] rfl rfl (news_new _ [.int .i64 2, .int .i64 code, .int .i64 0, .slice (some ⟨g6, 0, none⟩) 6 6, .string ByteArray.empty, .slice none 0 0] _) (by simp [Value.oneCell']) (by have := HLK.out; simp only [maxLen]; omega) (by have := HLK.out; omega) (by have h1 := HBX.out.size; simp; omega) ?_; intro v' w4 hown' hgrow _ _; have HOW := Lib.hid hown'; have HGW := Lib.hid hgrow; clear hown' hgrow))
      have h9 := (HAT.out.below (bal (bre X6) _)).snoc (o := ⟨code, some ⟨g6, 0, none⟩, 6, [id, r.X, r.Y, r.W, r.H, (n : Int) - 1 - (k : Int)]⟩) (ownsRow_below HNR.out (bal (bre X6) _)) HGW.out HOW.out
      have hb9 := (bal HBX.out _).grown HGW.out (bal HBX.out _).size (fun q e => own_ge HAT.out.own q e)
      have hk9 := evK_succ code id HR0.out
      rw [HL.out] at hk9
      go_roundw
      case rel => exact ⟨k + 1, _, by go_num, by omega, h9, by rw [hk9, List.map_append, HKEY.out]; rfl, hb9⟩
      case measure => simp [intOf]; omega
    · obtain rfl : k = n := by omega
      clear hat hkey hB
      have k1 : ¬ (k : Int) < (k : Int) := by omega
      go_wp2_with fail
      go_ret
      exact ⟨_, rfl, l, ⟨own_lower HAT.out.own HS1.out, fun o ho => own_lower (HAT.out.each o ho) HS1.out⟩, HKEY.out, HB.out⟩
set_option maxRecDepth 100000 in
set_option maxHeartbeats 4000000 in
theorem refEvents_any (code id : Int) (A : Option Addr) (n c : Nat) (rs : List RC) (w : World) (hi : 0 ≤ id ∧ id ≤ 4294967295) (hr : RdR w A n rs) (hn : n ≤ 1000000000000) :
    Calls Tryz.prog 57 #[.int .i64 code, .int .u32 id, .slice A n c] w fun e w' => ∃ v l, e = .returned v ∧ OutsAt w' w.heap.size v l ∧ l.map OV.key = evK code id rs n ∧ Below w.heap.size w w' := by
  obtain ⟨i0, hi0, hz0, hz1, hz2⟩ := info_parts Tryz.infoOut
  obtain ⟨j0, hj0, hy0, hy1, hy2⟩ := info_parts Tryz.infoI6
  have HI := Lib.hid hi
  have HR1 := Lib.hid hr
  have HL := Lib.hid hr.1
  have HN := Lib.hid hn
  have HBB := Lib.hid (bre w)
  have HB := Lib.hid (bre w)
  clear hi hr hn
  go_enter Tryz.func57, Tryz.ntmps57
  go_wp2_with fail
  go_loopw [12, 7] (fun i s7 wr => ∃ (k : Nat) (l : List OV), i = .int .i64 k ∧ k ≤ n ∧ OutsAt wr w.heap.size s7 l ∧ l.map OV.key = evK code id rs k ∧ Below w.heap.size w wr) (fun i _ _ => n - (intOf i).toNat)
  case atStart => exact ⟨0, [], rfl, by omega, OutsAt.nil _ _ (World.ownsRow_nil _ _ _ _), rfl, bre w⟩
  case round =>
    obtain ⟨k, l, rfl, hk, hat, hkey, hB⟩ := hrel
    replace HB := Lib.hid (bstep HBB.out hB)
    obtain ⟨Ao, co, rfl, hco⟩ := own_form hat.own
    have HAT := Lib.hid hat
    have HKEY := Lib.hid hkey
    have HBX := Lib.hid hB
    have HLK := Lib.hid (show l.length = k by have h1 := congrArg List.length hkey; rw [List.length_map, evK_len (by have := HL.out; omega)] at h1; exact h1)
    by_cases hlt : k < n
    · obtain ⟨r, hr⟩ : ∃ r, rs[k]? = some r := ⟨_, List.getElem?_eq_getElem (by have := HL.out; omega)⟩
      obtain ⟨b, off, rfl, hb, hcl⟩ := (HR1.out.below hB).2 (by omega)
      obtain ⟨c0, c1, c2, c3⟩ := hcl k r hr
      have HR0 := Lib.hid hr
      have k1 : (k : Int) < (n : Int) := by omega
      have k0 : (0 : Int) ≤ (k : Int) := by omega
      have hn := HN.out
      have v1 : IntKind.i64.wrap ((n : Int) - 1) = (n : Int) - 1 := IntWalk.i64_in _ (by omega)
      have v2 : IntKind.i64.wrap ((n : Int) - 1 - (k : Int)) = (n : Int) - 1 - (k : Int) := IntWalk.i64_in _ (by omega)
      have v3 : IntKind.i64.wrap id = id := IntWalk.i64_in _ (by have := HI.out; omega)
      clear hat hkey hB hr hcl
      go_upto_region 5 with fail
      have xK10 := Blk.new wr 113 #[.int .i64 r.X, .int .i64 r.Y, .int .i64 r.W, .int .i64 r.H]
      have hba := bal (bre wr) (.cells #[.int .i64 r.X, .int .i64 r.Y, .int .i64 r.W, .int .i64 r.H] 113)
      have xAT := HAT.out.below hba
      have xBX := bstep HBX.out hba
      obtain ⟨X5, hX5⟩ : ∃ X5, wr.alloc (.cells #[.int .i64 r.X, .int .i64 r.Y, .int .i64 r.W, .int .i64 r.H] 113) = X5 := ⟨_, rfl⟩
      rw [hX5] at xK10 xAT xBX ⊢
      replace HAT := Lib.hid xAT
      replace HBX := Lib.hid xBX
      have c0 := xK10.cellV (i := 0) (v := .int .i64 r.X) rfl
      have c1 := xK10.cellV (i := 1) (v := .int .i64 r.Y) rfl
      have c2 := xK10.cellV (i := 2) (v := .int .i64 r.W) rfl
      have c3 := xK10.cellV (i := 3) (v := .int .i64 r.H) rfl
      clear hba xAT xBX hX5 xK10
      have hba := bal (bre X5) (.cells #[.int .i64 id, .int .i64 r.X, .int .i64 r.Y, .int .i64 r.W, .int .i64 r.H, .int .i64 ((n : Int) - 1 - (k : Int))] 2)
      have HBA := Lib.hid hba
      have xN := blk_own (Blk.new X5 2 ([.int .i64 id, .int .i64 r.X, .int .i64 r.Y, .int .i64 r.W, .int .i64 r.H, .int .i64 ((n : Int) - 1 - (k : Int))] : List Value).toArray) (show w.heap.size ≤ X5.heap.size from HBX.out.size) rfl (by simp [maxLen])
      have HNR := Lib.hid (show World.ownsRow _ w.heap.size 2 1 (.slice (some ⟨X5.heap.size, 0, none⟩) 6 6) 6 [.int .i64 id, .int .i64 r.X, .int .i64 r.Y, .int .i64 r.W, .int .i64 r.H, .int .i64 ((n : Int) - 1 - (k : Int))] from xN)
      have HOA := Lib.hid ((HAT.out.below hba).own.alloc (.cells #[.int .i64 2, .int .i64 code, .int .i64 0, .slice (some ⟨X5.heap.size, 0, none⟩) 6 6, .string ByteArray.empty, .slice none 0 0] 106))
      clear hba xN
      go_wp2_with (first | (refine wpList_recs rfl 104 2 6 _ rfl 1 _ j0 Tryz.underlying104 hj0 hy0 hy1 rfl (by decide) (by decide) (by decide) [.int .i64 id, .int .i64 r.X, .int .i64 r.Y, .int .i64 r.W, .int .i64 r.H, .int .i64 ((n : Int) - 1 - (k : Int))] (by simp [Value.cells]) rfl (by as_aux_lemma => kernel_rfl) #[.int .i64 id, .int .i64 r.X, .int .i64 r.Y, .int .i64 r.W, .int .i64 r.H, .int .i64 ((n : Int) - 1 - (k : Int))] rfl ?_) | (refine wpList_bld rfl #[.int .i64 2, .int .i64 code, .int .i64 0, .slice (some ⟨X5.heap.size, 0, none⟩) 6 6, .string ByteArray.empty, .slice none 0 0] (by as_aux_lemma => kernel_rfl) ?_) | (refine wpList_recs rfl 100 106 1 _ rfl 6 _ i0 Tryz.underlying100 hi0 hz0 hz1 rfl (by decide) (by decide) (by decide) [.agg #[.int .i64 2, .int .i64 code, .int .i64 0, .slice (some ⟨X5.heap.size, 0, none⟩) 6 6, .string ByteArray.empty, .slice none 0 0]] (by simp [Value.cells]) rfl (by as_aux_lemma => kernel_rfl) #[.int .i64 2, .int .i64 code, .int .i64 0, .slice (some ⟨X5.heap.size, 0, none⟩) 6 6, .string ByteArray.empty, .slice none 0 0] rfl ?_) | (at_builtin; refine wpList_append_own_at _ rfl _ _ 100 rfl w.heap.size 106 i0 _ 6 88 Tryz.underlying100 hi0 hz0 hz1 hz2 rfl (by decide) (.slice Ao l.length co) l.length (l.flatMap OV.cells) rfl HOA.out ⟨(X5.alloc (.cells #[.int .i64 id, .int .i64 r.X, .int .i64 r.Y, .int .i64 r.W, .int .i64 r.H, .int .i64 ((n : Int) - 1 - (k : Int))] 2)).heap.size, 0, none⟩ 1 1 [.int .i64 2, .int .i64 code, .int .i64 0, .slice (some ⟨X5.heap.size, 0, none⟩) 6 6, .string ByteArray.empty, .slice none 0 0] rfl rfl (news_new _ [.int .i64 2, .int .i64 code, .int .i64 0, .slice (some ⟨X5.heap.size, 0, none⟩) 6 6, .string ByteArray.empty, .slice none 0 0] _) (by simp [Value.oneCell']) (by have := HLK.out; simp only [maxLen]; omega) (by have := HLK.out; omega) (by have h1 := HBX.out.size; simp; omega) ?_; intro v' w4 hown' hgrow _ _; have HOW := Lib.hid hown'; have HGW := Lib.hid hgrow; clear hown' hgrow))
      have h9 := ((HAT.out.below HBA.out).below (bal (bre _) _)).snoc (o := ⟨code, some ⟨X5.heap.size, 0, none⟩, 6, [id, r.X, r.Y, r.W, r.H, (n : Int) - 1 - (k : Int)]⟩) (ownsRow_below HNR.out (bal (bre _) _)) HGW.out HOW.out
      have hb9 := (bal (bstep HBX.out HBA.out) _).grown HGW.out (bal (bstep HBX.out HBA.out) _).size (fun q e => own_ge HAT.out.own q e)
      have hk9 := evK_succ code id HR0.out
      rw [HL.out] at hk9
      go_roundw
      case rel => exact ⟨k + 1, _, by go_num, by omega, h9, by rw [hk9, List.map_append, HKEY.out]; rfl, hb9⟩
      case measure => simp [intOf]; omega
    · obtain rfl : k = n := by omega
      clear hat hkey hB
      have k1 : ¬ (k : Int) < (k : Int) := by omega
      go_wp2_with fail
      go_ret
      exact ⟨_, rfl, l, HAT.out, HKEY.out, HB.out⟩
end Go.Proofs.YtbkkecijcijhdaaGreat
end

section
namespace Go.Proofs.YtbkkecijcijhdaaGreat
open Go.RowKit Go.Maps Go.Shelf

theorem key_at {l l' : List OV} (h : l.map OV.key = l'.map OV.key) {k : Nat} {o : OV} (ho : l[k]? = some o) : ∃ o', l'[k]? = some o' ∧ o.C = o'.C ∧ o.ns = o'.ns := by
  have h1 : (l'.map OV.key)[k]? = some o.key := by rw [← h, List.getElem?_map, ho]; rfl
  rw [List.getElem?_map] at h1
  cases ho' : l'[k]? with
  | none => rw [ho'] at h1; cases h1
  | some o' =>
    rw [ho'] at h1
    have h2 := Option.some.inj h1
    unfold OV.key at h2
    injection h2 with h2 h3
    exact ⟨o', rfl, h2.symm, h3.symm⟩
set_option maxRecDepth 100000 in
set_option maxHeartbeats 4000000 in
theorem refSame_any (A A' : Option Addr) (n c c' : Nat) (l l' : List OV) (w : World) (hn : n ≤ maxLen) (h : RdF OV.cells 6 w A n l) (h' : RdF OV.cells 6 w A' n l') (hl : ∀ o ∈ l, Rd w o.A o.ns.length (I64 o.ns) ∧ o.ns.length ≤ maxLen) (hl' : ∀ o ∈ l', Rd w o.A o.ns.length (I64 o.ns)) (hk : l.map OV.key = l'.map OV.key) :
    Calls Tryz.prog 56 #[.slice A n c, .slice A' n c'] w fun e w' => e = .returned (.bool true) ∧ Below w.heap.size w w' := by
  have HR := Lib.hid h
  have HQ := Lib.hid h'
  have HL := Lib.hid hl
  have HM := Lib.hid hl'
  have HK := Lib.hid hk
  have HN := Lib.hid hn
  have HLN := Lib.hid h.1
  have e0 : ((n : Int) != (n : Int)) = false := by simp
  clear h h' hl hl' hk hn
  go_enter Tryz.func56, Tryz.ntmps56
  go_wp2_with fail
  go_loopw [14] (fun i wr => ∃ k : Nat, i = .int .i64 k ∧ k ≤ n ∧ Below w.heap.size w wr) (fun i _ => n - (intOf i).toNat)
  case atStart => exact ⟨0, rfl, by omega, bre w⟩
  case round =>
    obtain ⟨k, rfl, hk, hB⟩ := hrel
    have HB := Lib.hid hB
    have hnm := HN.out
    simp only [maxLen] at hnm
    by_cases hlt : k < n
    · obtain ⟨o, ho⟩ : ∃ o, l[k]? = some o := ⟨_, List.getElem?_eq_getElem (by have := HLN.out; omega)⟩
      obtain ⟨o', ho', hC, hns⟩ := key_at HK.out ho
      obtain ⟨b, f, rfl, hb, hcl⟩ := (HR.out.below hB).2 (by omega)
      obtain ⟨b', f', rfl, hb', hcl'⟩ := (HQ.out.below hB).2 (by omega)
      have HO := Lib.hid (HL.out o (List.mem_of_getElem? ho))
      have HO' := Lib.hid (HM.out o' (List.mem_of_getElem? ho'))
      obtain ⟨oC, oA, oc, ns⟩ := o
      obtain ⟨qC, qA, qc, ms⟩ := o'
      dsimp only at hC hns HO HO'
      subst hC hns
      obtain ⟨m, hm⟩ : ∃ m, ns.length = m := ⟨_, rfl⟩
      have HML := Lib.hid hm
      have x0 : wr.cell? ⟨b, f + k * 6, none⟩ = some (.int .i64 2) := hcl k _ ho 0 _ rfl
      have x1 : wr.cell? ⟨b, f + k * 6 + 1, none⟩ = some (.int .i64 oC) := hcl k _ ho 1 _ rfl
      have x2 : wr.cell? ⟨b, f + k * 6 + 2, none⟩ = some (.int .i64 0) := hcl k _ ho 2 _ rfl
      have x3 : wr.cell? ⟨b, f + k * 6 + 3, none⟩ = some (.slice oA m oc) := by rw [← hm]; exact hcl k _ ho 3 _ rfl
      have x4 : wr.cell? ⟨b, f + k * 6 + 4, none⟩ = some (.string ByteArray.empty) := hcl k _ ho 4 _ rfl
      have x5 : wr.cell? ⟨b, f + k * 6 + 5, none⟩ = some (.slice none 0 0) := hcl k _ ho 5 _ rfl
      have y0 : wr.cell? ⟨b', f' + k * 6, none⟩ = some (.int .i64 2) := hcl' k _ ho' 0 _ rfl
      have y1 : wr.cell? ⟨b', f' + k * 6 + 1, none⟩ = some (.int .i64 oC) := hcl' k _ ho' 1 _ rfl
      have y2 : wr.cell? ⟨b', f' + k * 6 + 2, none⟩ = some (.int .i64 0) := hcl' k _ ho' 2 _ rfl
      have y3 : wr.cell? ⟨b', f' + k * 6 + 3, none⟩ = some (.slice qA m qc) := by rw [← hm]; exact hcl' k _ ho' 3 _ rfl
      have y4 : wr.cell? ⟨b', f' + k * 6 + 4, none⟩ = some (.string ByteArray.empty) := hcl' k _ ho' 4 _ rfl
      have y5 : wr.cell? ⟨b', f' + k * 6 + 5, none⟩ = some (.slice none 0 0) := hcl' k _ ho' 5 _ rfl
      have HX3 := Lib.hid x3
      have HY3 := Lib.hid y3
      have k1 : (k : Int) < (n : Int) := by omega
      have k0 : (0 : Int) ≤ (k : Int) := by omega
      have d1 : (oC != oC) = false := by simp
      have d2 : ((m : Int) != (m : Int)) = false := by simp
      clear hB ho ho' hcl hcl' hm
      go_upto_region 6 with fail
      go_quiet (fail)
      go_upto_region 8 with fail
      clear x0 x1 x2 x4 x5 y0 y1 y2 y4 y5 d1 d2
      go_wp2_with fail
      go_loopw [103] (fun i wx => ∃ j : Nat, i = .int .i64 j ∧ j ≤ m ∧ Below wr.heap.size wr wx) (fun i _ => m - (intOf i).toNat)
      case atStart => exact ⟨0, rfl, by omega, by first | exact bre _ | exact (bre _).drew | exact below_drewN (bre _) _⟩
      case round =>
        obtain ⟨j, rfl, hj, hBr⟩ := hrel
        have HBR := Lib.hid hBr
        have hmm := HO.out.2
        rw [HML.out] at hmm
        simp only [maxLen] at hmm
        by_cases hjm : j < m
        · obtain ⟨z, hz⟩ : ∃ z, ns[j]? = some z := ⟨_, List.getElem?_eq_getElem (by have := HML.out; omega)⟩
          have p1 := (HO.out.1.below HB.out).below hBr
          have p2 := (HO'.out.below HB.out).below hBr
          rw [HML.out] at p1 p2
          obtain ⟨g, q, rfl, hg, hgc⟩ := p1.2 (by omega)
          obtain ⟨g', q', rfl, hg', hgc'⟩ := p2.2 (by omega)
          have z1 := hgc j (.int .i64 z) (by simp [I64, hz])
          have z2 := hgc' j (.int .i64 z) (by simp [I64, hz])
          have x3 := (hBr.cell (p := ⟨b, f + k * 6 + 3, none⟩) hb).trans HX3.out
          have y3 := (hBr.cell (p := ⟨b', f' + k * 6 + 3, none⟩) hb').trans HY3.out
          have j1 : (j : Int) < (m : Int) := by omega
          have j0 : (0 : Int) ≤ (j : Int) := by omega
          have d1 : (z != z) = false := by simp
          clear hBr p1 p2 hgc hgc' hz
          go_wp2_with fail
          go_quiet (fail)
          go_wp2_with fail
          go_roundw
          case rel => exact ⟨j + 1, by go_num, by omega, below_drewN HBR.out _⟩
          case measure => simp [intOf]; omega
        · obtain rfl : j = m := by omega
          have j1 : ¬ (j : Int) < (j : Int) := by omega
          clear hBr
          go_wp2_with fail
          go_roundw
          case rel => exact ⟨k + 1, by go_num, by omega, bstep HB.out HBR.out⟩
          case measure => simp [intOf]; omega
    · obtain rfl : k = n := by omega
      have k1 : ¬ (k : Int) < (k : Int) := by omega
      clear hB
      go_wp2_with fail
      go_ret
      exact ⟨rfl, HB.out⟩
end Go.Proofs.YtbkkecijcijhdaaGreat
end
