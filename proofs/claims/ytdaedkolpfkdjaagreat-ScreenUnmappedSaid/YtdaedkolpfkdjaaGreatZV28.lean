/-
  A window that came in by itself, opened; how many windows a slice of them can have.
  What a round of glazierlaw34.Make adds.
  The windows of glazierlaw37, plainly: as the document's scenes; which of them show; where a focus goes.
  What glazierlaw37.made holds while it makes windows, and how each step keeps it.
  What Make holds in a round, through stores into the block of what is made; the append at its end.
-/
import Derived.SizedLaws
import Derived.Test.YtdaedkolpfkdjaaGreatZV27
import Derived.Test.YtdaedkolpfkdjaaGreatZV25
import Derived.Test.YtdaedkolpfkdjaaGreatZV07
section
namespace Go.Proofs.YtdaedkolpfkdjaaGreat
open Go.ChangeShapes Go.WideShapes Go.ChangeAt Go.RowKit Go.Joins

section
variable {H : Type} {enc : TypeId × Value → H} {w : World} {base : Nat} {spare : Nat → Bool} {held : Bool}
set_option maxRecDepth 100000 in
theorem Tryz.bytesW34 : Tryz.prog.bytesOf 85 = 40 := by kernel_rfl
set_option maxRecDepth 100000 in
theorem win_arg {r : Reach} {b0 : Nat} {v : Value} {d : DataW H} {ps : List MemPlace} (hv : Value.okWide Tryz.prog w r b0 85 v) (h : DataW.Trod enc Tryz.prog w base spare held 85 v d ps) :
    ∃ p : PN34, v = .agg #[.int .u8 p.U, .int .i8 p.X, .int .i8 p.Y, .int .u8 p.W, .int .u8 p.H, .bool p.M, .bool p.S, .slice p.A p.n p.c, .int .u8 p.I] ∧ p.ok ∧ RdR w p.A p.n p.sh := by
  obtain ⟨cs, rfl, hsz⟩ := okWide_struct Tryz.underlying85 hv
  obtain ⟨fuel, hf⟩ := h
  have hl : cs.toList.length = 9 := by simpa using hsz.trans Tryz.cellsW34
  obtain ⟨p, hp, hok, hr⟩ := open_win34 hl (by simpa [Value.cells] using hf)
  refine ⟨p, ?_, hok, hr⟩
  have : cs = p.cells.toArray := by rw [← hp]
  rw [this]
  rfl
theorem wins_sized {A : Option Addr} {n c : Nat} {d : DataW H} {ps : List MemPlace} {ts : List TypeId} {ds : List (DataW H)} (h : DataW.Trod enc Tryz.prog w base spare held 64 (.slice A n c) d ps) (hsz : (DataW.weightsEach Tryz.prog ts ds).all (· ≤ reachBytes) = true) (ht : ts[0]? = some 64) (hd : ds[0]? = some d) : n * 40 ≤ 140737488351232 := by
  obtain ⟨fuel, hf⟩ := h
  rcases DataW.trod_slice Tryz.underlying64 hf with ⟨h0, _⟩ | ⟨a, len, cap, elems, rest, m, _, hcs, hx, _, _, _, hel, _⟩
  · simp [Value.cells] at h0
    omega
  · simp only [Value.cells, List.cons.injEq, Value.slice.injEq, and_true] at hcs
    injection hx with hx
    subst hx
    have := sized_slice hsz ht hd Tryz.underlying64
    rw [Tryz.bytesW34] at this
    simp only [List.length_map, reachBytes] at this
    rw [Nat.add_mul, hel] at this
    omega
end
end Go.Proofs.YtdaedkolpfkdjaaGreat
end

section
namespace Go.Proofs.YtdaedkolpfkdjaaGreat
open Go.RowKit Go.Maps Go.Shelf

section
variable {W : World} {l : List R34} {d : R34} {mk mu mp mc : Option Nat} {RW RH : Int}
theorem dws_snoc (hl : 1 ≤ l.length) : dws (l ++ [d]) = dws l ++ [d.dw] := by
  unfold dws
  cases l with
  | nil => simp at hl
  | cons a t => simp
theorem dws_len : (dws l).length = l.length - 1 := by simp [dws]
theorem dws_lenI (hl : 1 ≤ l.length) : (((dws l).length : Nat) : Int) = (l.length : Int) - 1 := by rw [dws_len]; omega
/-- each lies in one ahead of it. -/
def UpR (l : List R34) : Prop := ∀ (j : Nat) (d : R34), l[j]? = some d → 1 ≤ j → 0 ≤ d.U ∧ d.U < (j : Int)
theorem UpR.upOk (h : UpR l) : UpOk (dws l) := fun i e he => by
  unfold dws at he
  rw [List.getElem?_map, List.getElem?_tail] at he
  cases hd : l[i + 1]? with
  | none => rw [hd] at he; cases he
  | some d =>
    rw [hd] at he
    have e0 : d.dw = e := by simpa using he
    subst e0
    have := h (i + 1) d hd (by omega)
    show -1 ≤ d.U - 1 ∧ d.U - 1 < (i : Int)
    omega
theorem upR_of {ps : List PN34} (hl : l.length ≤ ps.length) (h : ∀ (j : Nat) (p : PN34) (d : R34), ps[j]? = some p → l[j]? = some d → Like34 j p d) : UpR l := fun j d hd hj => by
  have hlt := (List.getElem?_eq_some_iff.1 hd).1
  obtain ⟨p, hp⟩ : ∃ p, ps[j]? = some p := ⟨_, List.getElem?_eq_getElem (by omega)⟩
  have h0 := (h j p d hp hd).U
  rw [if_neg (by omega)] at h0
  have h1 := Int.emod_nonneg p.U (show (j : Int) ≠ 0 by omega)
  have h2 := Int.emod_lt_of_pos p.U (show (0 : Int) < (j : Int) by omega)
  omega
theorem get_snoc {α : Type} {l : List α} {d e : α} {j : Nat} (h : (l ++ [d])[j]? = some e) : (j < l.length ∧ l[j]? = some e) ∨ (j = l.length ∧ e = d) := by
  rw [List.getElem?_append] at h
  split at h
  · exact .inl ⟨by assumption, h⟩
  · cases hj : j - l.length with
    | zero => rw [hj] at h; simp at h; exact .inr ⟨by omega, h.symm⟩
    | succ m => rw [hj] at h; simp at h
theorem UpR.snoc (hu : UpR l) (hd : 0 ≤ d.U ∧ d.U < (l.length : Int)) : UpR (l ++ [d]) := fun j e he hj => by
  rcases get_snoc he with ⟨_, h⟩ | ⟨rfl, rfl⟩
  · exact hu j e h hj
  · exact hd
theorem set_34 {bs : Bxs} (hs : SceneIs W bs RW RH (dws l)) (hk : 1 ≤ l.length) (h7 : l.length ≤ 7) (hD : DWok d.dw) {b : BX} (hb : BoxOf W d.dw b) (hG : b.G = 0 ∧ b.B = 0) (hn : b.S = false → b.n = 0) :
    setC bs l.length (idW ((l.length : Int) - 1)) b = 0 ∧ setN bs l.length (idW ((l.length : Int) - 1)) b = l.length + 1 ∧ setB bs l.length (idW ((l.length : Int) - 1)) b = fun j => if j = idW ((dws l).length : Nat) then some b else bs j := by
  have h := setC_W hs (by rw [dws_len]; omega) hD hb hG hn
  have hf := hs.fresh
  have e : (dws l).length + 1 = l.length := by rw [dws_len]; omega
  rw [e] at h
  rw [← dws_lenI hk]
  refine ⟨h, ?_, ?_⟩
  · unfold setN
    rw [h, if_pos rfl, hf]
    rfl
  · unfold setB
    rw [h, if_pos rfl]
theorem mp_step {bs : Bxs} {b : BX} (hk : 1 ≤ l.length) (hp : PlaceIs W (.agg #[.map mp]) (l.length + 1) (fun j => if j = idW ((dws l).length : Nat) then some b else bs j)) (hs : SceneIs W bs RW RH (dws l)) (hb : BoxOf W d.dw b) : MP W (l ++ [d]) mp RW RH := by
  have h := hs.snoc hb
  rw [← dws_snoc hk] at h
  exact .inr ⟨by simp, _, by simpa using hp, h⟩
theorem idC_34 {k : Nat} (h : k ≤ 1000) : idC (idW ((k : Int) - 1)) = 0 := by
  cases k with
  | zero => rfl
  | succ k =>
    have e : ((k + 1 : Nat) : Int) - 1 = (k : Int) := by omega
    rw [e]
    exact idC_W ⟨by omega, by omega⟩
theorem mc_none {cs : Its} (h3 : ∀ k it, cs k = some it → ∃ j : Nat, j < l.length ∧ k = idW ((j : Int) - 1)) : cs (idW ((l.length : Int) - 1)) = none := by
  cases h : cs (idW ((l.length : Int) - 1)) with
  | none => rfl
  | some it =>
    obtain ⟨j, hj, e⟩ := h3 _ it h
    have := idW_inj (by omega) (by omega) e
    omega
end
theorem like_first {p : PN34} {W H c : Nat} {Ap : Option Addr} (hW : (W : Int) = p.W % 16 + 1 ∧ (H : Int) = p.H % 16 + 1) (hs : p.sh.length ≤ 6 ∧ ∀ r ∈ p.sh, SmallR r) : Like34 0 p ⟨-1, 0, 0, W, H, true, false, none, 0, 0, Ap, W * H, c, [], inkL W (W * H) p.I⟩ :=
  ⟨rfl, rfl, rfl, hW.1, hW.2, rfl, rfl, rfl, rfl, rfl, hs⟩
theorem like_next {p : PN34} {k W H c : Nat} {Ap : Option Addr} (hk : k ≠ 0) {u : Int} (hu : u = p.U % (k : Int)) (A : Option Addr) (n m : Nat) (hW : (W : Int) = p.W % 16 + 1 ∧ (H : Int) = p.H % 16 + 1) (hs : p.sh.length ≤ 6 ∧ ∀ r ∈ p.sh, SmallR r) : Like34 k p ⟨u, p.X, p.Y, W, H, p.M, p.S, A, n, m, Ap, W * H, c, if p.S then p.sh else [], inkL W (W * H) p.I⟩ :=
  ⟨by rw [if_neg hk, hu], by rw [if_neg hk], by rw [if_neg hk], hW.1, hW.2, by simp [hk], by simp [hk], rfl, rfl, rfl, hs⟩

end Go.Proofs.YtdaedkolpfkdjaaGreat
end

section
namespace Go.Proofs.YtdaedkolpfkdjaaGreat

/-- a window that is made: its parent's number, whether it is mapped, whether it lies outside. -/
structure FW where
  U : Int
  M : Bool
  O : Bool
def FW.cells (f : FW) : List Value := [.int .u8 f.U, .bool f.M, .bool f.O]
theorem FW.cells_len (f : FW) : f.cells.length = 3 := rfl
def FW.ok (f : FW) : Prop := 0 ≤ f.U ∧ f.U ≤ 255
def FW.dw (f : FW) (i : Nat) : DW := ⟨f.U % ((i : Int) + 1) - 1, if f.O then 100 else 0, 0, 8, 8, f.M, false, none, 0, 0, []⟩
def dwsF (fs : List FW) : List DW := fs.zipIdx.map fun q => q.1.dw q.2
section
variable {l : List DW}
/-- is a window of a number, the root's is 0, viewable? -/
def isAt (l : List DW) (j : Nat) : Bool := vw (nodesW l) (bxS 8 8 l) (idW ((j : Int) - 1))
def isL (l : List DW) (k : Nat) : List Bool := (List.range (k + 1)).map (isAt l)
def shL (l : List DW) (k : Nat) : List Int := ((List.range (k + 1)).filter (isAt l)).map fun (j : Nat) => idW ((j : Int) - 1)
end
end Go.Proofs.YtdaedkolpfkdjaaGreat
end

section
namespace Go.Proofs.YtdaedkolpfkdjaaGreat
open Go.RowKit Go.Maps Go.Shelf

def BL (l : List Bool) : List Value := l.map Value.bool
theorem TreeOwn.below {w w' : World} {base : Nat} {ns : Nodes} {kb ub nk : Nat} {fk : Int → Option Value} (h : TreeOwn w base ns kb ub nk fk) (hb : Below w.heap.size w w') : TreeOwn w' base ns kb ub nk fk :=
  ⟨h.kids.below hb, h.up.below hb, fun i v hv => ownsRow_below (h.own i v hv) hb, h.nil, h.lok, h.lou, h.room, h.few, h.ok, h.keys⟩
theorem TreeOwn.setBlk {w : World} {base : Nat} {ns : Nodes} {kb ub nk : Nat} {fk : Int → Option Value} (h : TreeOwn w base ns kb ub nk fk) {B : Nat} {t : TypeId} {cs : Array Value} (hB : Blk w B t cs) (ht : t ≠ 48) (i : Nat) (u : Value) : TreeOwn (w.setCell ⟨B, i, none⟩ u) base ns kb ub nk fk :=
  ⟨h.kids.setCell (h.kids.neBlk hB) u, h.up.setCell (h.up.neBlk hB) u, fun j v hv => (h.own j v hv).kept (grown_setCell w ⟨B, i, none⟩ u) (.inr (own_other (h.own j v hv) hB ht)), h.nil, h.lok, h.lou, h.room, h.few, h.ok, h.keys⟩
theorem TreeOwn.row {w w' : World} {base : Nat} {ns : Nodes} {kb ub nk : Nat} {fk : Int → Option Value} {row : Option Nat} (h : TreeOwn w base ns kb ub nk fk) (hg : w.grownBy w' row) (hr : ∀ g, row = some g → g < base) : TreeOwn w' base ns kb ub nk fk :=
  ⟨h.kids.kept hg (fun e => by have h1 := hr kb e.symm; have h2 := h.lok; omega), h.up.kept hg (fun e => by have h1 := hr ub e.symm; have h2 := h.lou; omega), fun i v hv => (h.own i v hv).kept hg (by
    cases hb : v.ownBlock with
    | none => exact .inl rfl
    | some g => exact .inr (fun e => by have h1 := hr g e.symm; have h2 := own_ge (h.own i v hv) g hb; omega)), h.nil, h.lok, h.lou, h.room, h.few, h.ok, h.keys⟩
theorem PlaceIs.row {w w' : World} {pv : Value} {n : Nat} {bs : Bxs} {base size m : Nat} {e : TypeId} {v : Value} {xs : List Value} (h : PlaceIs w pv n bs) (ho : w.ownsRow base e size v m xs) (hg : w.grownBy w' v.ownBlock) : PlaceIs w' pv n bs := by
  obtain ⟨mb, e1, h1⟩ := h
  refine ⟨mb, e1, ?_⟩
  rcases h1 with h2 | ⟨b, rfl, h2⟩
  · exact .inl h2
  · exact .inr ⟨b, rfl, h2.kept hg (fun e => h2.not_row ho e.symm)⟩
/-- windows without shapes are so in any world. -/
theorem SceneIs.any {W W' : World} {bs : Bxs} {RW RH : Int} {l : List DW} (h : SceneIs W bs RW RH l) (hs : ∀ d ∈ l, d.sh = []) : SceneIs W' bs RW RH l :=
  ⟨h.root, fun i d hd => by
    obtain ⟨b, h1, h2, out, h3, h4⟩ := h.each i d hd
    have h5 := hs d (List.mem_of_getElem? hd)
    have h6 : out = [] := by
      obtain ⟨_, _, _, _, hc, _⟩ := h3
      exact no_places hc (fun x y hxy => by
        have h7 := (inB_iff out x y).2 hxy
        rw [h4, h5] at h7
        cases h7)
    subst h6
    obtain ⟨A, c, e, _⟩ := h3
    refine ⟨b, h1, h2, [], ?_, h4⟩
    rw [e]
    exact ⟨A, c, rfl, ⟨rfl, fun h => absurd h (by decide)⟩, canon_nilV, by simp, by simp⟩, h.only⟩
/-- a row of ids of the call's own. -/
def IdsOwn (w : World) (lo : Nat) (v : Value) (zs : List Int) : Prop := w.ownsRow lo 48 1 v zs.length (U32 zs)
theorem IdsOwn.below {w w' : World} {lo : Nat} {v : Value} {zs : List Int} (h : IdsOwn w lo v zs) (hb : Below w.heap.size w w') : IdsOwn w' lo v zs := ownsRow_below h hb
theorem add_pre {l : List DW} {k : Nat} {d : DW} (h : UpOk l) (hd : l[k]? = some d) (hk : k ≤ 60) : idC (idW k) = 0 ∧ hasN (nodesW (l.take k)) (idW k) = false ∧ hasN (nodesW (l.take k)) (idW d.P) = true ∧ decide ((64 : Int) ≤ ((nodesW (l.take k)).length : Int) + 1) = false := by
  have hlt := (List.getElem?_eq_some_iff.1 hd).1
  have hlen : (l.take k).length = k := by rw [List.length_take]; omega
  have hp := h k d hd
  refine ⟨idC_W (by omega), ?_, hasW hp.1 (by rw [hlen]; exact hp.2), by rw [nodesW_len, hlen]; exact decide_eq_false (by omega)⟩
  cases hh : hasN (nodesW (l.take k)) (idW k) with
  | false => rfl
  | true =>
    obtain ⟨n, a, b, e⟩ := hasW_inv hh
    have := idW_inj (by omega) a e
    rw [hlen] at b
    omega
/-- what is held. -/
structure MK (w : World) (lo g6 g7 : Nat) (l : List DW) (k : Nat) (mk mu mp : Option Nat) (nk : Nat) (fk : Int → Option Value) (bs : Bxs) (v9 v10 : Value) : Prop where
  k6 : Blk w g6 37 #[.map mk, .map mu]
  k7 : Blk w g7 40 #[.map mp]
  tree : TreeIs w (.agg #[.map mk, .map mu]) (nodesW (l.take k)) mk mu nk fk
  place : PlaceIs w (.agg #[.map mp]) (k + 1) bs
  scene : SceneIs w bs 8 8 (l.take k)
  own9 : w.ownsRow lo 48 1 v9 (shL l k).length (U32 (shL l k))
  own10 : w.ownsRow lo 4 1 v10 (k + 1) (BL (isL l k))
theorem MK.below {w w' : World} {lo g6 g7 : Nat} {l : List DW} {k : Nat} {mk mu mp : Option Nat} {nk : Nat} {fk : Int → Option Value} {bs : Bxs} {v9 v10 : Value} (h : MK w lo g6 g7 l k mk mu mp nk fk bs v9 v10) (hb : Below w.heap.size w w') : MK w' lo g6 g7 l k mk mu mp nk fk bs v9 v10 :=
  ⟨h.k6.belowS hb, h.k7.belowS hb, h.tree.below hb, h.place.below hb, h.scene.below hb, ownsRow_below h.own9 hb, ownsRow_below h.own10 hb⟩
/-- what is held when a round's tree and place are laid down. -/
structure MN (w : World) (base g6 g7 : Nat) (l : List DW) (k : Nat) (kb ub : Nat) (mp : Option Nat) (nk : Nat) (fk : Int → Option Value) (bs : Bxs) : Prop where
  k6 : Blk w g6 37 #[.map (some kb), .map (some ub)]
  k7 : Blk w g7 40 #[.map mp]
  tree : TreeOwn w base (nodesW (l.take (k + 1))) kb ub nk fk
  place : PlaceIs w (.agg #[.map mp]) (k + 1 + 1) bs
  scene : SceneIs w bs 8 8 (l.take (k + 1))
section
variable {w w' : World} {base lo g6 g7 : Nat} {l : List DW} {k : Nat} {kb ub : Nat} {mp : Option Nat} {nk : Nat} {fk : Int → Option Value} {bs : Bxs}
theorem MN.below (h : MN w base g6 g7 l k kb ub mp nk fk bs) (hb : Below w.heap.size w w') : MN w' base g6 g7 l k kb ub mp nk fk bs :=
  ⟨h.k6.belowS hb, h.k7.belowS hb, h.tree.below hb, h.place.below hb, h.scene.below hb⟩
/-- an append to a row of the call's own leaves it. -/
theorem MN.app (h : MN w base g6 g7 l k kb ub mp nk fk bs) {o : Obj} {e size n : Nat} {v : Value} {xs : List Value} (ho : w.ownsRow lo e size v n xs) (hg : (w.alloc o).grownBy w' v.ownBlock) (hb : ∀ g, v.ownBlock = some g → g < base) (h6 : g6 < lo) (h7 : g7 < lo) (hs : ∀ d ∈ l.take (k + 1), d.sh = []) : MN w' base g6 g7 l k kb ub mp nk fk bs :=
  ⟨(h.k6.alloc o).grown hg (fun e => by have := own_ge ho _ e.symm; omega), (h.k7.alloc o).grown hg (fun e => by have := own_ge ho _ e.symm; omega), (h.tree.below (bal (bre w) o)).row hg hb, (h.place.below (bal (bre w) o)).row (ho.alloc o) hg, h.scene.any hs⟩
theorem MN.done (h : MN w base g6 g7 l k kb ub mp nk fk bs) {v9 v10 : Value} (h9 : w.ownsRow lo 48 1 v9 (shL l (k + 1)).length (U32 (shL l (k + 1)))) (h10 : w.ownsRow lo 4 1 v10 (k + 1 + 1) (BL (isL l (k + 1)))) : MK w lo g6 g7 l (k + 1) (some kb) (some ub) mp nk fk bs v9 v10 :=
  ⟨h.k6, h.k7, h.tree.tree, h.place, h.scene, h9, h10⟩
end
end Go.Proofs.YtdaedkolpfkdjaaGreat
end

section
namespace Go.Proofs.YtdaedkolpfkdjaaGreat
open Go.RowKit Go.Maps Go.Shelf

/-- a part of a block is there. -/
theorem there_part {w : World} {g : Nat} {t : TypeId} {cs : Array Value} (h : Blk w g t cs) {o m : Nat} (hm : o + m ≤ cs.size) : w.there g o m := fun j hj => ⟨by rw [h.cell, Array.getElem?_eq_getElem (by omega)]; simp, h.frozen _⟩
/-- what is kept by each store into a block without numbers is kept by all. -/
theorem sets_ind {P : World → Prop} {g : Nat} {t : TypeId} (hstep : ∀ (V : World) (cs : Array Value) (i : Nat) (u : Value), Blk V g t cs → NoI cs → P V → P (V.setCell ⟨g, i, none⟩ u)) : ∀ (vs : List Value) (o : Nat) (W : World) (cs : List Value), Blk W g t cs.toArray → NoI cs.toArray → (∀ v ∈ vs, ∀ k x, v ≠ .int k x) → P W → P (W.setCells g o vs)
  | [], _, _, _, _, _, _, h => h
  | v :: vs, o, W, cs, hB, hn, hv, h => by
    have h1 : Blk (W.setCell ⟨g, o, none⟩ v) g t (cs.set o v).toArray := by simpa using hB.set_ o v
    refine sets_ind hstep vs (o + 1) _ _ h1 (fun j k x => ?_) (fun u hu => hv u (List.mem_cons_of_mem _ hu)) (hstep W _ o v hB hn h)
    have h2 := hn j k x
    rw [List.getElem?_toArray] at h2 ⊢
    rw [List.getElem?_set]
    split
    · split
      · simpa using hv v (List.mem_cons_self ..) k x
      · simp
    · exact h2
/-- a row lies apart from what is appended to. -/
def Far (v : Value) (A : Option Addr) (n : Nat) : Prop := 0 < n → ∀ a, A = some a → v.ownBlock ≠ some a.block
theorem Far.zero (v : Value) (A : Option Addr) : Far v A 0 := fun h => absurd h (by simp)
theorem Far.fr {v : Value} {A : Option Addr} {n lo : Nat} (h : Fr lo A) (hv : ∀ g, v.ownBlock = some g → g < lo) : Far v A n := fun _ a ha e => by
  have h1 := h a ha
  have h2 := hv _ e
  omega
theorem Far.app {v v' : Value} {A : Option Addr} {n sz : Nat} (h : Far v A n) (hat : v'.ownBlock = v.ownBlock ∨ v'.ownBlock = some sz) (hlt : 0 < n → ∀ a, A = some a → a.block < sz) : Far v' A n := fun h0 a ha e => by
  rcases hat with h1 | h1
  · exact h h0 a ha (h1.symm.trans e)
  · have h2 := hlt h0 a ha
    rw [h1] at e
    have := Option.some.inj e
    omega
theorem RdR.app {W W' : World} {v : Value} {A : Option Addr} {n : Nat} {rs : List RC} (h : RdR W A n rs) (hg : W.grownBy W' v.ownBlock) (hf : Far v A n) : RdR W' A n rs :=
  ⟨h.1, fun h0 => by
    obtain ⟨b, off, e, hb, hc⟩ := h.2 h0
    have hne : some b ≠ v.ownBlock := fun e' => hf h0 _ e e'.symm
    refine ⟨b, off, e, Nat.lt_of_lt_of_le hb hg.size, fun i r hi => ?_⟩
    obtain ⟨c0, c1, c2, c3⟩ := hc i r hi
    exact ⟨hg.cell c0 hne, hg.cell c1 hne, hg.cell c2 hne, hg.cell c3 hne⟩⟩
theorem Rd.app {W W' : World} {v : Value} {A : Option Addr} {n : Nat} {vs : List Value} (h : Rd W A n vs) (hg : W.grownBy W' v.ownBlock) (hf : Far v A n) : Rd W' A n vs :=
  ⟨h.1, fun h0 => by
    obtain ⟨b, off, e, hb, hc⟩ := h.2 h0
    have hne : some b ≠ v.ownBlock := fun e' => hf h0 _ e e'.symm
    exact ⟨b, off, e, Nat.lt_of_lt_of_le hb hg.size, fun i v hi => hg.cell (hc i v hi) hne⟩⟩
theorem Rd.lt_ {W : World} {A : Option Addr} {n : Nat} {vs : List Value} (h : Rd W A n vs) : 0 < n → ∀ a, A = some a → a.block < W.heap.size := fun h0 a ha => by
  obtain ⟨b, off, e, hb, _⟩ := h.2 h0
  rw [e] at ha
  cases ha
  exact hb
theorem RdR.lt_ {W : World} {A : Option Addr} {n : Nat} {rs : List RC} (h : RdR W A n rs) : 0 < n → ∀ a, A = some a → a.block < W.heap.size := fun h0 a ha => by
  obtain ⟨b, off, e, hb, _⟩ := h.2 h0
  rw [e] at ha
  cases ha
  exact hb
/-- the tree, the place, the canvas, the pixels, apart from what is appended to. -/
def MTf (W : World) (v : Value) (l : List R34) (mk mu : Option Nat) : Prop := (nodesW (dws l) = [] ∧ mk = none ∧ mu = none) ∨ ∃ kb ub nk fk base, mk = some kb ∧ mu = some ub ∧ TreeOwn W base (nodesW (dws l)) kb ub nk fk ∧ ∀ g, v.ownBlock = some g → g < base
def MPf (W : World) (v : Value) (l : List R34) (mp : Option Nat) (RW RH : Int) : Prop := (l = [] ∧ mp = none) ∨ (l ≠ [] ∧ ∃ bs, PlaceIs W (.agg #[.map mp]) l.length bs ∧ SceneIs W bs RW RH (dws l) ∧ ∀ i b, bs i = some b → Far v b.A b.n)
def MCf (W : World) (v : Value) (l : List R34) (mc : Option Nat) : Prop := ∃ cs, CanvasIs W (.agg #[.map mc]) l.length cs ∧ (∀ (j : Nat) (d : R34), l[j]? = some d → ∃ it : IT, cs (idW ((j : Int) - 1)) = some it ∧ it.W = d.W ∧ it.H = d.H ∧ it.px = d.px) ∧ (∀ k it, cs k = some it → ∃ j : Nat, j < l.length ∧ k = idW ((j : Int) - 1)) ∧ ∀ k it, cs k = some it → Far v it.A it.n
def MXf (W : World) (v : Value) (l : List R34) : Prop := ∀ d ∈ l, Rd W d.Ap d.np (Gr.U8 d.px) ∧ Far v d.Ap d.np
section
variable {W W' : World} {v v' : Value} {l : List R34} {mk mu mp mc : Option Nat} {RW RH : Int} {d : R34}
theorem MTf.below (h : MTf W v l mk mu) (hb : Below W.heap.size W W') : MTf W' v l mk mu := by
  rcases h with h | ⟨kb, ub, nk, fk, base, h1, h2, h3, h4⟩
  · exact .inl h
  · exact .inr ⟨kb, ub, nk, fk, base, h1, h2, h3.below hb, h4⟩
theorem MPf.below (h : MPf W v l mp RW RH) (hb : Below W.heap.size W W') : MPf W' v l mp RW RH := by
  rcases h with h | ⟨h1, bs, h2, h3, h4⟩
  · exact .inl h
  · exact .inr ⟨h1, bs, h2.below hb, h3.below hb, h4⟩
theorem MCf.below (h : MCf W v l mc) (hb : Below W.heap.size W W') : MCf W' v l mc := by
  obtain ⟨cs, h1, h2⟩ := h
  exact ⟨cs, h1.below hb, h2⟩
theorem MXf.below (h : MXf W v l) (hb : Below W.heap.size W W') : MXf W' v l := fun d hd => ⟨(h d hd).1.below hb, (h d hd).2⟩
theorem MTf.set (h : MTf W v l mk mu) {g : Nat} {cs : Array Value} (hB : Blk W g 70 cs) (_hn : NoI cs) (i : Nat) (u : Value) : MTf (W.setCell ⟨g, i, none⟩ u) v l mk mu := by
  rcases h with h | ⟨kb, ub, nk, fk, base, h1, h2, h3, h4⟩
  · exact .inl h
  · exact .inr ⟨kb, ub, nk, fk, base, h1, h2, h3.setBlk hB (by decide) i u, h4⟩
theorem MPf.set (h : MPf W v l mp RW RH) {g : Nat} {t : TypeId} {cs : Array Value} (hB : Blk W g t cs) (hn : NoI cs) (i : Nat) (u : Value) : MPf (W.setCell ⟨g, i, none⟩ u) v l mp RW RH := by
  rcases h with h | ⟨h1, bs, h2, h3, h4⟩
  · exact .inl h
  · exact .inr ⟨h1, bs, h2.setBlk hB i u, h3.keepG (grown_setCell W ⟨g, i, none⟩ u) (noI_blk hB hn), h4⟩
theorem MCf.set (h : MCf W v l mc) {g : Nat} {t : TypeId} {cs : Array Value} (hB : Blk W g t cs) (hn : NoI cs) (i : Nat) (u : Value) : MCf (W.setCell ⟨g, i, none⟩ u) v l mc := by
  obtain ⟨cs, h1, h2⟩ := h
  exact ⟨cs, h1.setX hB hn i u, h2⟩
theorem MXf.set (h : MXf W v l) {g : Nat} {t : TypeId} {cs : Array Value} (hB : Blk W g t cs) (hn : NoI cs) (i : Nat) (u : Value) : MXf (W.setCell ⟨g, i, none⟩ u) v l := fun d hd => ⟨rd_noint (h d hd).1 hB hn i u, (h d hd).2⟩
theorem MPf.forget (h : MPf W v l mp RW RH) : MP W l mp RW RH := by
  rcases h with h | ⟨h1, bs, h2, h3, _⟩
  · exact .inl h
  · exact .inr ⟨h1, bs, h2, h3⟩
theorem MCf.forget (h : MCf W v l mc) : MC W l mc := by
  obtain ⟨cs, h1, h2, h3, _⟩ := h
  exact ⟨cs, h1, h2, h3⟩
theorem MXf.forget (h : MXf W v l) : MX W l := fun d hd => (h d hd).1
theorem mcf_nil (W : World) (v : Value) : MCf W v [] none := ⟨fun _ => none, canvas_nil W, (fun j d h => by simp at h), (fun k it h => by cases h), (fun k it h => by cases h)⟩
theorem mxf_nil (W : World) (v : Value) : MXf W v [] := fun d hd => by cases hd
theorem mtf_first (W : World) (v : Value) (d : R34) : MTf W v [d] none none := .inl ⟨rfl, rfl, rfl⟩
theorem mtf_own {kb ub nk base : Nat} {fk : Int → Option Value} (h : TreeOwn W base (nodesW (dws l)) kb ub nk fk) (hg : ∀ g, v.ownBlock = some g → g < base) : MTf W v l (some kb) (some ub) := .inr ⟨kb, ub, nk, fk, base, rfl, rfl, h, hg⟩
theorem mpf_first (h : PlaceIs W (.agg #[.map mp]) 1 (fun i => if i = 1 then some (rootBX RW RH) else none)) : MPf W v [d] mp RW RH :=
  .inr ⟨by simp, _, h, SceneIs.nil, fun i b hb => by
    split at hb
    · cases hb
      exact Far.zero _ _
    · cases hb⟩
theorem mpf_step {bs : Bxs} {b : BX} (hk : 1 ≤ l.length) (hp : PlaceIs W (.agg #[.map mp]) (l.length + 1) (fun j => if j = idW ((dws l).length : Nat) then some b else bs j)) (hs : SceneIs W bs RW RH (dws l)) (hb : BoxOf W d.dw b) (hf : ∀ i b, bs i = some b → Far v b.A b.n) (hfb : Far v b.A b.n) : MPf W v (l ++ [d]) mp RW RH := by
  have h := hs.snoc hb
  rw [← dws_snoc hk] at h
  refine .inr ⟨by simp, _, by simpa using hp, h, fun i b' hb' => ?_⟩
  split at hb'
  · cases hb'
    exact hfb
  · exact hf i b' hb'
theorem mcf_step {cs cs' : Its} {it : IT} (h1 : CanvasIs W (.agg #[.map mc]) (l.length + 1) cs') (e : ∀ j, cs' j = if j = idW ((l.length : Int) - 1) then some it else cs j) (h2 : ∀ (j : Nat) (d : R34), l[j]? = some d → ∃ it : IT, cs (idW ((j : Int) - 1)) = some it ∧ it.W = d.W ∧ it.H = d.H ∧ it.px = d.px) (h3 : ∀ k it, cs k = some it → ∃ j : Nat, j < l.length ∧ k = idW ((j : Int) - 1)) (h4 : ∀ k it, cs k = some it → Far v it.A it.n) (hit : it.W = d.W ∧ it.H = d.H ∧ it.px = d.px) (hfi : Far v it.A it.n) : MCf W v (l ++ [d]) mc := by
  refine ⟨cs', by simpa using h1, fun j d' hd => ?_, fun k it' hk => ?_, fun k it' hk => ?_⟩
  · rcases get_snoc hd with ⟨hj, h⟩ | ⟨rfl, rfl⟩
    · obtain ⟨i1, q1, q2⟩ := h2 j d' h
      refine ⟨i1, ?_, q2⟩
      rw [e, if_neg (fun hh => by have := idW_inj (by omega) (by omega) hh; omega)]
      exact q1
    · exact ⟨it, by rw [e, if_pos rfl], hit⟩
  · rw [e] at hk
    by_cases hq : k = idW ((l.length : Int) - 1)
    · exact ⟨l.length, by simp, hq⟩
    · rw [if_neg hq] at hk
      obtain ⟨j, hj, h⟩ := h3 k it' hk
      exact ⟨j, by simp; omega, h⟩
  · rw [e] at hk
    split at hk
    · cases hk
      exact hfi
    · exact h4 k it' hk
theorem mxf_step (h : MXf W v l) (hd : Rd W d.Ap d.np (Gr.U8 d.px)) (hf : Far v d.Ap d.np) : MXf W v (l ++ [d]) := fun e he => by
  rcases List.mem_append.1 he with h1 | h1
  · exact h e h1
  · obtain rfl : e = d := by simpa using h1
    exact ⟨hd, hf⟩
/-- the same behind an append. -/
theorem MTf.app (h : MTf W v l mk mu) (hg : W.grownBy W' v.ownBlock) : MT W' l mk mu := by
  rcases h with ⟨h1, rfl, rfl⟩ | ⟨kb, ub, nk, fk, base, rfl, rfl, h3, h4⟩
  · unfold MT
    rw [h1]
    exact ⟨0, fun _ => none, tree_new W'⟩
  · exact ⟨nk, fk, (h3.row hg h4).tree⟩
theorem scene_lt {bs : Bxs} {ls : List DW} (h : SceneIs W bs RW RH ls) {i : Int} {b : BX} (hb : bs i = some b) : 0 < b.n → ∀ a, b.A = some a → a.block < W.heap.size := by
  rcases h.only i b hb with rfl | ⟨j, hj, rfl⟩
  · rw [h.root] at hb
    cases hb
    exact fun h0 => absurd h0 (by simp [rootBX])
  · obtain ⟨b', h1, _, out, ⟨A, c, e, h2, _⟩, _⟩ := h.each j _ (List.getElem?_eq_getElem hj)
    rw [h1] at hb
    cases hb
    simp only [Value.agg.injEq, Array.mk.injEq, List.cons.injEq, Value.slice.injEq, and_true] at e
    obtain ⟨rfl, e2, _⟩ := e
    rw [e2]
    exact h2.lt_
theorem scene_app {bs : Bxs} {ls : List DW} (h : SceneIs W bs RW RH ls) (hg : W.grownBy W' v.ownBlock) (hf : ∀ i b, bs i = some b → Far v b.A b.n) : SceneIs W' bs RW RH ls :=
  ⟨h.root, fun i d hd => by
    obtain ⟨b, h1, h2, out, ⟨A, c, e, h3, h4⟩, h5⟩ := h.each i d hd
    have h6 := hf _ b h1
    have e' := e
    simp only [Value.agg.injEq, Array.mk.injEq, List.cons.injEq, Value.slice.injEq, and_true] at e'
    obtain ⟨e1, e2, _⟩ := e'
    rw [e1, e2] at h6
    exact ⟨b, h1, h2, out, ⟨A, c, e, h3.app hg h6, h4⟩, h5⟩, h.only⟩
theorem MPf.app {base e size m : Nat} {xs : List Value} (h : MPf W v l mp RW RH) (ho : W.ownsRow base e size v m xs) (hg : W.grownBy W' v.ownBlock) (hat : v'.ownBlock = v.ownBlock ∨ v'.ownBlock = some W.heap.size) : MPf W' v' l mp RW RH := by
  rcases h with h | ⟨h1, bs, h2, h3, h4⟩
  · exact .inl h
  · exact .inr ⟨h1, bs, h2.row ho hg, scene_app h3 hg h4, fun i b hb => (h4 i b hb).app hat (scene_lt h3 hb)⟩
theorem MCf.app {base e size m : Nat} {xs : List Value} (h : MCf W v l mc) (ho : W.ownsRow base e size v m xs) (hg : W.grownBy W' v.ownBlock) (hat : v'.ownBlock = v.ownBlock ∨ v'.ownBlock = some W.heap.size) : MCf W' v' l mc := by
  obtain ⟨cs, ⟨mb, e1, h1, hk⟩, h2, h3, h4⟩ := h
  refine ⟨cs, ⟨mb, e1, ?_, fun i it hi => ?_⟩, h2, h3, fun k it hk' => (h4 k it hk').app hat (hk k it hk').rd.lt_⟩
  · rcases h1 with h5 | ⟨b, rfl, h5⟩
    · exact .inl h5
    · exact .inr ⟨b, rfl, h5.kept hg (fun e => h5.not_row ho e.symm)⟩
  · have h5 := hk i it hi
    exact ⟨h5.rd.app hg (h4 i it hi), h5.area, h5.wide, h5.high, h5.cap, h5.pix⟩
theorem MXf.app (h : MXf W v l) (hg : W.grownBy W' v.ownBlock) (hat : v'.ownBlock = v.ownBlock ∨ v'.ownBlock = some W.heap.size) : MXf W' v' l := fun d hd => ⟨(h d hd).1.app hg (h d hd).2, (h d hd).2.app hat (h d hd).1.lt_⟩
end
/-- what is at hand in a round of Make, but the tree, the place and the canvas. -/
structure Rest34 (w V : World) (g9 g10 : Nat) (c9 c10 : Array Value) (l : List R34) (n : Nat) (px : List Int) (Ap Ag AL : Option Addr) (k cL : Nat) : Prop where
  k2 : Blk V w.heap.size 70 #[.map none, .map none, .map none, .map none, .slice none 0 0]
  k9 : Blk V g9 88 c9
  k10 : Blk V g10 75 c10
  mx : MXf V (.slice AL k cL) l
  own : V.ownsRow (w.heap.size + 1 + 1) 88 9 (.slice AL k cL) k (l.flatMap R34.cells)
  rp : Rd V Ap n (Gr.U8 px)
  rg : Rd V Ag n (Gr.U8 px)
  fp : Far (.slice AL k cL) Ap n
  fg : Far (.slice AL k cL) Ag n
  bel : Below w.heap.size w V
/-- with the tree, the place and the canvas. -/
structure St34 (w V : World) (g9 g10 : Nat) (c9 c10 : Array Value) (l : List R34) (n : Nat) (px : List Int) (Ap Ag AL : Option Addr) (k cL : Nat) (RW RH : Int) (lt lp lc : List R34) (mk mu mp mc : Option Nat) : Prop where
  r : Rest34 w V g9 g10 c9 c10 l n px Ap Ag AL k cL
  t : MTf V (.slice AL k cL) lt mk mu
  p : MPf V (.slice AL k cL) lp mp RW RH
  c : MCf V (.slice AL k cL) lc mc
section
variable {w V V' : World} {g9 g10 : Nat} {c9 c10 : Array Value} {l : List R34} {n : Nat} {px : List Int} {Ap Ag AL : Option Addr} {k cL : Nat} {RW RH : Int} {lt lp lc : List R34} {mk mu mp mc : Option Nat}
theorem Rest34.below (h : Rest34 w V g9 g10 c9 c10 l n px Ap Ag AL k cL) (hb : Below V.heap.size V V') : Rest34 w V' g9 g10 c9 c10 l n px Ap Ag AL k cL :=
  ⟨h.k2.belowS hb, h.k9.belowS hb, h.k10.belowS hb, h.mx.below hb, ownsRow_below h.own hb, h.rp.below hb, h.rg.below hb, h.fp, h.fg, bstep h.bel hb⟩
theorem St34.below (h : St34 w V g9 g10 c9 c10 l n px Ap Ag AL k cL RW RH lt lp lc mk mu mp mc) (hb : Below V.heap.size V V') : St34 w V' g9 g10 c9 c10 l n px Ap Ag AL k cL RW RH lt lp lc mk mu mp mc :=
  ⟨h.r.below hb, h.t.below hb, h.p.below hb, h.c.below hb⟩
theorem Rest34.set (h : Rest34 w V g9 g10 c9 c10 l n px Ap Ag AL k cL) (h9 : w.heap.size + 1 < g9) (h10 : w.heap.size + 1 < g10) {cs : Array Value} (hB : Blk V (w.heap.size + 1) 70 cs) (hn : NoI cs) (i : Nat) (u : Value) : Rest34 w (V.setCell ⟨w.heap.size + 1, i, none⟩ u) g9 g10 c9 c10 l n px Ap Ag AL k cL :=
  ⟨h.k2.far (p := ⟨w.heap.size + 1, i, none⟩) (by show _ ≠ _; simp) u, h.k9.far (p := ⟨w.heap.size + 1, i, none⟩) (by show _ ≠ _; simp only; omega) u, h.k10.far (p := ⟨w.heap.size + 1, i, none⟩) (by show _ ≠ _; simp only; omega) u, h.mx.set hB hn i u, h.own.kept (grown_setCell V ⟨w.heap.size + 1, i, none⟩ u) (.inr (own_other h.own hB (by decide))), rd_noint h.rp hB hn i u, rd_noint h.rg hB hn i u, h.fp, h.fg, bset (p := ⟨w.heap.size + 1, i, none⟩) h.bel (by show w.heap.size ≤ w.heap.size + 1; omega) u⟩
theorem St34.set (h : St34 w V g9 g10 c9 c10 l n px Ap Ag AL k cL RW RH lt lp lc mk mu mp mc) (h9 : w.heap.size + 1 < g9) (h10 : w.heap.size + 1 < g10) {cs : Array Value} (hB : Blk V (w.heap.size + 1) 70 cs) (hn : NoI cs) (i : Nat) (u : Value) : St34 w (V.setCell ⟨w.heap.size + 1, i, none⟩ u) g9 g10 c9 c10 l n px Ap Ag AL k cL RW RH lt lp lc mk mu mp mc :=
  ⟨h.r.set h9 h10 hB hn i u, h.t.set hB hn i u, h.p.set hB hn i u, h.c.set hB hn i u⟩
/-- a store into the block of what is made. -/
theorem St34.put (h : St34 w V g9 g10 c9 c10 l n px Ap Ag AL k cL RW RH lt lp lc mk mu mp mc) (h9 : w.heap.size + 1 < g9) (h10 : w.heap.size + 1 < g10) {cs : List Value} (hB : Blk V (w.heap.size + 1) 70 cs.toArray) (hn : NoI cs.toArray) (vs : List Value) (o : Nat) (hv : ∀ v ∈ vs, ∀ k x, v ≠ .int k x) (hl : o + vs.length ≤ cs.length) :
    St34 w (V.setCells (w.heap.size + 1) o vs) g9 g10 c9 c10 l n px Ap Ag AL k cL RW RH lt lp lc mk mu mp mc ∧ Blk (V.setCells (w.heap.size + 1) o vs) (w.heap.size + 1) 70 (cs.take o ++ vs ++ cs.drop (o + vs.length)).toArray :=
  ⟨sets_ind (P := fun V => St34 w V g9 g10 c9 c10 l n px Ap Ag AL k cL RW RH lt lp lc mk mu mp mc) (fun _ _ i u hB hn h => h.set h9 h10 hB hn i u) vs o V cs hB hn hv h, blk_all vs o V cs hB hl⟩
theorem two_noint {x y : Option Nat} : ∀ v ∈ [Value.map x, Value.map y], ∀ k z, v ≠ .int k z := fun v hv k z => by
  rcases List.mem_cons.1 hv with rfl | hv
  · simp
  · rw [List.mem_singleton] at hv
    subst hv
    simp
theorem one_noint {x : Option Nat} : ∀ v ∈ [Value.map x], ∀ k y, v ≠ .int k y := fun v hv k y => by
  rw [List.mem_singleton] at hv
  subst hv
  simp
theorem St34.putT (h : St34 w V g9 g10 c9 c10 l n px Ap Ag AL k cL RW RH lt lp lc mk mu mp mc) (h9 : w.heap.size + 1 < g9) (h10 : w.heap.size + 1 < g10) {a b c d : Option Nat} {A : Option Addr} {m q : Nat} (hB : Blk V (w.heap.size + 1) 70 #[.map a, .map b, .map c, .map d, .slice A m q]) (x y : Option Nat) :
    St34 w (V.setCells (w.heap.size + 1) 0 (#[.map x, .map y] : Array Value).toList) g9 g10 c9 c10 l n px Ap Ag AL k cL RW RH lt lp lc mk mu mp mc ∧ Blk (V.setCells (w.heap.size + 1) 0 (#[.map x, .map y] : Array Value).toList) (w.heap.size + 1) 70 #[.map x, .map y, .map c, .map d, .slice A m q] :=
  h.put h9 h10 (cs := [.map a, .map b, .map c, .map d, .slice A m q]) hB (noI5 _ _ _ _ _ _ _) [.map x, .map y] 0 two_noint (by simp)
theorem St34.putP (h : St34 w V g9 g10 c9 c10 l n px Ap Ag AL k cL RW RH lt lp lc mk mu mp mc) (h9 : w.heap.size + 1 < g9) (h10 : w.heap.size + 1 < g10) {a b c d : Option Nat} {A : Option Addr} {m q : Nat} (hB : Blk V (w.heap.size + 1) 70 #[.map a, .map b, .map c, .map d, .slice A m q]) (x : Option Nat) :
    St34 w (V.setCells (w.heap.size + 1) 2 (#[.map x] : Array Value).toList) g9 g10 c9 c10 l n px Ap Ag AL k cL RW RH lt lp lc mk mu mp mc ∧ Blk (V.setCells (w.heap.size + 1) 2 (#[.map x] : Array Value).toList) (w.heap.size + 1) 70 #[.map a, .map b, .map x, .map d, .slice A m q] :=
  h.put h9 h10 (cs := [.map a, .map b, .map c, .map d, .slice A m q]) hB (noI5 _ _ _ _ _ _ _) [.map x] 2 one_noint (by simp)
theorem St34.putC (h : St34 w V g9 g10 c9 c10 l n px Ap Ag AL k cL RW RH lt lp lc mk mu mp mc) (h9 : w.heap.size + 1 < g9) (h10 : w.heap.size + 1 < g10) {a b c d : Option Nat} {A : Option Addr} {m q : Nat} (hB : Blk V (w.heap.size + 1) 70 #[.map a, .map b, .map c, .map d, .slice A m q]) (x : Option Nat) :
    St34 w (V.setCells (w.heap.size + 1) 3 (#[.map x] : Array Value).toList) g9 g10 c9 c10 l n px Ap Ag AL k cL RW RH lt lp lc mk mu mp mc ∧ Blk (V.setCells (w.heap.size + 1) 3 (#[.map x] : Array Value).toList) (w.heap.size + 1) 70 #[.map a, .map b, .map c, .map x, .slice A m q] :=
  h.put h9 h10 (cs := [.map a, .map b, .map c, .map d, .slice A m q]) hB (noI5 _ _ _ _ _ _ _) [.map x] 3 one_noint (by simp)
theorem St34.mono (h : St34 w V g9 g10 c9 c10 l n px Ap Ag AL k cL RW RH lt lp lc mk mu mp mc) {lc' : List R34} {mc' : Option Nat} (hc : MCf V (.slice AL k cL) lc' mc') : St34 w V g9 g10 c9 c10 l n px Ap Ag AL k cL RW RH lt lp lc' mk mu mp mc' := ⟨h.r, h.t, h.p, hc⟩
/-- behind the append of a window. -/
theorem St34.app (h : St34 w V g9 g10 c9 c10 l n px Ap Ag AL k cL RW RH lt lp lc mk mu mp mc) {d : R34} (hd : d.Ap = Ap ∧ d.np = n ∧ d.px = px) {v' : Value} (hg : V.grownBy V' (Value.slice AL k cL).ownBlock) (hat : v'.ownBlock = (Value.slice AL k cL).ownBlock ∨ v'.ownBlock = some V.heap.size) :
    (MT V' lt mk mu ∧ MPf V' v' lp mp RW RH ∧ MCf V' v' lc mc ∧ MXf V' v' (l ++ [d])) ∧ Blk V' w.heap.size 70 #[.map none, .map none, .map none, .map none, .slice none 0 0] ∧ Below w.heap.size w V' := by
  obtain ⟨rfl, rfl, rfl⟩ := hd
  refine ⟨⟨h.t.app hg, h.p.app h.r.own hg hat, h.c.app h.r.own hg hat, (mxf_step h.r.mx h.r.rp h.r.fp).app hg hat⟩, h.r.k2.grown hg (fun e => own_other h.r.own h.r.k2 (by decide) e.symm), h.r.bel.grown hg h.r.bel.size (fun q e => ?_)⟩
  have := own_ge h.r.own q e
  omega
end
theorem nodes_snoc34 {l : List R34} (hk : 1 ≤ l.length) (d : R34) : nodesW (dws l) ++ [(idW ((l.length : Int) - 1), idW (d.U - 1))] = nodesW (dws (l ++ [d])) := by
  rw [dws_snoc hk, nodesW_snoc, dws_lenI hk]
  rfl
theorem add_pre34 {l : List R34} {d : R34} (hu : UpR l) (hk : 1 ≤ l.length) (h7 : l.length ≤ 7) (hd : 0 ≤ d.U ∧ d.U < (l.length : Int)) : idC (idW ((l.length : Int) - 1)) = 0 ∧ hasN (nodesW (dws l)) (idW ((l.length : Int) - 1)) = false ∧ hasN (nodesW (dws l)) (idW (d.U - 1)) = true ∧ decide ((64 : Int) ≤ ((nodesW (dws l)).length : Int) + 1) = false := by
  have hs := (hu.snoc hd).upOk
  rw [dws_snoc hk] at hs
  have := add_pre (k := (dws l).length) (d := d.dw) hs (by simp) (by rw [dws_len]; omega)
  rw [List.take_left, dws_lenI hk] at this
  exact this
set_option maxRecDepth 100000 in
theorem Tryz.sizeCv : (Tryz.prog.info? 67).map (·.size) = some 1 := by kernel_rfl
set_option maxRecDepth 100000 in
theorem Tryz.infoR34 : (Tryz.prog.info? 88).map (fun i => (i.zero, i.size, i.bytes)) = some (some (.agg #[.int .i64 0, .int .i64 0, .int .i64 0, .int .i64 0, .int .i64 0, .bool false, .bool false, .slice none 0 0, .slice none 0 0]), 9, 96) := by kernel_rfl
end Go.Proofs.YtdaedkolpfkdjaaGreat
end
