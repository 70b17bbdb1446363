/-
  The walk of glazierlaw31.built: windows' tree and places.
  The document's answers of a scene, plainly: the window at a place, where one begins, which are viewable, and their order.
  A view of the document's windows, as its laws use it.
  A view of any tree whose windows' boxes are the document's, as the laws use it.
  What glazierlaw34.Make makes: the document's windows, and what the tree, the place and the canvas have of them.
  Windows that came in, opened: numbers, and a slice of rectangles.
  The walks of slices.Clone at rectangles and of a region's Rects.
  Plain facts: pixels that are laid at some places of a grid.
-/
import Derived.Test.YtdaedkolpfkdjaaGreatZT24
import Derived.Test.YtdaedkolpfkdjaaGreatZT25
import Derived.Sort.CutIn
import Derived.Test.YtdaedkolpfkdjaaGreatZT22
import Derived.Deep.Slices
import Derived.Test.YtdaedkolpfkdjaaGreatZT00
import Derived.Test.YtdaedkolpfkdjaaGreatZT15
import Derived.Test.YtdaedkolpfkdjaaGreatZT01
import Derived.Test.YtdaedkolpfkdjaaGreatZT09
section
namespace Go.Proofs.YtdaedkolpfkdjaaGreat
open Go.RowKit Go.Maps Go.Shelf

section
variable {W W' : World} {g : Nat} {bs : Bxs} {RW RH : Int} {l : List DW}
theorem SceneIs.keepG (h : SceneIs W bs RW RH l) (hg : W.grownBy W' (some g)) (hno : NoInt W g) : SceneIs W' bs RW RH l :=
  ⟨h.root, fun i d hd => by
    obtain ⟨b, h1, h2, out, h3, h4⟩ := h.each i d hd
    exact ⟨b, h1, h2, out, h3.keepG hg hno, h4⟩, h.only⟩
end
/-- tree and places of windows. -/
structure MadeAt (w : World) (mk mu mp : Option Nat) (nk : Nat) (fk : Int → Option Value) (bs : Bxs) (RW RH : Int) (l : List DW) : Prop where
  tree : TreeIs w (.agg #[.map mk, .map mu]) (nodesW l) mk mu nk fk
  place : PlaceIs w (.agg #[.map mp]) (l.length + 1) bs
  scene : SceneIs w bs RW RH l
section
variable {w w' : World} {mk mu mp : Option Nat} {nk : Nat} {fk : Int → Option Value} {bs : Bxs} {RW RH : Int} {l : List DW}
theorem BoxOf.keepG {W W' : World} {d : DW} {b : BX} {g : Nat} (h : BoxOf W d b) (hg : W.grownBy W' (some g)) (hno : NoInt W g) : BoxOf W' d b := by
  obtain ⟨h1, out, h2, h3⟩ := h
  exact ⟨h1, out, h2.keepG hg hno, h3⟩
theorem MadeAt.below (h : MadeAt w mk mu mp nk fk bs RW RH l) (hb : Below w.heap.size w w') : MadeAt w' mk mu mp nk fk bs RW RH l := ⟨h.tree.below hb, h.place.below hb, h.scene.below hb⟩
end
theorem idC_W {n : Int} (h : 0 ≤ n ∧ n ≤ 1000) : idC (idW n) = 0 := by
  have e : idW n = 1048577 + n := by unfold idW; rw [if_neg (by omega)]
  unfold idC clientB
  rw [e, if_neg (by omega)]
  have h1 : ¬ ((1048577 + n) % 1048576 = 0) := by omega
  have h2 : ¬ ((1048577 + n) / 1048576 < 1) := by omega
  have h3 : ¬ (8 < (1048577 + n) / 1048576) := by omega
  simp [h1, h2, h3]
theorem UpOk.take {l : List DW} (h : UpOk l) (k : Nat) : UpOk (l.take k) := fun i d hd => by
  rw [List.getElem?_take] at hd
  split at hd
  · exact h i d hd
  · cases hd
theorem setC_W {bs : Bxs} {W : World} {RW RH : Int} {l : List DW} {d : DW} {b : BX} (h : SceneIs W bs RW RH l) (hl : l.length ≤ 60) (hD : DWok d) (hB : BoxOf W d b) (hG : b.G = 0 ∧ b.B = 0) (hn : b.S = false → b.n = 0) : setC bs (l.length + 1) (idW l.length) b = 0 := by
  obtain ⟨⟨e1, e2, e3, e4, e5, e6⟩, _⟩ := hB
  have hx := hD.x
  have hy := hD.y
  have hw := hD.w
  have hh := hD.h
  have hid : idW (l.length : Int) ≠ 1 := by rw [idW_nat]; omega
  have hno : bs (idW l.length) = none := by
    cases hb : bs (idW l.length) with
    | none => rfl
    | some b' =>
      rcases h.only _ _ hb with e | ⟨i, hi, e⟩
      · exact absurd e hid
      · have := idW_inj (by omega) (by omega) e
        omega
  unfold setC
  rw [if_neg hid, idC_W (by omega), if_neg (by simp), e1, e2, e3, e4, hG.1, hG.2, hno]
  have c1 : coordB d.X = true := by unfold coordB; rw [Bool.and_eq_true, decide_eq_true_eq, decide_eq_true_eq]; omega
  have c2 : coordB d.Y = true := by unfold coordB; rw [Bool.and_eq_true, decide_eq_true_eq, decide_eq_true_eq]; omega
  have c3 : sideB d.W = true := by unfold sideB; rw [Bool.and_eq_true, decide_eq_true_eq, decide_eq_true_eq]; omega
  have c4 : sideB d.H = true := by unfold sideB; rw [Bool.and_eq_true, decide_eq_true_eq, decide_eq_true_eq]; omega
  have c5 : gravC 0 = 0 := rfl
  have c6 : ¬ (b.S = false ∧ b.n ≠ 0) := fun hq => hq.2 (hn hq.1)
  rw [c1, c2, c3, c4, c5, if_neg (by decide), if_neg (by decide), if_neg (by decide), if_neg c6, if_neg (by simp; omega), if_neg (by omega)]

theorem SceneIs.fresh {bs : Bxs} {W : World} {RW RH : Int} {l : List DW} (h : SceneIs W bs RW RH l) : bs (idW l.length) = none := by
  cases hb : bs (idW l.length) with
  | none => rfl
  | some b' =>
    rcases h.only _ _ hb with e | ⟨i, hi, e⟩
    · rw [idW_nat] at e; omega
    · have := idW_inj (by omega) (by omega) e
      omega
theorem no_places {out : List RC} (hc : Canon out) (h : ∀ x y, ¬ InR out x y) : out = [] :=
  canon_uniq hc canon_nilV (fun x y => ⟨fun h1 => absurd h1 (h x y), fun ⟨r, hr, _⟩ => by cases hr⟩)
end Go.Proofs.YtdaedkolpfkdjaaGreat
end

section
namespace Go.Proofs.YtdaedkolpfkdjaaGreat

section
variable {l : List DW} {RW RH : Int}
theorem lastHit_is {hit : DW × Nat → Bool} : ¬ (lastHit hit l.zipIdx < 0) → ∃ (i : Nat) (d : DW), lastHit hit l.zipIdx = (i : Int) ∧ l[i]? = some d ∧ hit (d, i) = true := by
  unfold lastHit
  cases hf : l.zipIdx.reverse.find? hit with
  | none => intro h; exact absurd (show (-1 : Int) < 0 by omega) h
  | some q =>
    intro _
    exact ⟨q.2, q.1, rfl, List.mem_zipIdx_iff_getElem?.1 (List.mem_reverse.1 (List.mem_of_find?_eq_some hf)), List.find?_some hf⟩
/-- the window at a place of a window. -/
def atD (l : List DW) : Nat → Int → Int → Int → Int
  | 0, p, _, _ => p
  | f + 1, p, x, y => if lastHit (hitW p x y) l.zipIdx < 0 then p else
      atD l f (lastHit (hitW p x y) l.zipIdx) (x - ((l[(lastHit (hitW p x y) l.zipIdx).toNat]?).map DW.X).getD 0) (y - ((l[(lastHit (hitW p x y) l.zipIdx).toNat]?).map DW.Y).getD 0)
theorem hitW_up {p x y : Int} {d : DW} {i : Nat} (h : hitW p x y (d, i) = true) : d.P = p := by
  unfold hitW at h
  rw [Bool.and_eq_true, decide_eq_true_eq] at h
  exact h.1
theorem atD_no {f : Nat} {p x y : Int} (h : lastHit (hitW p x y) l.zipIdx < 0) : atD l (f + 1) p x y = p := by unfold atD; rw [if_pos h]
theorem atD_yes {f : Nat} {p x y : Int} {i : Nat} {d : DW} (h : lastHit (hitW p x y) l.zipIdx = (i : Int)) (hd : l[i]? = some d) : atD l (f + 1) p x y = atD l f i (x - d.X) (y - d.Y) := by
  show (if lastHit (hitW p x y) l.zipIdx < 0 then p else _) = _
  rw [if_neg (by omega), h, show ((i : Int)).toNat = i from by omega, hd]
  rfl
theorem atD_top (hu : UpOk l) : ∀ (f : Nat) (p x y : Int) (o : Int × Int), -1 ≤ p → orgN (nodesW l) (bxW RW RH l) (idW p) = o → idW (atD l f p x y) = topF (nodesW l) (bxW RW RH l) f (idW p) (x + o.1) (y + o.2)
  | 0, _, _, _, _, _, _ => rfl
  | f + 1, p, x, y, o, hp, ho => by
    rw [topW hu hp f x y o ho]
    by_cases hh : lastHit (hitW p x y) l.zipIdx < 0
    · rw [if_pos hh, atD_no hh]
    · rw [if_neg hh]
      obtain ⟨i, d, e, hd, hit⟩ := lastHit_is hh
      have hP := hitW_up hit
      have hou := orgW (RW := RW) (RH := RH) hu hd
      rw [hP, ho] at hou
      rw [atD_yes e hd, e, atD_top hu f i (x - d.X) (y - d.Y) _ (by omega) hou]
      congr 1
      · show x - d.X + (d.X + o.1) = _; omega
      · show y - d.Y + (d.Y + o.2) = _; omega
theorem atD_bd (hu : UpOk l) : ∀ (f : Nat) (p x y : Int), -1 ≤ p → p < (l.length : Int) → -1 ≤ atD l f p x y ∧ atD l f p x y < (l.length : Int)
  | 0, p, _, _, h1, h2 => ⟨h1, h2⟩
  | f + 1, p, x, y, h1, h2 => by
    by_cases hh : lastHit (hitW p x y) l.zipIdx < 0
    · rw [atD_no hh]; exact ⟨h1, h2⟩
    · obtain ⟨i, d, e, hd, _⟩ := lastHit_is hh
      have := (List.getElem?_eq_some_iff.1 hd).1
      rw [atD_yes e hd]
      exact atD_bd hu f i _ _ (by omega) (by omega)
/-- windows that are below one, itself ahead of them, kids from below to the top. -/
def blwD (l : List DW) : Nat → Int → List Int
  | 0, p => [p]
  | f + 1, p => p :: (l.zipIdx.filter (fun q => decide (q.1.P = p) && q.1.M)).flatMap fun q => blwD l f q.2
/-- the document's window at a place of the root is the topmost one. -/
theorem atD_root (hu : UpOk l) (x y : Int) : idW (atD l (belowAt (nodesW l) 1).length (-1) x y) = topN (nodesW l) (bxW RW RH l) x y := by
  rw [atD_top (RW := RW) (RH := RH) hu _ (-1) x y (0, 0) (by omega) (orgN_root (nodesW_ok hu))]
  unfold topN
  rw [idW_root]
  congr 1 <;> simp
end
end Go.Proofs.YtdaedkolpfkdjaaGreat
end

section
namespace Go.Proofs.YtdaedkolpfkdjaaGreat
open Go.RowKit Go.Maps Go.Shelf

abbrev bxS (RW RH : Nat) (l : List DW) : Int → Option VB := bxW (RW : Int) (RH : Int) l
abbrev esS (RW RH : Nat) (l : List DW) : List (Int × Places) := esN (nodesW l) (bxS RW RH l) (rectP RW RH)
abbrev ordS (RW RH : Nat) (l : List DW) : List Int := ordW (nodesW l) (bxS RW RH l) 1
/-- a view of windows. -/
structure SeenAt (w : World) (v : Value) (RW RH : Nat) (l : List DW) (og : Int → Int × Int) : Prop where
  is : ∃ A n c mv nm f, ViewIs w v A n c mv nm f (ordS RW RH l) (esS RW RH l) og RW RH
  org : ∀ i : Int, -1 ≤ i → i < (l.length : Int) → og (idW i) = orgN (nodesW l) (bxS RW RH l) (idW i)
theorem SeenAt.below {w w' : World} {v : Value} {RW RH : Nat} {l : List DW} {og : Int → Int × Int} (h : SeenAt w v RW RH l og) (hb : Below w.heap.size w w') : SeenAt w' v RW RH l og :=
  ⟨by
    obtain ⟨A, n, c, mv, nm, f, h1⟩ := h.is
    exact ⟨A, n, c, mv, nm, f, h1.below hb⟩, h.org⟩
section
variable {w : World} {v : Value} {RW RH : Nat} {l : List DW} {og : Int → Int × Int}
theorem len_area : ∀ {rs : List RC}, (∀ r ∈ rs, 0 < r.W ∧ 0 < r.H) → (rs.length : Int) ≤ areaS rs
  | [], _ => by simp [areaS]
  | r :: rs, h => by
    have h1 := h r (by simp)
    have h2 := len_area (rs := rs) (fun q hq => h q (List.mem_cons_of_mem _ hq))
    have h3 : 1 * 1 ≤ r.W * r.H := Int.mul_le_mul (by omega) (by omega) (by omega) (by omega)
    show ((rs.length + 1 : Nat) : Int) ≤ r.W * r.H + areaS rs
    omega
theorem sum_le {α : Type} (f : α → Nat) (B : Nat) : ∀ (l : List α), (∀ a ∈ l, f a ≤ B) → (l.map f).sum ≤ l.length * B
  | [], _ => by simp
  | a :: l, h => by
    have h1 := h a (by simp)
    have h2 := sum_le f B l (fun b hb => h b (List.mem_cons_of_mem _ hb))
    rw [List.map_cons, List.sum_cons, List.length_cons, Nat.add_mul]
    omega
theorem cntP_le (W H : Nat) (P : Places) : cntP W H P ≤ H * W := by
  unfold cntP
  have h := sum_le (fun (y : Nat) => (List.range W).countP fun (x : Nat) => P x y) W (List.range H) (fun a _ => by
    have := List.countP_le_length (p := fun (x : Nat) => P x a) (l := List.range W)
    simpa using this)
  simpa using h
theorem reg_few {u : Value} {out : List RC} {P : Places} (hR : RW ≤ 128 ∧ RH ≤ 128) (hr : RegAt w u out) (ha : areaL out = cntP RW RH P) : out.length ≤ 100000 := by
  have h1 := len_area hr.pos
  rw [← areaL_S, ha] at h1
  have h2 := cntP_le RW RH P
  have h3 : RH * RW ≤ 128 * 128 := Nat.mul_le_mul hR.2 hR.1
  omega
theorem SeenAt.clip (h : SeenAt w v RW RH l og) (i : Int) (hi : 0 ≤ i ∧ i ≤ 4294967295) :
    Calls Tryz.prog 31 #[v, .int .u32 i] w fun e w' => ∃ u out, e = .returned u ∧ RegAt w' u out ∧ (∀ x y, inB out x y = showB (esS RW RH l) x y i) ∧ areaL out = cntP RW RH (fun x y => showB (esS RW RH l) x y i) ∧ out.length ≤ 100000 ∧ Below w.heap.size w w' := by
  obtain ⟨A, n, c, mv, nm, f, hv⟩ := h.is
  refine (vclip_any i hi hv).mono ?_
  rintro e w' ⟨u, out, rfl, hr, hp, hb⟩
  have ha : areaL out = cntP RW RH (fun x y => showB (esS RW RH l) x y i) := by
    obtain ⟨_, _, _, _, hc, _⟩ := hr
    exact hv.area (a := 0) (b := 0) hc (fun x y => by rw [hp]; congr 1 <;> omega)
  exact ⟨u, out, rfl, hr, hp, ha, reg_few hv.side hr ha, hb⟩
end
end Go.Proofs.YtdaedkolpfkdjaaGreat
end

section
namespace Go.Proofs.YtdaedkolpfkdjaaGreat
open Go.RowKit Go.Maps Go.Shelf

/-- a view of a tree and boxes. -/
structure SeenG (w : World) (v : Value) (RW RH : Nat) (ns : Nodes) (bx : Int → Option VB) (og : Int → Int × Int) : Prop where
  is : ∃ A n c mv nm f, ViewIs w v A n c mv nm f (ordW ns bx 1) (esN ns bx (rectP RW RH)) og RW RH
  org : ∀ k : Int, hasN ns k = true → og k = orgN ns bx k
theorem SeenG.below {w w' : World} {v : Value} {RW RH : Nat} {ns : Nodes} {bx : Int → Option VB} {og : Int → Int × Int} (h : SeenG w v RW RH ns bx og) (hb : Below w.heap.size w w') : SeenG w' v RW RH ns bx og :=
  ⟨by
    obtain ⟨A, n, c, mv, nm, f, h1⟩ := h.is
    exact ⟨A, n, c, mv, nm, f, h1.below hb⟩, h.org⟩
section
variable {W : World} {bs : Bxs} {RW RH : Int} {l : List DW} {ns : Nodes}
def nearS (bs : Bxs) : Prop := ∀ i b, bs i = some b → (-200 ≤ b.X ∧ b.X ≤ 200) ∧ (-200 ≤ b.Y ∧ b.Y ≤ 200)
theorem nearS_sum {bs : Bxs} (h : nearS bs) (l : List Int) : (-200 * (l.length : Int) ≤ sumX bs l ∧ sumX bs l ≤ 200 * (l.length : Int)) ∧ (-200 * (l.length : Int) ≤ sumY bs l ∧ sumY bs l ≤ 200 * (l.length : Int)) := by
  induction l with
  | nil => simp [sumX, sumY]
  | cons w l ih =>
    have hb : (-200 ≤ ((bs w).getD zBX).X ∧ ((bs w).getD zBX).X ≤ 200) ∧ (-200 ≤ ((bs w).getD zBX).Y ∧ ((bs w).getD zBX).Y ≤ 200) := by
      cases hb : bs w with
      | none => simp [zBX]
      | some b => exact h w b hb
    have e1 : sumX bs (w :: l) = (if w = 1 then 0 else ((bs w).getD zBX).X) + sumX bs l := by simp [sumX]
    have e2 : sumY bs (w :: l) = (if w = 1 then 0 else ((bs w).getD zBX).Y) + sumY bs l := by simp [sumY]
    rw [e1, e2]
    simp only [List.length_cons]
    split <;> omega
theorem nearS_of (hn : nearS bs) (hok : TreeOk ns) (hl : ns.length ≤ 1000) (k : Int) : (-900000 ≤ orgX ns bs k ∧ orgX ns bs k ≤ 900000) ∧ -900000 ≤ orgY ns bs k ∧ orgY ns bs k ≤ 900000 := by
  unfold orgX orgY
  cases Go.Proofs.YtdaedkolpfkdjaaGreat.orgOk ns bs k with
  | false => simp
  | true =>
    have h1 := nearS_sum hn (pathN ns k)
    have h2 := path_len hok k
    simp only [if_true]
    omega
theorem SceneIs.nearS (h : SceneIs W bs RW RH l) (hok : ∀ d ∈ l, DWok d) : nearS bs := fun k b hk => by
  rcases h.box hk with ⟨_, rfl⟩ | ⟨i, d, hd, _, ⟨e1, e2, _⟩, _⟩
  · simp [rootBX]
  · have hD := hok d (List.mem_of_getElem? hd)
    have h1 := hD.x
    have h2 := hD.y
    rw [e1, e2]
    omega
theorem SceneIs.some (h : SceneIs W bs RW RH l) {k : Int} (hk : hasN (nodesW l) k = true) : (bs k).isSome = true := by
  obtain ⟨n, h1, h2, rfl⟩ := hasW_inv hk
  by_cases hn : n < 0
  · obtain rfl : n = -1 := by omega
    rw [idW_root, h.root]
    rfl
  · obtain ⟨i, rfl⟩ : ∃ i : Nat, n = (i : Int) := ⟨n.toNat, by omega⟩
    obtain ⟨b, e, _⟩ := h.each i _ (List.getElem?_eq_getElem (by omega))
    rw [e]
    rfl
theorem orgOk_of (hok : TreeOk ns) (hs : ∀ k, hasN ns k = true → (bs k).isSome = true) {k : Int} (hk : hasN ns k = true) : orgOk ns bs k = true := by
  unfold orgOk
  rw [hk, Bool.true_and]
  unfold allB
  rw [List.all_eq_true]
  exact fun x hx => hs x (path_has hok hx)
end
theorem seenG_of {mk mu mp : Option Nat} {nk n : Nat} {fk : Int → Option Value} {bs : Bxs} {RW RH : Nat} {l : List DW} {ns : Nodes} (w : World) (hT : TreeIs w (.agg #[.map mk, .map mu]) ns mk mu nk fk) (hP : PlaceIs w (.agg #[.map mp]) n bs) (hS : SceneIs w bs RW RH l) (tok : TreeOk ns)
    (hsub : ∀ k, hasN ns k = true → hasN (nodesW l) k = true) (hok : ∀ d ∈ l, DWok d) (hl : ns.length ≤ 1000) (hR : (1 ≤ RW ∧ RW ≤ 128) ∧ 1 ≤ RH ∧ RH ≤ 128) :
    Calls Tryz.prog 25 #[.agg #[.map mk, .map mu], .agg #[.map mp]] w fun e w' => ∃ v og, e = .returned v ∧ SeenG w' v RW RH ns (bxS RW RH l) og ∧ Below w.heap.size w w' := by
  have hRI : (1 ≤ (RW : Int) ∧ (RW : Int) ≤ 128) ∧ 1 ≤ (RH : Int) ∧ (RH : Int) ≤ 128 := by omega
  have hrel := hS.rel hok hRI
  refine (viewOf_any mp mk mu n nk fk ns bs (bxS RW RH l) RW RH w hT hP tok hrel (hS.sides hok hRI) (hS.nearb hok) (nearS_of (hS.nearS hok) tok hl) hR hS.root).mono ?_
  rintro e w' ⟨v, A, n, c, mv, nm, f, rfl, hv, hb⟩
  exact ⟨v, _, rfl, ⟨⟨A, n, c, mv, nm, f, hv⟩, fun k hk => (orgN_eq hrel (orgOk_of tok (fun j hj => hS.some (hsub j hj)) hk)).symm⟩, hb⟩
section
variable {w : World} {v : Value} {RW RH : Nat} {ns : Nodes} {bx : Int → Option VB} {og : Int → Int × Int}
theorem SeenG.form (h : SeenG w v RW RH ns bx og) : ∃ A n c mv, v = .agg #[.slice A n c, .map mv] := by
  obtain ⟨A, n, c, mv, nm, f, hv⟩ := h.is
  exact ⟨A, n, c, mv, hv.shape⟩
/-- where a window begins, as a view of it tells. -/
def ogG (ns : Nodes) (bx : Int → Option VB) (i : Int) : Int × Int := if hasN ns i && vw ns bx i then orgN ns bx i else (0, 0)
theorem SeenG.og_eq (h : SeenG w v RW RH ns bx og) (hn : TreeOk ns) (i : Int) : ogV (esN ns bx (rectP RW RH)) og i = ogG ns bx i := by
  unfold ogV ogG
  rw [look_some hn]
  cases hh : hasN ns i with
  | false => rfl
  | true =>
    rw [h.org i hh]
/-- what a window shows, place by place of the root. -/
def shG (RW RH : Nat) (ns : Nodes) (bx : Int → Option VB) (x y i : Int) : Bool := rectP RW RH x y && decide (i = topN ns bx x y)
theorem SeenG.clip (h : SeenG w v RW RH ns bx og) (hn : TreeOk ns) (i : Int) (hi : 0 ≤ i ∧ i ≤ 4294967295) :
    Calls Tryz.prog 31 #[v, .int .u32 i] w fun e w' => ∃ u out, e = .returned u ∧ RegAt w' u out ∧ (∀ x y, inB out x y = shG RW RH ns bx x y i) ∧ areaL out = cntP RW RH (fun x y => shG RW RH ns bx x y i) ∧ out.length ≤ 100000 ∧ Below w.heap.size w w' := by
  obtain ⟨A, n, c, mv, nm, f, hv⟩ := h.is
  refine (vclip_any i hi hv).mono ?_
  rintro e w' ⟨u, out, rfl, hr, hp, hb⟩
  have hp2 : ∀ x y, inB out x y = shG RW RH ns bx x y i := fun x y => by rw [hp, show_at hn]; rfl
  have ha : areaL out = cntP RW RH (fun x y => showB (esN ns bx (rectP RW RH)) x y i) := by
    obtain ⟨_, _, _, _, hc, _⟩ := hr
    exact hv.area (a := 0) (b := 0) hc (fun x y => by rw [hp]; congr 1 <;> omega)
  refine ⟨u, out, rfl, hr, hp2, ?_, reg_few hv.side hr ha, hb⟩
  rw [ha]
  exact congrArg (fun P : Places => ((cntP RW RH P : Nat) : Int)) (funext fun x => funext fun y => show_at (bx := bx) hn (rectP RW RH) x y i)
end
end Go.Proofs.YtdaedkolpfkdjaaGreat
end

section
namespace Go.Proofs.YtdaedkolpfkdjaaGreat
open Go.RowKit Go.Maps Go.Shelf

/-- a window that is made. -/
structure PN34 where
  U : Int
  X : Int
  Y : Int
  W : Int
  H : Int
  M : Bool
  S : Bool
  A : Option Addr
  n : Nat
  c : Nat
  I : Int
  sh : List RC
def PN34.cells (p : PN34) : List Value := [.int .u8 p.U, .int .i8 p.X, .int .i8 p.Y, .int .u8 p.W, .int .u8 p.H, .bool p.M, .bool p.S, .slice p.A p.n p.c, .int .u8 p.I]
theorem PN34.cells_len (p : PN34) : p.cells.length = 9 := rfl
structure PN34.ok (p : PN34) : Prop where
  u : 0 ≤ p.U ∧ p.U ≤ 255
  x : -128 ≤ p.X ∧ p.X ≤ 127
  y : -128 ≤ p.Y ∧ p.Y ≤ 127
  w : 0 ≤ p.W ∧ p.W ≤ 255
  h : 0 ≤ p.H ∧ p.H ≤ 255
  i : 0 ≤ p.I ∧ p.I ≤ 255
  n : p.n ≤ maxLen
/-- the windows that came in. -/
structure RdP34 (w : World) (A : Option Addr) (n : Nat) (ps : List PN34) : Prop where
  recs : RdF PN34.cells 9 w A n ps
  shapes : ∀ p ∈ ps, RdR w p.A p.n p.sh
theorem RdP34.below {w w' : World} {A : Option Addr} {n : Nat} {ps : List PN34} (h : RdP34 w A n ps) (hb : Below w.heap.size w w') : RdP34 w' A n ps := ⟨h.recs.below hb, fun p hp => (h.shapes p hp).below hb⟩
/-- one of the document's windows. -/
structure R34 where
  U : Int
  X : Int
  Y : Int
  W : Nat
  H : Nat
  M : Bool
  S : Bool
  A : Option Addr
  n : Nat
  c : Nat
  Ap : Option Addr
  np : Nat
  cp : Nat
  sh : List RC
  px : List Int
def R34.cells (d : R34) : List Value := [.int .i64 d.U, .int .i64 d.X, .int .i64 d.Y, .int .i64 d.W, .int .i64 d.H, .bool d.M, .bool d.S, .slice d.A d.n d.c, .slice d.Ap d.np d.cp]
theorem R34.cells_len (d : R34) : d.cells.length = 9 := rfl
def R34.dw (d : R34) : DW := ⟨d.U - 1, d.X, d.Y, d.W, d.H, d.M, d.S, d.A, d.n, d.c, d.sh⟩
def dws (l : List R34) : List DW := l.tail.map R34.dw
/-- the document's window of the i-th that is made. -/
structure Like34 (i : Nat) (p : PN34) (d : R34) : Prop where
  U : d.U = if i = 0 then -1 else p.U % (i : Int)
  X : d.X = if i = 0 then 0 else p.X
  Y : d.Y = if i = 0 then 0 else p.Y
  W : (d.W : Int) = p.W % 16 + 1
  H : (d.H : Int) = p.H % 16 + 1
  M : d.M = (decide (i = 0) || p.M)
  S : d.S = (!decide (i = 0) && p.S)
  sh : d.sh = if d.S then p.sh else []
  px : d.px = inkL d.W (d.W * d.H) p.I
  np : d.np = d.W * d.H
  small : p.sh.length ≤ 6 ∧ ∀ r ∈ p.sh, SmallR r
theorem Like34.bounds {i : Nat} {p : PN34} {d : R34} (h : Like34 i p d) : (1 ≤ d.W ∧ d.W ≤ 16) ∧ 1 ≤ d.H ∧ d.H ≤ 16 := by
  have h1 := h.W
  have h2 := h.H
  omega
/-- the tree, the place, the canvas. -/
def MT (W : World) (l : List R34) (mk mu : Option Nat) : Prop := ∃ nk fk, TreeIs W (.agg #[.map mk, .map mu]) (nodesW (dws l)) mk mu nk fk
def MP (W : World) (l : List R34) (mp : Option Nat) (RW RH : Int) : Prop := (l = [] ∧ mp = none) ∨ (l ≠ [] ∧ ∃ bs, PlaceIs W (.agg #[.map mp]) l.length bs ∧ SceneIs W bs RW RH (dws l))
def MC (W : World) (l : List R34) (mc : Option Nat) : Prop := ∃ cs, CanvasIs W (.agg #[.map mc]) l.length cs ∧ (∀ (j : Nat) (d : R34), l[j]? = some d → ∃ it : IT, cs (idW ((j : Int) - 1)) = some it ∧ it.W = d.W ∧ it.H = d.H ∧ it.px = d.px) ∧ ∀ k it, cs k = some it → ∃ j : Nat, j < l.length ∧ k = idW ((j : Int) - 1)
def MX (W : World) (l : List R34) : Prop := ∀ d ∈ l, Rd W d.Ap d.np (Gr.U8 d.px)
section
variable {W W' : World} {l : List R34} {mk mu mp mc : Option Nat} {RW RH : Int}
theorem MT.below (h : MT W l mk mu) (hb : Below W.heap.size W W') : MT W' l mk mu := by
  obtain ⟨nk, fk, h⟩ := h
  exact ⟨nk, fk, h.below hb⟩
theorem MP.below (h : MP W l mp RW RH) (hb : Below W.heap.size W W') : MP W' l mp RW RH := by
  rcases h with h | ⟨h1, bs, h2, h3⟩
  · exact .inl h
  · exact .inr ⟨h1, bs, h2.below hb, h3.below hb⟩
theorem MC.below (h : MC W l mc) (hb : Below W.heap.size W W') : MC W' l mc := by
  obtain ⟨cs, h1, h2, h3⟩ := h
  exact ⟨cs, h1.below hb, h2, h3⟩
theorem MX.below (h : MX W l) (hb : Below W.heap.size W W') : MX W' l := fun d hd => (h d hd).below hb
/-- a block in which there is no number. -/
def NoI (cs : Array Value) : Prop := ∀ (j : Nat) (k : IntKind) (x : Int), cs[j]? ≠ some (.int k x)
theorem noI_blk {g : Nat} {t : TypeId} {cs : Array Value} (h : Blk W g t cs) (hn : NoI cs) : NoInt W g := fun o k i e => by
  rw [h.cell] at e
  exact hn o k i e
theorem MT.set (h : MT W l mk mu) {g : Nat} {t : TypeId} {cs : Array Value} (hB : Blk W g t cs) (hn : NoI cs) (i : Nat) (u : Value) : MT (W.setCell ⟨g, i, none⟩ u) l mk mu := by
  obtain ⟨nk, fk, h⟩ := h
  exact ⟨nk, fk, h.setBlk hB (fun j x => hn j .u32 x) i u⟩
theorem MP.set (h : MP W l mp RW RH) {g : Nat} {t : TypeId} {cs : Array Value} (hB : Blk W g t cs) (hn : NoI cs) (i : Nat) (u : Value) : MP (W.setCell ⟨g, i, none⟩ u) l mp RW RH := by
  rcases h with h | ⟨h1, bs, h2, h3⟩
  · exact .inl h
  · exact .inr ⟨h1, bs, h2.setBlk hB i u, h3.keepG (grown_setCell W ⟨g, i, none⟩ u) (noI_blk hB hn)⟩
theorem MC.set (h : MC W l mc) {g : Nat} {t : TypeId} {cs : Array Value} (hB : Blk W g t cs) (hn : NoI cs) (i : Nat) (u : Value) : MC (W.setCell ⟨g, i, none⟩ u) l mc := by
  obtain ⟨cs, h1, h2, h3⟩ := h
  exact ⟨cs, h1.setX hB hn i u, h2, h3⟩
theorem MX.set (h : MX W l) {g : Nat} {t : TypeId} {cs : Array Value} (hB : Blk W g t cs) (hn : NoI cs) (i : Nat) (u : Value) : MX (W.setCell ⟨g, i, none⟩ u) l := fun d hd => rd_noint (h d hd) hB hn i u
end
/-- what Make gives. -/
structure Made34 (W : World) (v : Value) (ps : List PN34) (l : List R34) (mk mu mp mc : Option Nat) (A : Option Addr) (c : Nat) (RW RH : Nat) : Prop where
  shape : v = .agg #[.map mk, .map mu, .map mp, .map mc, .slice A l.length c]
  tree : MT W l mk mu
  place : MP W l mp RW RH
  canvas : MC W l mc
  recs : RdF R34.cells 9 W A l.length l
  shapes : ∀ d ∈ l, RdR W d.A d.n d.sh
  pix : MX W l
  len : l.length = ps.length
  few : 1 ≤ l.length ∧ l.length ≤ 7
  like : ∀ (j : Nat) (p : PN34) (d : R34), ps[j]? = some p → l[j]? = some d → Like34 j p d
  root : ∃ d, l[0]? = some d ∧ d.W = RW ∧ d.H = RH
theorem Made34.below {W W' : World} {v : Value} {ps : List PN34} {l : List R34} {mk mu mp mc : Option Nat} {A : Option Addr} {c RW RH : Nat} (h : Made34 W v ps l mk mu mp mc A c RW RH) (hb : Below W.heap.size W W') : Made34 W' v ps l mk mu mp mc A c RW RH :=
  ⟨h.shape, h.tree.below hb, h.place.below hb, h.canvas.below hb, h.recs.below hb, fun d hd => (h.shapes d hd).below hb, h.pix.below hb, h.len, h.few, h.like, h.root⟩
end Go.Proofs.YtdaedkolpfkdjaaGreat
end

section
namespace Go.Proofs.YtdaedkolpfkdjaaGreat
open Go.ChangeShapes Go.WideShapes Go.ChangeAt Go.RowKit Go.Joins

section
variable {H : Type} {enc : TypeId × Value → H} {P : Program} {w : World} {base : Nat} {spare : Nat → Bool} {held : Bool} {α : Type}
end

instance : Inhabited RC := ⟨⟨0, 0, 0, 0⟩⟩

instance : Inhabited PN34 := ⟨⟨0, 0, 0, 0, 0, false, false, none, 0, 0, 0, []⟩⟩
section
variable {H : Type} {enc : TypeId × Value → H} {w : World} {base : Nat} {spare : Nat → Bool} {held : Bool}
set_option maxRecDepth 100000 in
theorem and_i {a b : Bool} (h1 : a = true) (h2 : b = true) : (a && b) = true := by rw [h1, h2]; rfl
end
end Go.Proofs.YtdaedkolpfkdjaaGreat
end

section
namespace Go.Proofs.YtdaedkolpfkdjaaGreat.Gr
open Go.RowKit Go.Shelf

theorem rcs_flat {w : World} {b : Nat} (rs : List RC) : ∀ (off : Nat), (∀ i r, rs[i]? = some r → RcAt w b (off + i * 4) r) → ∀ j u, (rcs rs)[j]? = some u → w.cell? ⟨b, off + j, none⟩ = some u := by
  induction rs with
  | nil => intro off _ j u h; simp [rcs] at h
  | cons r rs ih =>
    intro off h j u hj
    obtain ⟨a0, a1, a2, a3⟩ := h 0 r rfl
    simp only [Nat.zero_mul, Nat.add_zero] at a0 a1 a2 a3
    have e : rcs (r :: rs) = .int .i64 r.X :: .int .i64 r.Y :: .int .i64 r.W :: .int .i64 r.H :: rcs rs := by simp [rcs, RC.cells]
    rw [e] at hj
    match j, hj with
    | 0, hj => simp at hj; subst hj; exact a0
    | 1, hj => simp at hj; subst hj; exact a1
    | 2, hj => simp at hj; subst hj; exact a2
    | 3, hj => simp at hj; subst hj; exact a3
    | j + 4, hj =>
      have := ih (off + 4) (fun i r' hi => by
        have := h (i + 1) r' (by simpa using hi)
        rwa [show off + (i + 1) * 4 = off + 4 + i * 4 from by omega] at this) j u (by simpa using hj)
      rwa [show off + (j + 4) = off + 4 + j from by omega]
theorem rcs_one (rs : List RC) : ∀ u ∈ rcs rs, u.oneCell' = true := by
  intro u hu
  obtain ⟨r, _, hr⟩ := List.mem_flatMap.1 hu
  exact cells_one r u hr
theorem Rd_nil {w : World} {A : Option Addr} {n : Nat} {rs : List RC} (h : RdR w A n rs) (hA : A = none) : n = 0 ∧ rs = [] := by
  have h0 : n = 0 := by
    refine Classical.byContradiction fun hn => ?_
    obtain ⟨b, off, e, _⟩ := h.2 (by omega)
    rw [hA] at e
    cases e
  exact ⟨h0, List.eq_nil_of_length_eq_zero (h.1.trans h0)⟩

set_option maxRecDepth 100000 in
set_option maxHeartbeats 1000000 in
theorem clone_any (A : Option Addr) (n c : Nat) (rs : List RC) (w : World) (hn : n ≤ 1000000000000) (hr : RdR w A n rs) :
    Calls Tryz.prog 181 #[.slice A n c] w fun e w' => ∃ A' c', e = .returned (.slice A' n c') ∧ RdR w' A' n rs ∧ Fr w.heap.size A' ∧ Below w.heap.size w w' := by
  obtain ⟨i0, hi0, hz0, hz1, hz2⟩ := info_parts Tryz.infoR
  have qn : ∀ (w : World) (a : Option Addr) (n c n' c' : Nat), (binOp .eql 31 (.slice a n c) (.slice none n' c')).run Tryz.prog w = .ok (.bool a.isNone) w := fun w a n c n' c' => Lib.run_eql_slice_nil w _ _ a n c n' c' Tryz.underlying31
  have HR := Lib.hid hr
  clear hr
  cases A with
  | none =>
    obtain ⟨rfl, rfl⟩ := Rd_nil HR.out rfl
    go_enter Tryz.func181, Tryz.ntmps181
    go_wp2_with fail
    go_ret
    exact ⟨none, 0, rfl, ⟨rfl, fun h => absurd h (by omega)⟩, (fun a e => by cases e), bre _⟩
  | some a =>
    go_enter Tryz.func181, Tryz.ntmps181
    have hown : (w.alloc (.cells #[] 103)).ownsRow w.heap.size 103 4 (.slice (some ⟨w.heap.size, 0, none⟩) 0 0) 0 (rcs []) := rcs_own (cs := []) (Nat.le_refl _) (Nat.le_refl _) (Nat.zero_le _) (Blk.new w _ _) rfl rfl rfl
    have HOWN := Lib.hid hown
    have hnews : ∀ j u, (rcs rs)[j]? = some u → (w.alloc (.cells #[] 103)).cell? (a.add j) = some u := fun j u hj => by
      have hl := (List.getElem?_eq_some_iff.1 hj).1
      rw [rcs_len, HR.out.1] at hl
      obtain ⟨b, off, e, hb, hc⟩ := HR.out.2 (by omega)
      injection e with e
      subst e
      have h1 := rcs_flat rs off hc j u hj
      have h2 := (World.cell?_alloc_lt w (.cells #[] 103) ⟨b, off + j, none⟩ hb).trans h1
      unfold Addr.add
      split
      · rename_i e0; subst e0; exact h2
      · exact h2
    have HNEW := Lib.hid hnews
    have hrl : (rcs rs).length = n * 4 := by rw [rcs_len, HR.out.1]
    have HRL := Lib.hid hrl
    clear hown hnews hrl
    go_wp2_with (at_builtin; refine wpList_append_own _ rfl _ _ 31 rfl w.heap.size 103 i0 _ 4 32 Tryz.underlying31 hi0 hz0 hz1 hz2 rfl (by decide) _ _ _ rfl HOWN.out a n c (rcs rs) rfl HRL.out HNEW.out (rcs_one rs) (by simp only [maxLen]; omega) (by omega) (by simp) ?_; intro v' w4 hown' hgrow _; have HO' := Lib.hid hown'; have HG := Lib.hid hgrow; clear hown' hgrow)
    have ho : w4.ownsRow w.heap.size 103 4 v' n (rcs rs) := by
      have := HO'.out
      rwa [Nat.zero_add, show rcs [] = [] from rfl, List.nil_append] at this
    have hB : Below w.heap.size w w4 := (bal (bre w) _).grown HG.out (by simp) (fun g e => by cases e; exact Nat.le_refl _)
    obtain ⟨A', c', rfl, _⟩ := own_form ho
    go_ret
    exact ⟨A', c', rfl, RdR.of_own ho HR.out.1, Fr.own ho, hB⟩

set_option maxRecDepth 100000 in
set_option maxHeartbeats 1000000 in
theorem rects_any (A : Option Addr) (n c : Nat) (rs : List RC) (w : World) (hn : n ≤ 1000000000000) (hr : RdR w A n rs) :
    Calls Tryz.prog 148 #[.agg #[.slice A n c]] w fun e w' => ∃ A' c', e = .returned (.slice A' n c') ∧ RdR w' A' n rs ∧ Fr w.heap.size A' ∧ Below w.heap.size w w' := by
  have HR := Lib.hid hr
  clear hr
  go_enter Tryz.func148, Tryz.ntmps148
  go_wp2_with (go_at_call 181; refine (clone_any _ _ _ rs _ hn (HR.out.below (bal (bre w) _))).mono ?_; rintro e w1 ⟨A', c', rfl, hr1, hf1, hb1⟩; have HR1 := Lib.hid hr1; have HF1 := Lib.hid hf1; have HB1 := Lib.hid hb1; clear hr1 hf1 hb1)
  go_ret
  exact ⟨A', c', rfl, HR1.out, HF1.out.mono (by simp), bstep (bal (bre w) _) HB1.out⟩

end Go.Proofs.YtdaedkolpfkdjaaGreat.Gr
end

section
namespace Go.Proofs.YtdaedkolpfkdjaaGreat.Gr

/-- the pixels, with those of S laid at the places of M. -/
def lay (W : Nat) (S : Nat → Nat → Option Int) (M : Nat → Nat → Bool) (px : List Int) : List Int :=
  px.mapIdx fun i p => if M (i % W) (i / W) then (S (i % W) (i / W)).getD p else p
/-- one stretch more. -/
def strB (M : Nat → Nat → Bool) (y a b : Nat) : Nat → Nat → Bool := fun x' y' => M x' y' || (decide (y' = y) && (decide (a ≤ x') && decide (x' < b)))
section
variable {W : Nat} {S : Nat → Nat → Option Int} {M M' : Nat → Nat → Bool} {px : List Int}
theorem lay_len (W : Nat) (S : Nat → Nat → Option Int) (M : Nat → Nat → Bool) (px : List Int) : (lay W S M px).length = px.length := by simp [lay]
theorem lay_get (i : Nat) : (lay W S M px)[i]? = (px[i]?).map fun p => if M (i % W) (i / W) then (S (i % W) (i / W)).getD p else p := by simp [lay, List.getElem?_mapIdx]
theorem lay_none (W : Nat) (S : Nat → Nat → Option Int) (px : List Int) : lay W S (fun _ _ => false) px = px := by
  refine List.ext_getElem? fun i => ?_
  rw [lay_get]
  cases px[i]? <;> simp
theorem lay_ext (h : ∀ i, i < px.length → M (i % W) (i / W) = M' (i % W) (i / W)) : lay W S M px = lay W S M' px := by
  refine List.ext_getElem? fun i => ?_
  rw [lay_get, lay_get]
  cases hp : px[i]? with
  | none => rfl
  | some p => rw [h i (List.getElem?_eq_some_iff.1 hp).1]
theorem str_start (y a : Nat) : lay W S (strB M y a a) px = lay W S M px := lay_ext fun i _ => by
  unfold strB
  have : (decide (a ≤ i % W) && decide (i % W < a)) = false := by simp
  rw [this]
  simp
theorem idx_div {x y : Nat} (hx : x < W) : (y * W + x) / W = y ∧ (y * W + x) % W = x := by
  constructor
  · rw [Nat.mul_comm, Nat.mul_add_div (by omega), Nat.div_eq_of_lt hx]; rfl
  · rw [Nat.mul_comm, Nat.mul_add_mod, Nat.mod_eq_of_lt hx]
theorem idx_eq {x y i : Nat} (_hx : x < W) (h1 : i / W = y) (h2 : i % W = x) : i = y * W + x := by
  have := Nat.div_add_mod i W
  rw [h1, h2, Nat.mul_comm] at this
  exact this.symm
/-- one place more. -/
theorem str_step {x y a : Nat} (ha : a ≤ x) (hx : x < W) {v : Int} (hS : S x y = some v) : (lay W S (strB M y a x) px).set (y * W + x) v = lay W S (strB M y a (x + 1)) px := by
  obtain ⟨d1, d2⟩ := idx_div (W := W) (x := x) (y := y) hx
  refine List.ext_getElem? fun i => ?_
  rw [List.getElem?_set, lay_get, lay_get, lay_len]
  by_cases hi : y * W + x = i
  · subst hi
    rw [if_pos rfl, d1, d2]
    cases hp : px[y * W + x]? with
    | none =>
      rw [if_neg (by have := List.getElem?_eq_none_iff.1 hp; omega)]
      rfl
    | some p =>
      rw [if_pos (List.getElem?_eq_some_iff.1 hp).1]
      simp [strB, ha, hS]
  · rw [if_neg hi]
    cases hp : px[i]? with
    | none => rfl
    | some p =>
      have : strB M y a x (i % W) (i / W) = strB M y a (x + 1) (i % W) (i / W) := by
        unfold strB
        by_cases hy : i / W = y
        · have hne : i % W ≠ x := fun h => hi (idx_eq hx hy h).symm
          have : decide (i % W < x) = decide (i % W < x + 1) := by simp; omega
          rw [this]
        · simp [hy]
      rw [this]
theorem str_skip {x y a : Nat} (_hx : x < W) (hS : S x y = none) : lay W S (strB M y a x) px = lay W S (strB M y a (x + 1)) px := by
  refine List.ext_getElem? fun i => ?_
  rw [lay_get, lay_get]
  cases hp : px[i]? with
  | none => rfl
  | some p =>
    simp only [Option.map_some]
    by_cases hi : i / W = y ∧ i % W = x
    · rw [hi.1, hi.2, hS]
      simp
    · have : strB M y a x (i % W) (i / W) = strB M y a (x + 1) (i % W) (i / W) := by
        unfold strB
        by_cases hy : i / W = y
        · have : decide (i % W < x) = decide (i % W < x + 1) := by simp; omega
          rw [this]
        · simp [hy]
      rw [this]
end

/-- has a rectangle a place? -/
def hasPG (r : RC) (x y : Nat) : Bool := decide (r.X ≤ (x : Int)) && decide ((x : Int) < r.X + r.W) && (decide (r.Y ≤ (y : Int)) && decide ((y : Int) < r.Y + r.H))
theorem hasP_iff (r : RC) (x y : Nat) : hasPG r x y = true ↔ (r.X ≤ (x : Int) ∧ (x : Int) < r.X + r.W) ∧ (r.Y ≤ (y : Int) ∧ (y : Int) < r.Y + r.H) := by simp [hasPG]
def anyP (rs : List RC) (x y : Nat) : Bool := rs.any fun r => hasPG r x y
/-- the rectangles ahead, and the rows of one more ahead of the j-th. -/
def rowsP (rs : List RC) (r : RC) (j : Nat) : Nat → Nat → Bool := fun x y => anyP rs x y || (hasPG r x y && decide (y < j))
theorem anyP_snoc (rs : List RC) (r : RC) (x y : Nat) : anyP (rs ++ [r]) x y = (anyP rs x y || hasPG r x y) := by simp [anyP]
theorem anyP_iff (rs : List RC) (x y : Nat) : anyP rs x y = true ↔ InR rs x y := by
  unfold anyP InR
  rw [List.any_eq_true]
  constructor
  · rintro ⟨r, hr, h⟩
    have := (hasP_iff r x y).1 h
    exact ⟨r, hr, by omega, by omega, by omega, by omega⟩
  · rintro ⟨r, hr, h⟩
    exact ⟨r, hr, (hasP_iff r x y).2 (by omega)⟩
section
variable {W H : Nat} {S : Nat → Nat → Option Int} {px : List Int} {rs : List RC} {r : RC}
theorem in_grid {i : Nat} (hl : px.length = W * H) (hi : i < px.length) : i % W < W ∧ i / W < H :=
  have hW : 0 < W := Nat.pos_of_ne_zero fun e => by rw [hl, e, Nat.zero_mul] at hi; omega
  ⟨Nat.mod_lt _ hW, Nat.div_lt_of_lt_mul (by rw [← hl]; exact hi)⟩
theorem rows_start (j : Nat) (hj : (j : Int) ≤ max r.Y 0) : lay W S (rowsP rs r j) px = lay W S (anyP rs) px := lay_ext fun i _ => by
  generalize i % W = x
  generalize i / W = y
  unfold rowsP
  have : (hasPG r x y && decide (y < j)) = false := by
    cases h : hasPG r x y with
    | false => rfl
    | true =>
      have := (hasP_iff r _ _).1 h
      simp
      omega
  rw [this, Bool.or_false]
theorem rows_next {j a b : Nat} (hl : px.length = W * H) (hj0 : r.Y ≤ (j : Int)) (hj1 : (j : Int) < r.Y + r.H) (ha : (a : Int) = max r.X 0) (hb : (b : Int) = min (r.X + r.W) W) :
    lay W S (strB (rowsP rs r j) j a b) px = lay W S (rowsP rs r (j + 1)) px := lay_ext fun i hi => by
  obtain ⟨h1, h2⟩ := in_grid hl hi
  generalize i % W = x at *
  generalize i / W = y at *
  rw [Bool.eq_iff_iff]
  unfold strB rowsP
  simp only [Bool.or_eq_true, Bool.and_eq_true, decide_eq_true_eq, hasP_iff]
  constructor
  · rintro ((h | h) | h)
    · exact .inl h
    · exact .inr ⟨h.1, by omega⟩
    · exact .inr ⟨by omega, by omega⟩
  · rintro (h | h)
    · exact .inl (.inl h)
    · by_cases hy : y = j
      · exact .inr ⟨hy, by omega⟩
      · exact .inl (.inr ⟨h.1, by omega⟩)
theorem rows_end {j : Nat} (hl : px.length = W * H) (hj : r.Y + r.H ≤ (j : Int) ∨ H ≤ j) : lay W S (rowsP rs r j) px = lay W S (anyP (rs ++ [r])) px := lay_ext fun i hi => by
  obtain ⟨h1, h2⟩ := in_grid hl hi
  generalize i % W = x at *
  generalize i / W = y at *
  rw [anyP_snoc]
  unfold rowsP
  cases h : hasPG r x y with
  | false => rfl
  | true =>
    have := (hasP_iff r _ _).1 h
    have : decide (y < j) = true := by simp; omega
    rw [this]
    rfl
theorem rows_out (hl : px.length = W * H) (h : min (r.X + r.W) W ≤ max r.X 0) : lay W S (anyP rs) px = lay W S (anyP (rs ++ [r])) px := lay_ext fun i hi => by
  obtain ⟨h1, h2⟩ := in_grid hl hi
  generalize i % W = x at *
  generalize i / W = y at *
  rw [anyP_snoc]
  have : hasPG r x y = false := by
    cases h3 : hasPG r x y with
    | false => rfl
    | true =>
      have := (hasP_iff r _ _).1 h3
      omega
  rw [this, Bool.or_false]
end

end Go.Proofs.YtdaedkolpfkdjaaGreat.Gr
end
