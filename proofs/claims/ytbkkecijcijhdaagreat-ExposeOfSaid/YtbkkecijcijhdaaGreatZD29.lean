/-
  The walk of glazierlaw31.built: windows' tree and places.
  The document's answers of a scene, plainly: the window at a place, where one begins, which are viewable, and their order.
  A view of the document's windows, as its laws use it.
  A view of any tree whose windows' boxes are the document's, as the laws use it.
  The windows of glazierlaw32, plainly: two scenes over one tree; what shows of a window, in its own places.
  Shifts and small rectangles of glazierlaw32, plainly.
-/
import Derived.Test.YtbkkecijcijhdaaGreatZD28
import Derived.Sort.CutIn
import Derived.Test.YtbkkecijcijhdaaGreatZD25
section
namespace Go.Proofs.YtbkkecijcijhdaaGreat
open Go.RowKit Go.Maps Go.Shelf

section
variable {W W' : World} {g : Nat} {bs : Bxs} {RW RH : Int} {l : List DW}
theorem SceneIs.keepG (h : SceneIs W bs RW RH l) (hg : W.grownBy W' (some g)) (hno : NoInt W g) : SceneIs W' bs RW RH l :=
  ⟨h.root, fun i d hd => by
    obtain ⟨b, h1, h2, out, h3, h4⟩ := h.each i d hd
    exact ⟨b, h1, h2, out, h3.keepG hg hno, h4⟩, h.only⟩
theorem Blk.noInt1 {t : TypeId} {m : Option Nat} (h : Blk W g t #[.map m]) : NoInt W g := fun o k i e => by
  rw [h.cell] at e
  match o, e with
  | 0, e => simp at e
  | o + 1, e => simp at e
end
/-- tree and places of windows. -/
structure MadeAt (w : World) (mk mu mp : Option Nat) (nk : Nat) (fk : Int → Option Value) (bs : Bxs) (RW RH : Int) (l : List DW) : Prop where
  tree : TreeIs w (.agg #[.map mk, .map mu]) (nodesW l) mk mu nk fk
  place : PlaceIs w (.agg #[.map mp]) (l.length + 1) bs
  scene : SceneIs w bs RW RH l
section
variable {w w' : World} {mk mu mp : Option Nat} {nk : Nat} {fk : Int → Option Value} {bs : Bxs} {RW RH : Int} {l : List DW}
theorem BoxOf.keepG {W W' : World} {d : DW} {b : BX} {g : Nat} (h : BoxOf W d b) (hg : W.grownBy W' (some g)) (hno : NoInt W g) : BoxOf W' d b := by
  obtain ⟨h1, out, h2, h3⟩ := h
  exact ⟨h1, out, h2.keepG hg hno, h3⟩
theorem MadeAt.below (h : MadeAt w mk mu mp nk fk bs RW RH l) (hb : Below w.heap.size w w') : MadeAt w' mk mu mp nk fk bs RW RH l := ⟨h.tree.below hb, h.place.below hb, h.scene.below hb⟩
end
theorem idC_W {n : Int} (h : 0 ≤ n ∧ n ≤ 1000) : idC (idW n) = 0 := by
  have e : idW n = 1048577 + n := by unfold idW; rw [if_neg (by omega)]
  unfold idC clientB
  rw [e, if_neg (by omega)]
  have h1 : ¬ ((1048577 + n) % 1048576 = 0) := by omega
  have h2 : ¬ ((1048577 + n) / 1048576 < 1) := by omega
  have h3 : ¬ (8 < (1048577 + n) / 1048576) := by omega
  simp [h1, h2, h3]
theorem UpOk.take {l : List DW} (h : UpOk l) (k : Nat) : UpOk (l.take k) := fun i d hd => by
  rw [List.getElem?_take] at hd
  split at hd
  · exact h i d hd
  · cases hd
theorem setC_W {bs : Bxs} {W : World} {RW RH : Int} {l : List DW} {d : DW} {b : BX} (h : SceneIs W bs RW RH l) (hl : l.length ≤ 60) (hD : DWok d) (hB : BoxOf W d b) (hG : b.G = 0 ∧ b.B = 0) (hn : b.S = false → b.n = 0) : setC bs (l.length + 1) (idW l.length) b = 0 := by
  obtain ⟨⟨e1, e2, e3, e4, e5, e6⟩, _⟩ := hB
  have hx := hD.x
  have hy := hD.y
  have hw := hD.w
  have hh := hD.h
  have hid : idW (l.length : Int) ≠ 1 := by rw [idW_nat]; omega
  have hno : bs (idW l.length) = none := by
    cases hb : bs (idW l.length) with
    | none => rfl
    | some b' =>
      rcases h.only _ _ hb with e | ⟨i, hi, e⟩
      · exact absurd e hid
      · have := idW_inj (by omega) (by omega) e
        omega
  unfold setC
  rw [if_neg hid, idC_W (by omega), if_neg (by simp), e1, e2, e3, e4, hG.1, hG.2, hno]
  have c1 : coordB d.X = true := by unfold coordB; rw [Bool.and_eq_true, decide_eq_true_eq, decide_eq_true_eq]; omega
  have c2 : coordB d.Y = true := by unfold coordB; rw [Bool.and_eq_true, decide_eq_true_eq, decide_eq_true_eq]; omega
  have c3 : sideB d.W = true := by unfold sideB; rw [Bool.and_eq_true, decide_eq_true_eq, decide_eq_true_eq]; omega
  have c4 : sideB d.H = true := by unfold sideB; rw [Bool.and_eq_true, decide_eq_true_eq, decide_eq_true_eq]; omega
  have c5 : gravC 0 = 0 := rfl
  have c6 : ¬ (b.S = false ∧ b.n ≠ 0) := fun hq => hq.2 (hn hq.1)
  rw [c1, c2, c3, c4, c5, if_neg (by decide), if_neg (by decide), if_neg (by decide), if_neg c6, if_neg (by simp; omega), if_neg (by omega)]

theorem SceneIs.fresh {bs : Bxs} {W : World} {RW RH : Int} {l : List DW} (h : SceneIs W bs RW RH l) : bs (idW l.length) = none := by
  cases hb : bs (idW l.length) with
  | none => rfl
  | some b' =>
    rcases h.only _ _ hb with e | ⟨i, hi, e⟩
    · rw [idW_nat] at e; omega
    · have := idW_inj (by omega) (by omega) e
      omega
theorem box_of {W : World} {d : DW} (h : DWok d) {out : List RC} {Ao : Option Addr} {co : Nat} (hr : RdR W Ao out.length out) (hc : Canon out) (hp : ∀ x y, InR out x y ↔ InR d.sh x y) (hl : out.length ≤ 1000000000000) : BoxOf W d ⟨d.X, d.Y, d.W, d.H, d.M, 0, 0, d.S, Ao, out.length, co⟩ := by
  refine ⟨⟨rfl, rfl, rfl, rfl, rfl, rfl⟩, out, ⟨Ao, co, rfl, hr, hc, hl, fun r hr => ?_⟩, fun x y => by rw [Bool.eq_iff_iff, inB_iff, inB_iff, hp]⟩
  have hps := canon_pos hc r hr
  obtain ⟨q, hq, h1, h2, h3, h4⟩ := (hp r.X r.Y).1 ⟨r, hr, by omega, by omega, by omega, by omega⟩
  obtain ⟨q', hq', g1, g2, g3, g4⟩ := (hp (r.X + r.W - 1) (r.Y + r.H - 1)).1 ⟨r, hr, by omega, by omega, by omega, by omega⟩
  have b1 := h.sh q hq
  have b2 := h.sh q' hq'
  exact (cnt_iff r).2 (by omega)
theorem no_places {out : List RC} (hc : Canon out) (h : ∀ x y, ¬ InR out x y) : out = [] :=
  canon_uniq hc canon_nilV (fun x y => ⟨fun h1 => absurd h1 (h x y), fun ⟨r, hr, _⟩ => by cases hr⟩)
set_option maxRecDepth 100000 in
theorem Tryz.sizeTr : (Tryz.prog.info? 34).map (·.size) = some 2 := by kernel_rfl
set_option maxRecDepth 100000 in
theorem Tryz.sizePl : (Tryz.prog.info? 37).map (·.size) = some 1 := by kernel_rfl

end Go.Proofs.YtbkkecijcijhdaaGreat
end

section
namespace Go.Proofs.YtbkkecijcijhdaaGreat

section
variable {l : List DW} {RW RH : Int}
/-- the window at a place of a window. -/
def atD (l : List DW) : Nat → Int → Int → Int → Int
  | 0, p, _, _ => p
  | f + 1, p, x, y => if lastHit (hitW p x y) l.zipIdx < 0 then p else
      atD l f (lastHit (hitW p x y) l.zipIdx) (x - ((l[(lastHit (hitW p x y) l.zipIdx).toNat]?).map DW.X).getD 0) (y - ((l[(lastHit (hitW p x y) l.zipIdx).toNat]?).map DW.Y).getD 0)
/-- windows that are below one, itself ahead of them, kids from below to the top. -/
def blwD (l : List DW) : Nat → Int → List Int
  | 0, p => [p]
  | f + 1, p => p :: (l.zipIdx.filter (fun q => decide (q.1.P = p) && q.1.M)).flatMap fun q => blwD l f q.2
end
end Go.Proofs.YtbkkecijcijhdaaGreat
end

section
namespace Go.Proofs.YtbkkecijcijhdaaGreat
open Go.RowKit Go.Maps Go.Shelf

abbrev bxS (RW RH : Nat) (l : List DW) : Int → Option VB := bxW (RW : Int) (RH : Int) l
abbrev esS (RW RH : Nat) (l : List DW) : List (Int × Places) := esN (nodesW l) (bxS RW RH l) (rectP RW RH)
abbrev ordS (RW RH : Nat) (l : List DW) : List Int := ordW (nodesW l) (bxS RW RH l) 1
/-- a view of windows. -/
structure SeenAt (w : World) (v : Value) (RW RH : Nat) (l : List DW) (og : Int → Int × Int) : Prop where
  is : ∃ A n c mv nm f, ViewIs w v A n c mv nm f (ordS RW RH l) (esS RW RH l) og RW RH
  org : ∀ i : Int, -1 ≤ i → i < (l.length : Int) → og (idW i) = orgN (nodesW l) (bxS RW RH l) (idW i)
theorem SeenAt.below {w w' : World} {v : Value} {RW RH : Nat} {l : List DW} {og : Int → Int × Int} (h : SeenAt w v RW RH l og) (hb : Below w.heap.size w w') : SeenAt w' v RW RH l og :=
  ⟨by
    obtain ⟨A, n, c, mv, nm, f, h1⟩ := h.is
    exact ⟨A, n, c, mv, nm, f, h1.below hb⟩, h.org⟩
section
variable {w : World} {v : Value} {RW RH : Nat} {l : List DW} {og : Int → Int × Int}
theorem len_area : ∀ {rs : List RC}, (∀ r ∈ rs, 0 < r.W ∧ 0 < r.H) → (rs.length : Int) ≤ areaS rs
  | [], _ => by simp [areaS]
  | r :: rs, h => by
    have h1 := h r (by simp)
    have h2 := len_area (rs := rs) (fun q hq => h q (List.mem_cons_of_mem _ hq))
    have h3 : 1 * 1 ≤ r.W * r.H := Int.mul_le_mul (by omega) (by omega) (by omega) (by omega)
    show ((rs.length + 1 : Nat) : Int) ≤ r.W * r.H + areaS rs
    omega
theorem sum_le {α : Type} (f : α → Nat) (B : Nat) : ∀ (l : List α), (∀ a ∈ l, f a ≤ B) → (l.map f).sum ≤ l.length * B
  | [], _ => by simp
  | a :: l, h => by
    have h1 := h a (by simp)
    have h2 := sum_le f B l (fun b hb => h b (List.mem_cons_of_mem _ hb))
    rw [List.map_cons, List.sum_cons, List.length_cons, Nat.add_mul]
    omega
theorem cntP_le (W H : Nat) (P : Places) : cntP W H P ≤ H * W := by
  unfold cntP
  have h := sum_le (fun (y : Nat) => (List.range W).countP fun (x : Nat) => P x y) W (List.range H) (fun a _ => by
    have := List.countP_le_length (p := fun (x : Nat) => P x a) (l := List.range W)
    simpa using this)
  simpa using h
theorem reg_few {u : Value} {out : List RC} {P : Places} (hR : RW ≤ 128 ∧ RH ≤ 128) (hr : RegAt w u out) (ha : areaL out = cntP RW RH P) : out.length ≤ 100000 := by
  have h1 := len_area hr.pos
  rw [← areaL_S, ha] at h1
  have h2 := cntP_le RW RH P
  have h3 : RH * RW ≤ 128 * 128 := Nat.mul_le_mul hR.2 hR.1
  omega
theorem SeenAt.visible (h : SeenAt w v RW RH l og) (i : Int) (hi : 0 ≤ i ∧ i ≤ 4294967295) :
    Calls Tryz.prog 33 #[v, .int .u32 i] w fun e w' => ∃ u out, e = .returned u ∧ RegAt w' u out ∧ (∀ x y, inB out x y = showB (esS RW RH l) (x + (ogV (esS RW RH l) og i).1) (y + (ogV (esS RW RH l) og i).2) i) ∧ areaL out = cntP RW RH (fun x y => showB (esS RW RH l) x y i) ∧ out.length ≤ 100000 ∧ Below w.heap.size w w' := by
  obtain ⟨A, n, c, mv, nm, f, hv⟩ := h.is
  refine (vvisible_any i hi hv).mono ?_
  rintro e w' ⟨u, out, rfl, hr, hp, hb⟩
  have ha : areaL out = cntP RW RH (fun x y => showB (esS RW RH l) x y i) := by
    obtain ⟨_, _, _, _, hc, _⟩ := hr
    exact hv.area hc hp
  exact ⟨u, out, rfl, hr, hp, ha, reg_few hv.side hr ha, hb⟩
end
end Go.Proofs.YtbkkecijcijhdaaGreat
end

section
namespace Go.Proofs.YtbkkecijcijhdaaGreat
open Go.RowKit Go.Maps Go.Shelf

/-- a view of a tree and boxes. -/
structure SeenG (w : World) (v : Value) (RW RH : Nat) (ns : Nodes) (bx : Int → Option VB) (og : Int → Int × Int) : Prop where
  is : ∃ A n c mv nm f, ViewIs w v A n c mv nm f (ordW ns bx 1) (esN ns bx (rectP RW RH)) og RW RH
  org : ∀ k : Int, hasN ns k = true → og k = orgN ns bx k
theorem SeenG.below {w w' : World} {v : Value} {RW RH : Nat} {ns : Nodes} {bx : Int → Option VB} {og : Int → Int × Int} (h : SeenG w v RW RH ns bx og) (hb : Below w.heap.size w w') : SeenG w' v RW RH ns bx og :=
  ⟨by
    obtain ⟨A, n, c, mv, nm, f, h1⟩ := h.is
    exact ⟨A, n, c, mv, nm, f, h1.below hb⟩, h.org⟩
section
variable {W : World} {bs : Bxs} {RW RH : Int} {l : List DW} {ns : Nodes}
def nearS (bs : Bxs) : Prop := ∀ i b, bs i = some b → (-200 ≤ b.X ∧ b.X ≤ 200) ∧ (-200 ≤ b.Y ∧ b.Y ≤ 200)
theorem nearS_sum {bs : Bxs} (h : nearS bs) (l : List Int) : (-200 * (l.length : Int) ≤ sumX bs l ∧ sumX bs l ≤ 200 * (l.length : Int)) ∧ (-200 * (l.length : Int) ≤ sumY bs l ∧ sumY bs l ≤ 200 * (l.length : Int)) := by
  induction l with
  | nil => simp [sumX, sumY]
  | cons w l ih =>
    have hb : (-200 ≤ ((bs w).getD zBX).X ∧ ((bs w).getD zBX).X ≤ 200) ∧ (-200 ≤ ((bs w).getD zBX).Y ∧ ((bs w).getD zBX).Y ≤ 200) := by
      cases hb : bs w with
      | none => simp [zBX]
      | some b => exact h w b hb
    have e1 : sumX bs (w :: l) = (if w = 1 then 0 else ((bs w).getD zBX).X) + sumX bs l := by simp [sumX]
    have e2 : sumY bs (w :: l) = (if w = 1 then 0 else ((bs w).getD zBX).Y) + sumY bs l := by simp [sumY]
    rw [e1, e2]
    simp only [List.length_cons]
    split <;> omega
theorem nearS_of (hn : nearS bs) (hok : TreeOk ns) (hl : ns.length ≤ 1000) (k : Int) : (-900000 ≤ orgX ns bs k ∧ orgX ns bs k ≤ 900000) ∧ -900000 ≤ orgY ns bs k ∧ orgY ns bs k ≤ 900000 := by
  unfold orgX orgY
  cases Go.Proofs.YtbkkecijcijhdaaGreat.orgOk ns bs k with
  | false => simp
  | true =>
    have h1 := nearS_sum hn (pathN ns k)
    have h2 := path_len hok k
    simp only [if_true]
    omega
theorem SceneIs.nearS (h : SceneIs W bs RW RH l) (hok : ∀ d ∈ l, DWok d) : nearS bs := fun k b hk => by
  rcases h.box hk with ⟨_, rfl⟩ | ⟨i, d, hd, _, ⟨e1, e2, _⟩, _⟩
  · simp [rootBX]
  · have hD := hok d (List.mem_of_getElem? hd)
    have h1 := hD.x
    have h2 := hD.y
    rw [e1, e2]
    omega
theorem SceneIs.some (h : SceneIs W bs RW RH l) {k : Int} (hk : hasN (nodesW l) k = true) : (bs k).isSome = true := by
  obtain ⟨n, h1, h2, rfl⟩ := hasW_inv hk
  by_cases hn : n < 0
  · obtain rfl : n = -1 := by omega
    rw [idW_root, h.root]
    rfl
  · obtain ⟨i, rfl⟩ : ∃ i : Nat, n = (i : Int) := ⟨n.toNat, by omega⟩
    obtain ⟨b, e, _⟩ := h.each i _ (List.getElem?_eq_getElem (by omega))
    rw [e]
    rfl
theorem orgOk_of (hok : TreeOk ns) (hs : ∀ k, hasN ns k = true → (bs k).isSome = true) {k : Int} (hk : hasN ns k = true) : orgOk ns bs k = true := by
  unfold orgOk
  rw [hk, Bool.true_and]
  unfold allB
  rw [List.all_eq_true]
  exact fun x hx => hs x (path_has hok hx)
end
theorem seenG_of {mk mu mp : Option Nat} {nk n : Nat} {fk : Int → Option Value} {bs : Bxs} {RW RH : Nat} {l : List DW} {ns : Nodes} (w : World) (hT : TreeIs w (.agg #[.map mk, .map mu]) ns mk mu nk fk) (hP : PlaceIs w (.agg #[.map mp]) n bs) (hS : SceneIs w bs RW RH l) (tok : TreeOk ns)
    (hsub : ∀ k, hasN ns k = true → hasN (nodesW l) k = true) (hok : ∀ d ∈ l, DWok d) (hl : ns.length ≤ 1000) (hR : (1 ≤ RW ∧ RW ≤ 128) ∧ 1 ≤ RH ∧ RH ≤ 128) :
    Calls Tryz.prog 25 #[.agg #[.map mk, .map mu], .agg #[.map mp]] w fun e w' => ∃ v og, e = .returned v ∧ SeenG w' v RW RH ns (bxS RW RH l) og ∧ Below w.heap.size w w' := by
  have hRI : (1 ≤ (RW : Int) ∧ (RW : Int) ≤ 128) ∧ 1 ≤ (RH : Int) ∧ (RH : Int) ≤ 128 := by omega
  have hrel := hS.rel hok hRI
  refine (viewOf_any mp mk mu n nk fk ns bs (bxS RW RH l) RW RH w hT hP tok hrel (hS.sides hok hRI) (hS.nearb hok) (nearS_of (hS.nearS hok) tok hl) hR hS.root).mono ?_
  rintro e w' ⟨v, A, n, c, mv, nm, f, rfl, hv, hb⟩
  exact ⟨v, _, rfl, ⟨⟨A, n, c, mv, nm, f, hv⟩, fun k hk => (orgN_eq hrel (orgOk_of tok (fun j hj => hS.some (hsub j hj)) hk)).symm⟩, hb⟩
section
variable {w : World} {v : Value} {RW RH : Nat} {ns : Nodes} {bx : Int → Option VB} {og : Int → Int × Int}
theorem SeenG.form (h : SeenG w v RW RH ns bx og) : ∃ A n c mv, v = .agg #[.slice A n c, .map mv] := by
  obtain ⟨A, n, c, mv, nm, f, hv⟩ := h.is
  exact ⟨A, n, c, mv, hv.shape⟩
theorem SeenG.viewable (h : SeenG w v RW RH ns bx og) (hn : TreeOk ns) (i : Int) (hi : 0 ≤ i ∧ i ≤ 4294967295) :
    Calls Tryz.prog 31 #[v, .int .u32 i] w fun e w' => e = .returned (.bool (hasN ns i && vw ns bx i)) ∧ Below w.heap.size w w' := by
  obtain ⟨A, n, c, mv, nm, f, hv⟩ := h.is
  have := vviewable_any i hi hv
  rw [look_some hn] at this
  exact this
/-- where a window begins, as a view of it tells. -/
def ogG (ns : Nodes) (bx : Int → Option VB) (i : Int) : Int × Int := if hasN ns i && vw ns bx i then orgN ns bx i else (0, 0)
theorem SeenG.og_eq (h : SeenG w v RW RH ns bx og) (hn : TreeOk ns) (i : Int) : ogV (esN ns bx (rectP RW RH)) og i = ogG ns bx i := by
  unfold ogV ogG
  rw [look_some hn]
  cases hh : hasN ns i with
  | false => rfl
  | true =>
    rw [h.org i hh]
/-- what a window shows, place by place of the root. -/
def shG (RW RH : Nat) (ns : Nodes) (bx : Int → Option VB) (x y i : Int) : Bool := rectP RW RH x y && decide (i = topN ns bx x y)
theorem SeenG.visible (h : SeenG w v RW RH ns bx og) (hn : TreeOk ns) (i : Int) (hi : 0 ≤ i ∧ i ≤ 4294967295) :
    Calls Tryz.prog 33 #[v, .int .u32 i] w fun e w' => ∃ u out, e = .returned u ∧ RegAt w' u out ∧ (∀ x y, inB out x y = shG RW RH ns bx (x + (ogG ns bx i).1) (y + (ogG ns bx i).2) i) ∧ areaL out = cntP RW RH (fun x y => shG RW RH ns bx x y i) ∧ out.length ≤ 100000 ∧ Below w.heap.size w w' := by
  obtain ⟨A, n, c, mv, nm, f, hv⟩ := h.is
  refine (vvisible_any i hi hv).mono ?_
  rintro e w' ⟨u, out, rfl, hr, hp, hb⟩
  have ha : areaL out = cntP RW RH (fun x y => showB (esN ns bx (rectP RW RH)) x y i) := by
    obtain ⟨_, _, _, _, hc, _⟩ := hr
    exact hv.area hc hp
  refine ⟨u, out, rfl, hr, fun x y => ?_, ?_, reg_few hv.side hr ha, hb⟩
  · rw [hp, h.og_eq hn, show_at hn]; rfl
  · rw [ha]
    exact congrArg (fun P : Places => ((cntP RW RH P : Nat) : Int)) (funext fun x => funext fun y => show_at (bx := bx) hn (rectP RW RH) x y i)
end
/-- regions that have the same places are the same. -/
theorem reg_uniq {w w' : World} {u u' : Value} {a b : List RC} (ha : RegAt w u a) (hb : RegAt w' u' b) (h : ∀ x y, inB a x y = inB b x y) : a = b := by
  obtain ⟨_, _, _, _, hc, _⟩ := ha
  obtain ⟨_, _, _, _, hd, _⟩ := hb
  exact canon_uniq hc hd (fun x y => by rw [← inB_iff, ← inB_iff, h])
end Go.Proofs.YtbkkecijcijhdaaGreat
end

section
namespace Go.Proofs.YtbkkecijcijhdaaGreat

/-- where a window is. -/
structure SpW where
  X : Int
  Y : Int
  W : Int
  H : Int
  M : Bool
def SpW.cells (s : SpW) : List Value := [.int .i8 s.X, .int .i8 s.Y, .int .u8 s.W, .int .u8 s.H, .bool s.M]
def SpW.ok (s : SpW) : Prop := ((-128 ≤ s.X ∧ s.X ≤ 127) ∧ -128 ≤ s.Y ∧ s.Y ≤ 127) ∧ (0 ≤ s.W ∧ s.W ≤ 255) ∧ 0 ≤ s.H ∧ s.H ≤ 255
def SpW.dw (s : SpW) (p : Int) : DW := ⟨p, s.X, s.Y, s.W % 8 + 1, s.H % 8 + 1, s.M, false, none, 0, 0, []⟩
/-- a window, as it was and as it is. -/
structure XW where
  I : Int
  a : SpW
  b : SpW
def XW.cells (x : XW) : List Value := .int .u8 x.I :: (x.a.cells ++ x.b.cells)
theorem XW.cells_len (x : XW) : x.cells.length = 11 := rfl
def XW.ok (x : XW) : Prop := (0 ≤ x.I ∧ x.I ≤ 255) ∧ x.a.ok ∧ x.b.ok
def XW.up (x : XW) (i : Nat) : Int := x.I % ((i : Int) + 1) - 1
def dwsX (g : XW → SpW) (xs : List XW) : List DW := xs.zipIdx.map fun q => (g q.1).dw (q.1.up q.2)
section
variable {g g' : XW → SpW} {xs : List XW}
theorem dwsX_len (g : XW → SpW) (xs : List XW) : (dwsX g xs).length = xs.length := by simp [dwsX]
theorem dwsX_at {i : Nat} {d : DW} (h : (dwsX g xs)[i]? = some d) : ∃ x, xs[i]? = some x ∧ d = (g x).dw (x.up i) := by
  unfold dwsX at h
  rw [List.getElem?_map, List.getElem?_zipIdx] at h
  cases hf : xs[i]? with
  | none => rw [hf] at h; cases h
  | some f =>
    rw [hf] at h
    simp at h
    exact ⟨f, rfl, h.symm⟩
theorem dwsX_get {i : Nat} {x : XW} (h : xs[i]? = some x) : (dwsX g xs)[i]? = some ((g x).dw (x.up i)) := by
  unfold dwsX
  rw [List.getElem?_map, List.getElem?_zipIdx, h]
  simp
theorem XW.up_bd {x : XW} (h : x.ok) (i : Nat) : -1 ≤ x.up i ∧ x.up i < (i : Int) := by
  have h0 := h.1
  unfold XW.up
  have h1 := Int.emod_nonneg x.I (show ((i : Int) + 1) ≠ 0 by omega)
  have h2 := Int.emod_lt_of_pos x.I (show 0 < ((i : Int) + 1) by omega)
  omega
theorem dwsX_up (h : ∀ x ∈ xs, x.ok) : UpOk (dwsX g xs) := fun i d hd => by
  obtain ⟨x, hx, rfl⟩ := dwsX_at hd
  exact XW.up_bd (h x (List.mem_of_getElem? hx)) i
theorem SpW.dw_ok {s : SpW} (h : s.ok) (p : Int) : DWok (s.dw p) := by
  obtain ⟨⟨h1, h2⟩, h3, h4⟩ := h
  unfold SpW.dw
  refine ⟨?_, ?_, ?_, ?_, fun _ => rfl, by simp, by simp⟩ <;> dsimp only <;> omega
theorem dwsX_ok (h : ∀ x ∈ xs, (g x).ok) : ∀ d ∈ dwsX g xs, DWok d := fun d hd => by
  obtain ⟨i, hi⟩ := List.getElem?_of_mem hd
  obtain ⟨x, hx, rfl⟩ := dwsX_at hi
  exact SpW.dw_ok (h x (List.mem_of_getElem? hx)) _
theorem dwsX_sh : ∀ d ∈ dwsX g xs, d.sh = [] := fun d hd => by
  obtain ⟨i, hi⟩ := List.getElem?_of_mem hd
  obtain ⟨x, hx, rfl⟩ := dwsX_at hi
  rfl
theorem nodesX (g g' : XW → SpW) (xs : List XW) : nodesW (dwsX g xs) = nodesW (dwsX g' xs) := by
  refine List.ext_getElem? (fun i => ?_)
  unfold nodesW dwsX
  rw [List.getElem?_map, List.getElem?_map, List.getElem?_zipIdx, List.getElem?_zipIdx, List.getElem?_map, List.getElem?_map, List.getElem?_zipIdx]
  cases xs[i]? <;> rfl
end
section
variable {ns : Nodes} {bx : Int → Option VB}
theorem org_up (h : TreeOk ns) {id k : Int} (hk : k ∈ kidsOf ns id) {b : VB} (hb : bx k = some b) : orgN ns bx k = (b.X + (orgN ns bx id).1, b.Y + (orgN ns bx id).2) := by
  obtain ⟨hp, _, hne⟩ := path_step h (kids_up h hk).1
  unfold orgN
  rw [hp]
  show (if k = 1 then _ else _) = _
  rw [if_neg hne, hb]
  rfl
/-- the window at a place has it. -/
theorem top_area (h : TreeOk ns) : ∀ (f : Nat) (id x y : Int), topF ns bx f id x y = id ∨ ∃ b, bx (topF ns bx f id x y) = some b ∧ b.area (x - (orgN ns bx (topF ns bx f id x y)).1) (y - (orgN ns bx (topF ns bx f id x y)).2) = true
  | 0, _, _, _ => .inl rfl
  | f + 1, id, x, y => by
    unfold topF
    cases hf : (kidsOf ns id).reverse.find? (hitB bx (orgN ns bx id) x y) with
    | none => exact .inl rfl
    | some k =>
      have hk := List.mem_of_find?_eq_some hf
      rw [List.mem_reverse] at hk
      have hh := List.find?_some hf
      right
      dsimp only
      rcases top_area h f k x y with e | e
      · rw [e]
        unfold hitB kidA at hh
        cases hb : bx k with
        | none => rw [hb] at hh; cases hh
        | some b =>
          rw [hb] at hh
          dsimp only at hh
          cases hM : b.M with
          | false =>
            rw [hM] at hh
            simp at hh
          | true =>
            rw [hM] at hh
            simp only [if_true] at hh
            refine ⟨b, rfl, ?_⟩
            rw [org_up h hk hb]
            dsimp only
            rw [show b.X + (orgN ns bx id).1 = (orgN ns bx id).1 + b.X by omega, show b.Y + (orgN ns bx id).2 = (orgN ns bx id).2 + b.Y by omega]
            exact hh
      · exact e
/-- what shows of a window, in its own places. -/
def visG (RW RH : Nat) (ns : Nodes) (bx : Int → Option VB) (i : Int) : Places := fun x y => shG RW RH ns bx (x + (ogG ns bx i).1) (y + (ogG ns bx i).2) i
theorem shG_vw (h : TreeOk ns) {RW RH : Nat} {x y i : Int} (hs : shG RW RH ns bx x y i = true) : hasN ns i = true ∧ vw ns bx i = true := by
  unfold shG at hs
  rw [Bool.and_eq_true, decide_eq_true_eq] at hs
  have h1 := topF_vw (bx := bx) h (belowAt ns 1).length 1 x y (hasN_root ns) (vw_root h)
  rw [hs.2]
  exact h1
theorem vis_in (h : TreeOk ns) {RW RH : Nat} {w' h' : Int} (hw : (RW : Int) ≤ w' ∧ (RH : Int) ≤ h') (hb : ∀ k b, k ≠ 1 → bx k = some b → ∀ x y, b.area x y = true → (0 ≤ x ∧ x < w') ∧ 0 ≤ y ∧ y < h') {i x y : Int} (hs : visG RW RH ns bx i x y = true) : (0 ≤ x ∧ x < w') ∧ 0 ≤ y ∧ y < h' := by
  unfold visG at hs
  obtain ⟨h1, h2⟩ := shG_vw h hs
  have hog : ogG ns bx i = orgN ns bx i := by unfold ogG; rw [h1, h2]; rfl
  rw [hog] at hs
  unfold shG at hs
  rw [Bool.and_eq_true, decide_eq_true_eq] at hs
  obtain ⟨hr, ht⟩ := hs
  by_cases hi : i = 1
  · subst hi
    rw [orgN_root h] at hr
    have := (inB_rect _ _ _ _).1 hr
    dsimp only at this
    omega
  · rcases top_area (bx := bx) h (belowAt ns 1).length 1 (x + (orgN ns bx i).1) (y + (orgN ns bx i).2) with e | ⟨b, e, ha⟩
    · exact absurd (ht.trans e) hi
    · have ht' : i = topF ns bx (belowAt ns 1).length 1 (x + (orgN ns bx i).1) (y + (orgN ns bx i).2) := ht
      rw [← ht'] at e ha
      have := hb i b hi e _ _ ha
      omega
end
section
variable {RW RH : Nat} {l : List DW}
theorem bxS_area {m : Int} (hm : ∀ d ∈ l, d.W ≤ m ∧ d.H ≤ m) {k : Int} {b : VB} (hk : k ≠ 1) (hb : bxS RW RH l k = some b) {x y : Int} (ha : b.area x y = true) : (0 ≤ x ∧ x < m) ∧ 0 ≤ y ∧ y < m := by
  unfold bxS bxW at hb
  rw [if_neg hk] at hb
  split at hb
  · cases hd : l[(k - 1048577).toNat]? with
    | none => rw [hd] at hb; cases hb
    | some d =>
      rw [hd] at hb
      obtain rfl := Option.some.inj hb
      have h1 : d.has x y = true := ha
      unfold DW.has at h1
      rw [Bool.and_eq_true] at h1
      have h2 := (inB_rect _ _ _ _).1 h1.1
      have h3 := hm d (List.mem_of_getElem? hd)
      omega
  · cases hb
end
end Go.Proofs.YtbkkecijcijhdaaGreat
end

section
namespace Go.Proofs.YtbkkecijcijhdaaGreat

/-- a shift. -/
structure SH where
  X : Int
  Y : Int
  F : Bool
def SH.cells (s : SH) : List Value := [.int .i64 s.X, .int .i64 s.Y, .bool s.F]
theorem SH.cells_len (s : SH) : s.cells.length = 3 := rfl
instance : Inhabited SH := ⟨⟨0, 0, false⟩⟩
/-- four small numbers. -/
structure Q4 where
  a : Int
  b : Int
  c : Int
  d : Int
def Q4.cells (q : Q4) : List Value := [.int .u8 q.a, .int .u8 q.b, .int .u8 q.c, .int .u8 q.d]
theorem Q4.cells_len (q : Q4) : q.cells.length = 4 := rfl
def Q4.ok (q : Q4) : Prop := ((0 ≤ q.a ∧ q.a ≤ 255) ∧ 0 ≤ q.b ∧ q.b ≤ 255) ∧ (0 ≤ q.c ∧ q.c ≤ 255) ∧ 0 ≤ q.d ∧ q.d ≤ 255
instance : Inhabited Q4 := ⟨⟨0, 0, 0, 0⟩⟩
/-- the rectangle of four small numbers. -/
def Q4.rc (q : Q4) : RC := ⟨q.a, q.b, q.c % 12, q.d % 12⟩
end Go.Proofs.YtbkkecijcijhdaaGreat
end
