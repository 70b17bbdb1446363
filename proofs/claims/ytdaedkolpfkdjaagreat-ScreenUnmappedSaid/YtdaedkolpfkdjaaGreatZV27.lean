/-
  The walk of glazierlaw31.built: windows' tree and places.
  The document's answers of a scene, plainly: the window at a place, where one begins, which are viewable, and their order.
  A view of the document's windows, as its laws use it.
  A view of any tree whose windows' boxes are the document's, as the laws use it.
  What glazierlaw34.Make makes: the document's windows, and what the tree, the place and the canvas have of them.
  Windows that came in, opened: numbers, and a slice of rectangles.
-/
import Derived.Test.YtdaedkolpfkdjaaGreatZV24
import Derived.Test.YtdaedkolpfkdjaaGreatZV25
import Derived.Sort.CutIn
import Derived.Test.YtdaedkolpfkdjaaGreatZV22
import Derived.Test.YtdaedkolpfkdjaaGreatZV26
import Derived.Deep.Slices
import Derived.Test.YtdaedkolpfkdjaaGreatZV00
section
namespace Go.Proofs.YtdaedkolpfkdjaaGreat
open Go.RowKit Go.Maps Go.Shelf

section
variable {W W' : World} {g : Nat} {bs : Bxs} {RW RH : Int} {l : List DW}
theorem SceneIs.keepG (h : SceneIs W bs RW RH l) (hg : W.grownBy W' (some g)) (hno : NoInt W g) : SceneIs W' bs RW RH l :=
  ⟨h.root, fun i d hd => by
    obtain ⟨b, h1, h2, out, h3, h4⟩ := h.each i d hd
    exact ⟨b, h1, h2, out, h3.keepG hg hno, h4⟩, h.only⟩
end
/-- tree and places of windows. -/
structure MadeAt (w : World) (mk mu mp : Option Nat) (nk : Nat) (fk : Int → Option Value) (bs : Bxs) (RW RH : Int) (l : List DW) : Prop where
  tree : TreeIs w (.agg #[.map mk, .map mu]) (nodesW l) mk mu nk fk
  place : PlaceIs w (.agg #[.map mp]) (l.length + 1) bs
  scene : SceneIs w bs RW RH l
section
variable {w w' : World} {mk mu mp : Option Nat} {nk : Nat} {fk : Int → Option Value} {bs : Bxs} {RW RH : Int} {l : List DW}
theorem BoxOf.keepG {W W' : World} {d : DW} {b : BX} {g : Nat} (h : BoxOf W d b) (hg : W.grownBy W' (some g)) (hno : NoInt W g) : BoxOf W' d b := by
  obtain ⟨h1, out, h2, h3⟩ := h
  exact ⟨h1, out, h2.keepG hg hno, h3⟩
theorem MadeAt.below (h : MadeAt w mk mu mp nk fk bs RW RH l) (hb : Below w.heap.size w w') : MadeAt w' mk mu mp nk fk bs RW RH l := ⟨h.tree.below hb, h.place.below hb, h.scene.below hb⟩
end
theorem idC_W {n : Int} (h : 0 ≤ n ∧ n ≤ 1000) : idC (idW n) = 0 := by
  have e : idW n = 1048577 + n := by unfold idW; rw [if_neg (by omega)]
  unfold idC clientB
  rw [e, if_neg (by omega)]
  have h1 : ¬ ((1048577 + n) % 1048576 = 0) := by omega
  have h2 : ¬ ((1048577 + n) / 1048576 < 1) := by omega
  have h3 : ¬ (8 < (1048577 + n) / 1048576) := by omega
  simp [h1, h2, h3]
theorem UpOk.take {l : List DW} (h : UpOk l) (k : Nat) : UpOk (l.take k) := fun i d hd => by
  rw [List.getElem?_take] at hd
  split at hd
  · exact h i d hd
  · cases hd
theorem setC_W {bs : Bxs} {W : World} {RW RH : Int} {l : List DW} {d : DW} {b : BX} (h : SceneIs W bs RW RH l) (hl : l.length ≤ 60) (hD : DWok d) (hB : BoxOf W d b) (hG : b.G = 0 ∧ b.B = 0) (hn : b.S = false → b.n = 0) : setC bs (l.length + 1) (idW l.length) b = 0 := by
  obtain ⟨⟨e1, e2, e3, e4, e5, e6⟩, _⟩ := hB
  have hx := hD.x
  have hy := hD.y
  have hw := hD.w
  have hh := hD.h
  have hid : idW (l.length : Int) ≠ 1 := by rw [idW_nat]; omega
  have hno : bs (idW l.length) = none := by
    cases hb : bs (idW l.length) with
    | none => rfl
    | some b' =>
      rcases h.only _ _ hb with e | ⟨i, hi, e⟩
      · exact absurd e hid
      · have := idW_inj (by omega) (by omega) e
        omega
  unfold setC
  rw [if_neg hid, idC_W (by omega), if_neg (by simp), e1, e2, e3, e4, hG.1, hG.2, hno]
  have c1 : coordB d.X = true := by unfold coordB; rw [Bool.and_eq_true, decide_eq_true_eq, decide_eq_true_eq]; omega
  have c2 : coordB d.Y = true := by unfold coordB; rw [Bool.and_eq_true, decide_eq_true_eq, decide_eq_true_eq]; omega
  have c3 : sideB d.W = true := by unfold sideB; rw [Bool.and_eq_true, decide_eq_true_eq, decide_eq_true_eq]; omega
  have c4 : sideB d.H = true := by unfold sideB; rw [Bool.and_eq_true, decide_eq_true_eq, decide_eq_true_eq]; omega
  have c5 : gravC 0 = 0 := rfl
  have c6 : ¬ (b.S = false ∧ b.n ≠ 0) := fun hq => hq.2 (hn hq.1)
  rw [c1, c2, c3, c4, c5, if_neg (by decide), if_neg (by decide), if_neg (by decide), if_neg c6, if_neg (by simp; omega), if_neg (by omega)]

theorem SceneIs.fresh {bs : Bxs} {W : World} {RW RH : Int} {l : List DW} (h : SceneIs W bs RW RH l) : bs (idW l.length) = none := by
  cases hb : bs (idW l.length) with
  | none => rfl
  | some b' =>
    rcases h.only _ _ hb with e | ⟨i, hi, e⟩
    · rw [idW_nat] at e; omega
    · have := idW_inj (by omega) (by omega) e
      omega
theorem sh_cnt {d : DW} (h : DWok d) (x y : Int) : InR (d.sh.filter RC.cnt) x y ↔ InR d.sh x y := by
  constructor
  · rintro ⟨r, hr, hq⟩
    exact ⟨r, (List.mem_filter.1 hr).1, hq⟩
  · rintro ⟨r, hr, hq⟩
    have h1 := h.sh r hr
    exact ⟨r, List.mem_filter.2 ⟨hr, (cnt_iff r).2 (by omega)⟩, hq⟩
theorem box_of {W : World} {d : DW} (h : DWok d) {out : List RC} {Ao : Option Addr} {co : Nat} (hr : RdR W Ao out.length out) (hc : Canon out) (hp : ∀ x y, InR out x y ↔ InR d.sh x y) (hl : out.length ≤ 1000000000000) : BoxOf W d ⟨d.X, d.Y, d.W, d.H, d.M, 0, 0, d.S, Ao, out.length, co⟩ := by
  refine ⟨⟨rfl, rfl, rfl, rfl, rfl, rfl⟩, out, ⟨Ao, co, rfl, hr, hc, hl, fun r hr => ?_⟩, fun x y => by rw [Bool.eq_iff_iff, inB_iff, inB_iff, hp]⟩
  have hps := canon_pos hc r hr
  obtain ⟨q, hq, h1, h2, h3, h4⟩ := (hp r.X r.Y).1 ⟨r, hr, by omega, by omega, by omega, by omega⟩
  obtain ⟨q', hq', g1, g2, g3, g4⟩ := (hp (r.X + r.W - 1) (r.Y + r.H - 1)).1 ⟨r, hr, by omega, by omega, by omega, by omega⟩
  have b1 := h.sh q hq
  have b2 := h.sh q' hq'
  exact (cnt_iff r).2 (by omega)
theorem no_places {out : List RC} (hc : Canon out) (h : ∀ x y, ¬ InR out x y) : out = [] :=
  canon_uniq hc canon_nilV (fun x y => ⟨fun h1 => absurd h1 (h x y), fun ⟨r, hr, _⟩ => by cases hr⟩)
set_option maxRecDepth 100000 in
theorem Tryz.sizeTr : (Tryz.prog.info? 37).map (·.size) = some 2 := by kernel_rfl
set_option maxRecDepth 100000 in
theorem Tryz.sizePl : (Tryz.prog.info? 40).map (·.size) = some 1 := by kernel_rfl

end Go.Proofs.YtdaedkolpfkdjaaGreat
end

section
namespace Go.Proofs.YtdaedkolpfkdjaaGreat

section
variable {l : List DW} {RW RH : Int}
theorem lastHit_is {hit : DW × Nat → Bool} : ¬ (lastHit hit l.zipIdx < 0) → ∃ (i : Nat) (d : DW), lastHit hit l.zipIdx = (i : Int) ∧ l[i]? = some d ∧ hit (d, i) = true := by
  unfold lastHit
  cases hf : l.zipIdx.reverse.find? hit with
  | none => intro h; exact absurd (show (-1 : Int) < 0 by omega) h
  | some q =>
    intro _
    exact ⟨q.2, q.1, rfl, List.mem_zipIdx_iff_getElem?.1 (List.mem_reverse.1 (List.mem_of_find?_eq_some hf)), List.find?_some hf⟩
/-- the window at a place of a window. -/
def atD (l : List DW) : Nat → Int → Int → Int → Int
  | 0, p, _, _ => p
  | f + 1, p, x, y => if lastHit (hitW p x y) l.zipIdx < 0 then p else
      atD l f (lastHit (hitW p x y) l.zipIdx) (x - ((l[(lastHit (hitW p x y) l.zipIdx).toNat]?).map DW.X).getD 0) (y - ((l[(lastHit (hitW p x y) l.zipIdx).toNat]?).map DW.Y).getD 0)
theorem hitW_up {p x y : Int} {d : DW} {i : Nat} (h : hitW p x y (d, i) = true) : d.P = p := by
  unfold hitW at h
  rw [Bool.and_eq_true, decide_eq_true_eq] at h
  exact h.1
theorem atD_no {f : Nat} {p x y : Int} (h : lastHit (hitW p x y) l.zipIdx < 0) : atD l (f + 1) p x y = p := by unfold atD; rw [if_pos h]
theorem atD_yes {f : Nat} {p x y : Int} {i : Nat} {d : DW} (h : lastHit (hitW p x y) l.zipIdx = (i : Int)) (hd : l[i]? = some d) : atD l (f + 1) p x y = atD l f i (x - d.X) (y - d.Y) := by
  show (if lastHit (hitW p x y) l.zipIdx < 0 then p else _) = _
  rw [if_neg (by omega), h, show ((i : Int)).toNat = i from by omega, hd]
  rfl
theorem atD_top (hu : UpOk l) : ∀ (f : Nat) (p x y : Int) (o : Int × Int), -1 ≤ p → orgN (nodesW l) (bxW RW RH l) (idW p) = o → idW (atD l f p x y) = topF (nodesW l) (bxW RW RH l) f (idW p) (x + o.1) (y + o.2)
  | 0, _, _, _, _, _, _ => rfl
  | f + 1, p, x, y, o, hp, ho => by
    rw [topW hu hp f x y o ho]
    by_cases hh : lastHit (hitW p x y) l.zipIdx < 0
    · rw [if_pos hh, atD_no hh]
    · rw [if_neg hh]
      obtain ⟨i, d, e, hd, hit⟩ := lastHit_is hh
      have hP := hitW_up hit
      have hou := orgW (RW := RW) (RH := RH) hu hd
      rw [hP, ho] at hou
      rw [atD_yes e hd, e, atD_top hu f i (x - d.X) (y - d.Y) _ (by omega) hou]
      congr 1
      · show x - d.X + (d.X + o.1) = _; omega
      · show y - d.Y + (d.Y + o.2) = _; omega
theorem atD_bd (hu : UpOk l) : ∀ (f : Nat) (p x y : Int), -1 ≤ p → p < (l.length : Int) → -1 ≤ atD l f p x y ∧ atD l f p x y < (l.length : Int)
  | 0, p, _, _, h1, h2 => ⟨h1, h2⟩
  | f + 1, p, x, y, h1, h2 => by
    by_cases hh : lastHit (hitW p x y) l.zipIdx < 0
    · rw [atD_no hh]; exact ⟨h1, h2⟩
    · obtain ⟨i, d, e, hd, _⟩ := lastHit_is hh
      have := (List.getElem?_eq_some_iff.1 hd).1
      rw [atD_yes e hd]
      exact atD_bd hu f i _ _ (by omega) (by omega)
/-- windows that are below one, itself ahead of them, kids from below to the top. -/
def blwD (l : List DW) : Nat → Int → List Int
  | 0, p => [p]
  | f + 1, p => p :: (l.zipIdx.filter (fun q => decide (q.1.P = p) && q.1.M)).flatMap fun q => blwD l f q.2
theorem nodup_len {α : Type} [BEq α] [LawfulBEq α] : ∀ {l m : List α}, l.Nodup → (∀ a ∈ l, a ∈ m) → l.length ≤ m.length
  | [], _, _, _ => Nat.zero_le _
  | a :: l, m, h, hs => by
    obtain ⟨h1, h2⟩ := List.nodup_cons.1 h
    have ha := hs a (by simp)
    have := nodup_len (m := m.erase a) h2 (fun b hb => (List.mem_erase_of_ne (fun e => by rw [e] at hb; exact h1 hb)).2 (hs b (List.mem_cons_of_mem _ hb)))
    rw [List.length_erase_of_mem ha] at this
    have := List.length_pos_of_mem ha
    simp only [List.length_cons]
    omega
/-- there are as many windows below the root as there are. -/
theorem below_lenW (hu : UpOk l) : l.length + 1 ≤ (belowAt (nodesW l) 1).length := by
  have h := nodup_len (l := 1 :: (nodesW l).map (·.1)) (m := belowAt (nodesW l) 1) ?_ ?_
  · simpa [nodesW_len] using h
  · refine List.nodup_cons.2 ⟨fun h1 => ?_, nodesW_nodup l⟩
    obtain ⟨q, hq, e⟩ := List.mem_map.1 h1
    exact (nodesW_ok hu).noroot q hq e
  · intro a ha
    rw [below_root (nodesW_ok hu)]
    rcases List.mem_cons.1 ha with rfl | h1
    · exact hasN_root _
    · obtain ⟨q, hq, rfl⟩ := List.mem_map.1 h1
      rw [hasN_iff]
      exact .inr ⟨q.2, upOf_mem (nodesW_nodup l) hq⟩
/-- the document's window at a place of the root is the topmost one. -/
theorem atD_root (hu : UpOk l) (x y : Int) : idW (atD l (belowAt (nodesW l) 1).length (-1) x y) = topN (nodesW l) (bxW RW RH l) x y := by
  rw [atD_top (RW := RW) (RH := RH) hu _ (-1) x y (0, 0) (by omega) (orgN_root (nodesW_ok hu))]
  unfold topN
  rw [idW_root]
  congr 1 <;> simp
end
end Go.Proofs.YtdaedkolpfkdjaaGreat
end

section
namespace Go.Proofs.YtdaedkolpfkdjaaGreat
open Go.RowKit Go.Maps Go.Shelf

abbrev bxS (RW RH : Nat) (l : List DW) : Int → Option VB := bxW (RW : Int) (RH : Int) l
abbrev esS (RW RH : Nat) (l : List DW) : List (Int × Places) := esN (nodesW l) (bxS RW RH l) (rectP RW RH)
abbrev ordS (RW RH : Nat) (l : List DW) : List Int := ordW (nodesW l) (bxS RW RH l) 1
/-- a view of windows. -/
structure SeenAt (w : World) (v : Value) (RW RH : Nat) (l : List DW) (og : Int → Int × Int) : Prop where
  is : ∃ A n c mv nm f, ViewIs w v A n c mv nm f (ordS RW RH l) (esS RW RH l) og RW RH
  org : ∀ i : Int, -1 ≤ i → i < (l.length : Int) → og (idW i) = orgN (nodesW l) (bxS RW RH l) (idW i)
theorem SeenAt.below {w w' : World} {v : Value} {RW RH : Nat} {l : List DW} {og : Int → Int × Int} (h : SeenAt w v RW RH l og) (hb : Below w.heap.size w w') : SeenAt w' v RW RH l og :=
  ⟨by
    obtain ⟨A, n, c, mv, nm, f, h1⟩ := h.is
    exact ⟨A, n, c, mv, nm, f, h1.below hb⟩, h.org⟩
section
variable {w : World} {v : Value} {RW RH : Nat} {l : List DW} {og : Int → Int × Int}
theorem len_area : ∀ {rs : List RC}, (∀ r ∈ rs, 0 < r.W ∧ 0 < r.H) → (rs.length : Int) ≤ areaS rs
  | [], _ => by simp [areaS]
  | r :: rs, h => by
    have h1 := h r (by simp)
    have h2 := len_area (rs := rs) (fun q hq => h q (List.mem_cons_of_mem _ hq))
    have h3 : 1 * 1 ≤ r.W * r.H := Int.mul_le_mul (by omega) (by omega) (by omega) (by omega)
    show ((rs.length + 1 : Nat) : Int) ≤ r.W * r.H + areaS rs
    omega
theorem sum_le {α : Type} (f : α → Nat) (B : Nat) : ∀ (l : List α), (∀ a ∈ l, f a ≤ B) → (l.map f).sum ≤ l.length * B
  | [], _ => by simp
  | a :: l, h => by
    have h1 := h a (by simp)
    have h2 := sum_le f B l (fun b hb => h b (List.mem_cons_of_mem _ hb))
    rw [List.map_cons, List.sum_cons, List.length_cons, Nat.add_mul]
    omega
theorem cntP_le (W H : Nat) (P : Places) : cntP W H P ≤ H * W := by
  unfold cntP
  have h := sum_le (fun (y : Nat) => (List.range W).countP fun (x : Nat) => P x y) W (List.range H) (fun a _ => by
    have := List.countP_le_length (p := fun (x : Nat) => P x a) (l := List.range W)
    simpa using this)
  simpa using h
theorem reg_few {u : Value} {out : List RC} {P : Places} (hR : RW ≤ 128 ∧ RH ≤ 128) (hr : RegAt w u out) (ha : areaL out = cntP RW RH P) : out.length ≤ 100000 := by
  have h1 := len_area hr.pos
  rw [← areaL_S, ha] at h1
  have h2 := cntP_le RW RH P
  have h3 : RH * RW ≤ 128 * 128 := Nat.mul_le_mul hR.2 hR.1
  omega
theorem SeenAt.clip (h : SeenAt w v RW RH l og) (i : Int) (hi : 0 ≤ i ∧ i ≤ 4294967295) :
    Calls Tryz.prog 31 #[v, .int .u32 i] w fun e w' => ∃ u out, e = .returned u ∧ RegAt w' u out ∧ (∀ x y, inB out x y = showB (esS RW RH l) x y i) ∧ areaL out = cntP RW RH (fun x y => showB (esS RW RH l) x y i) ∧ out.length ≤ 100000 ∧ Below w.heap.size w w' := by
  obtain ⟨A, n, c, mv, nm, f, hv⟩ := h.is
  refine (vclip_any i hi hv).mono ?_
  rintro e w' ⟨u, out, rfl, hr, hp, hb⟩
  have ha : areaL out = cntP RW RH (fun x y => showB (esS RW RH l) x y i) := by
    obtain ⟨_, _, _, _, hc, _⟩ := hr
    exact hv.area (a := 0) (b := 0) hc (fun x y => by rw [hp]; congr 1 <;> omega)
  exact ⟨u, out, rfl, hr, hp, ha, reg_few hv.side hr ha, hb⟩
end
end Go.Proofs.YtdaedkolpfkdjaaGreat
end

section
namespace Go.Proofs.YtdaedkolpfkdjaaGreat
open Go.RowKit Go.Maps Go.Shelf

/-- a view of a tree and boxes. -/
structure SeenG (w : World) (v : Value) (RW RH : Nat) (ns : Nodes) (bx : Int → Option VB) (og : Int → Int × Int) : Prop where
  is : ∃ A n c mv nm f, ViewIs w v A n c mv nm f (ordW ns bx 1) (esN ns bx (rectP RW RH)) og RW RH
  org : ∀ k : Int, hasN ns k = true → og k = orgN ns bx k
theorem SeenG.below {w w' : World} {v : Value} {RW RH : Nat} {ns : Nodes} {bx : Int → Option VB} {og : Int → Int × Int} (h : SeenG w v RW RH ns bx og) (hb : Below w.heap.size w w') : SeenG w' v RW RH ns bx og :=
  ⟨by
    obtain ⟨A, n, c, mv, nm, f, h1⟩ := h.is
    exact ⟨A, n, c, mv, nm, f, h1.below hb⟩, h.org⟩
section
variable {W : World} {bs : Bxs} {RW RH : Int} {l : List DW} {ns : Nodes}
def nearS (bs : Bxs) : Prop := ∀ i b, bs i = some b → (-200 ≤ b.X ∧ b.X ≤ 200) ∧ (-200 ≤ b.Y ∧ b.Y ≤ 200)
theorem nearS_sum {bs : Bxs} (h : nearS bs) (l : List Int) : (-200 * (l.length : Int) ≤ sumX bs l ∧ sumX bs l ≤ 200 * (l.length : Int)) ∧ (-200 * (l.length : Int) ≤ sumY bs l ∧ sumY bs l ≤ 200 * (l.length : Int)) := by
  induction l with
  | nil => simp [sumX, sumY]
  | cons w l ih =>
    have hb : (-200 ≤ ((bs w).getD zBX).X ∧ ((bs w).getD zBX).X ≤ 200) ∧ (-200 ≤ ((bs w).getD zBX).Y ∧ ((bs w).getD zBX).Y ≤ 200) := by
      cases hb : bs w with
      | none => simp [zBX]
      | some b => exact h w b hb
    have e1 : sumX bs (w :: l) = (if w = 1 then 0 else ((bs w).getD zBX).X) + sumX bs l := by simp [sumX]
    have e2 : sumY bs (w :: l) = (if w = 1 then 0 else ((bs w).getD zBX).Y) + sumY bs l := by simp [sumY]
    rw [e1, e2]
    simp only [List.length_cons]
    split <;> omega
theorem nearS_of (hn : nearS bs) (hok : TreeOk ns) (hl : ns.length ≤ 1000) (k : Int) : (-900000 ≤ orgX ns bs k ∧ orgX ns bs k ≤ 900000) ∧ -900000 ≤ orgY ns bs k ∧ orgY ns bs k ≤ 900000 := by
  unfold orgX orgY
  cases Go.Proofs.YtdaedkolpfkdjaaGreat.orgOk ns bs k with
  | false => simp
  | true =>
    have h1 := nearS_sum hn (pathN ns k)
    have h2 := path_len hok k
    simp only [if_true]
    omega
theorem SceneIs.nearS (h : SceneIs W bs RW RH l) (hok : ∀ d ∈ l, DWok d) : nearS bs := fun k b hk => by
  rcases h.box hk with ⟨_, rfl⟩ | ⟨i, d, hd, _, ⟨e1, e2, _⟩, _⟩
  · simp [rootBX]
  · have hD := hok d (List.mem_of_getElem? hd)
    have h1 := hD.x
    have h2 := hD.y
    rw [e1, e2]
    omega
theorem SceneIs.some (h : SceneIs W bs RW RH l) {k : Int} (hk : hasN (nodesW l) k = true) : (bs k).isSome = true := by
  obtain ⟨n, h1, h2, rfl⟩ := hasW_inv hk
  by_cases hn : n < 0
  · obtain rfl : n = -1 := by omega
    rw [idW_root, h.root]
    rfl
  · obtain ⟨i, rfl⟩ : ∃ i : Nat, n = (i : Int) := ⟨n.toNat, by omega⟩
    obtain ⟨b, e, _⟩ := h.each i _ (List.getElem?_eq_getElem (by omega))
    rw [e]
    rfl
theorem orgOk_of (hok : TreeOk ns) (hs : ∀ k, hasN ns k = true → (bs k).isSome = true) {k : Int} (hk : hasN ns k = true) : orgOk ns bs k = true := by
  unfold orgOk
  rw [hk, Bool.true_and]
  unfold allB
  rw [List.all_eq_true]
  exact fun x hx => hs x (path_has hok hx)
end
theorem seenG_of {mk mu mp : Option Nat} {nk n : Nat} {fk : Int → Option Value} {bs : Bxs} {RW RH : Nat} {l : List DW} {ns : Nodes} (w : World) (hT : TreeIs w (.agg #[.map mk, .map mu]) ns mk mu nk fk) (hP : PlaceIs w (.agg #[.map mp]) n bs) (hS : SceneIs w bs RW RH l) (tok : TreeOk ns)
    (hsub : ∀ k, hasN ns k = true → hasN (nodesW l) k = true) (hok : ∀ d ∈ l, DWok d) (hl : ns.length ≤ 1000) (hR : (1 ≤ RW ∧ RW ≤ 128) ∧ 1 ≤ RH ∧ RH ≤ 128) :
    Calls Tryz.prog 25 #[.agg #[.map mk, .map mu], .agg #[.map mp]] w fun e w' => ∃ v og, e = .returned v ∧ SeenG w' v RW RH ns (bxS RW RH l) og ∧ Below w.heap.size w w' := by
  have hRI : (1 ≤ (RW : Int) ∧ (RW : Int) ≤ 128) ∧ 1 ≤ (RH : Int) ∧ (RH : Int) ≤ 128 := by omega
  have hrel := hS.rel hok hRI
  refine (viewOf_any mp mk mu n nk fk ns bs (bxS RW RH l) RW RH w hT hP tok hrel (hS.sides hok hRI) (hS.nearb hok) (nearS_of (hS.nearS hok) tok hl) hR hS.root).mono ?_
  rintro e w' ⟨v, A, n, c, mv, nm, f, rfl, hv, hb⟩
  exact ⟨v, _, rfl, ⟨⟨A, n, c, mv, nm, f, hv⟩, fun k hk => (orgN_eq hrel (orgOk_of tok (fun j hj => hS.some (hsub j hj)) hk)).symm⟩, hb⟩
section
variable {w : World} {v : Value} {RW RH : Nat} {ns : Nodes} {bx : Int → Option VB} {og : Int → Int × Int}
theorem SeenG.form (h : SeenG w v RW RH ns bx og) : ∃ A n c mv, v = .agg #[.slice A n c, .map mv] := by
  obtain ⟨A, n, c, mv, nm, f, hv⟩ := h.is
  exact ⟨A, n, c, mv, hv.shape⟩
/-- where a window begins, as a view of it tells. -/
def ogG (ns : Nodes) (bx : Int → Option VB) (i : Int) : Int × Int := if hasN ns i && vw ns bx i then orgN ns bx i else (0, 0)
theorem SeenG.og_eq (h : SeenG w v RW RH ns bx og) (hn : TreeOk ns) (i : Int) : ogV (esN ns bx (rectP RW RH)) og i = ogG ns bx i := by
  unfold ogV ogG
  rw [look_some hn]
  cases hh : hasN ns i with
  | false => rfl
  | true =>
    rw [h.org i hh]
/-- what a window shows, place by place of the root. -/
def shG (RW RH : Nat) (ns : Nodes) (bx : Int → Option VB) (x y i : Int) : Bool := rectP RW RH x y && decide (i = topN ns bx x y)
theorem SeenG.clip (h : SeenG w v RW RH ns bx og) (hn : TreeOk ns) (i : Int) (hi : 0 ≤ i ∧ i ≤ 4294967295) :
    Calls Tryz.prog 31 #[v, .int .u32 i] w fun e w' => ∃ u out, e = .returned u ∧ RegAt w' u out ∧ (∀ x y, inB out x y = shG RW RH ns bx x y i) ∧ areaL out = cntP RW RH (fun x y => shG RW RH ns bx x y i) ∧ out.length ≤ 100000 ∧ Below w.heap.size w w' := by
  obtain ⟨A, n, c, mv, nm, f, hv⟩ := h.is
  refine (vclip_any i hi hv).mono ?_
  rintro e w' ⟨u, out, rfl, hr, hp, hb⟩
  have hp2 : ∀ x y, inB out x y = shG RW RH ns bx x y i := fun x y => by rw [hp, show_at hn]; rfl
  have ha : areaL out = cntP RW RH (fun x y => showB (esN ns bx (rectP RW RH)) x y i) := by
    obtain ⟨_, _, _, _, hc, _⟩ := hr
    exact hv.area (a := 0) (b := 0) hc (fun x y => by rw [hp]; congr 1 <;> omega)
  refine ⟨u, out, rfl, hr, hp2, ?_, reg_few hv.side hr ha, hb⟩
  rw [ha]
  exact congrArg (fun P : Places => ((cntP RW RH P : Nat) : Int)) (funext fun x => funext fun y => show_at (bx := bx) hn (rectP RW RH) x y i)
end
end Go.Proofs.YtdaedkolpfkdjaaGreat
end

section
namespace Go.Proofs.YtdaedkolpfkdjaaGreat
open Go.RowKit Go.Maps Go.Shelf

/-- a window that is made. -/
structure PN34 where
  U : Int
  X : Int
  Y : Int
  W : Int
  H : Int
  M : Bool
  S : Bool
  A : Option Addr
  n : Nat
  c : Nat
  I : Int
  sh : List RC
def PN34.cells (p : PN34) : List Value := [.int .u8 p.U, .int .i8 p.X, .int .i8 p.Y, .int .u8 p.W, .int .u8 p.H, .bool p.M, .bool p.S, .slice p.A p.n p.c, .int .u8 p.I]
theorem PN34.cells_len (p : PN34) : p.cells.length = 9 := rfl
structure PN34.ok (p : PN34) : Prop where
  u : 0 ≤ p.U ∧ p.U ≤ 255
  x : -128 ≤ p.X ∧ p.X ≤ 127
  y : -128 ≤ p.Y ∧ p.Y ≤ 127
  w : 0 ≤ p.W ∧ p.W ≤ 255
  h : 0 ≤ p.H ∧ p.H ≤ 255
  i : 0 ≤ p.I ∧ p.I ≤ 255
  n : p.n ≤ maxLen
/-- the windows that came in. -/
structure RdP34 (w : World) (A : Option Addr) (n : Nat) (ps : List PN34) : Prop where
  recs : RdF PN34.cells 9 w A n ps
  shapes : ∀ p ∈ ps, RdR w p.A p.n p.sh
theorem RdP34.below {w w' : World} {A : Option Addr} {n : Nat} {ps : List PN34} (h : RdP34 w A n ps) (hb : Below w.heap.size w w') : RdP34 w' A n ps := ⟨h.recs.below hb, fun p hp => (h.shapes p hp).below hb⟩
/-- one of the document's windows. -/
structure R34 where
  U : Int
  X : Int
  Y : Int
  W : Nat
  H : Nat
  M : Bool
  S : Bool
  A : Option Addr
  n : Nat
  c : Nat
  Ap : Option Addr
  np : Nat
  cp : Nat
  sh : List RC
  px : List Int
def R34.cells (d : R34) : List Value := [.int .i64 d.U, .int .i64 d.X, .int .i64 d.Y, .int .i64 d.W, .int .i64 d.H, .bool d.M, .bool d.S, .slice d.A d.n d.c, .slice d.Ap d.np d.cp]
theorem R34.cells_len (d : R34) : d.cells.length = 9 := rfl
def R34.dw (d : R34) : DW := ⟨d.U - 1, d.X, d.Y, d.W, d.H, d.M, d.S, d.A, d.n, d.c, d.sh⟩
def dws (l : List R34) : List DW := l.tail.map R34.dw
/-- the document's window of the i-th that is made. -/
structure Like34 (i : Nat) (p : PN34) (d : R34) : Prop where
  U : d.U = if i = 0 then -1 else p.U % (i : Int)
  X : d.X = if i = 0 then 0 else p.X
  Y : d.Y = if i = 0 then 0 else p.Y
  W : (d.W : Int) = p.W % 16 + 1
  H : (d.H : Int) = p.H % 16 + 1
  M : d.M = (decide (i = 0) || p.M)
  S : d.S = (!decide (i = 0) && p.S)
  sh : d.sh = if d.S then p.sh else []
  px : d.px = inkL d.W (d.W * d.H) p.I
  np : d.np = d.W * d.H
  small : p.sh.length ≤ 6 ∧ ∀ r ∈ p.sh, SmallR r
theorem Like34.bounds {i : Nat} {p : PN34} {d : R34} (h : Like34 i p d) : (1 ≤ d.W ∧ d.W ≤ 16) ∧ 1 ≤ d.H ∧ d.H ≤ 16 := by
  have h1 := h.W
  have h2 := h.H
  omega
theorem Like34.dw_ok {i : Nat} {p : PN34} {d : R34} (h : Like34 i p d) (hp : p.ok) : DWok d.dw := by
  have hb := h.bounds
  have hx := h.X
  have hy := h.Y
  have h1 := hp.x
  have h2 := hp.y
  refine ⟨?_, ?_, ?_, ?_, fun hS => ?_, ?_, fun r hr => ?_⟩
  · show -200 ≤ d.X ∧ d.X ≤ 200
    rw [hx]; split <;> omega
  · show -200 ≤ d.Y ∧ d.Y ≤ 200
    rw [hy]; split <;> omega
  · show 1 ≤ (d.W : Int) ∧ (d.W : Int) ≤ 128
    omega
  · show 1 ≤ (d.H : Int) ∧ (d.H : Int) ≤ 128
    omega
  · show d.sh = []
    rw [h.sh]
    have : d.S = false := hS
    rw [this]
    rfl
  · show d.sh.length ≤ 12
    rw [h.sh]
    have := h.small.1
    split
    · omega
    · simp
  · have hr' : r ∈ d.sh := hr
    rw [h.sh] at hr'
    split at hr'
    · exact h.small.2 r hr'
    · cases hr'
/-- the tree, the place, the canvas. -/
def MT (W : World) (l : List R34) (mk mu : Option Nat) : Prop := ∃ nk fk, TreeIs W (.agg #[.map mk, .map mu]) (nodesW (dws l)) mk mu nk fk
def MP (W : World) (l : List R34) (mp : Option Nat) (RW RH : Int) : Prop := (l = [] ∧ mp = none) ∨ (l ≠ [] ∧ ∃ bs, PlaceIs W (.agg #[.map mp]) l.length bs ∧ SceneIs W bs RW RH (dws l))
def MC (W : World) (l : List R34) (mc : Option Nat) : Prop := ∃ cs, CanvasIs W (.agg #[.map mc]) l.length cs ∧ (∀ (j : Nat) (d : R34), l[j]? = some d → ∃ it : IT, cs (idW ((j : Int) - 1)) = some it ∧ it.W = d.W ∧ it.H = d.H ∧ it.px = d.px) ∧ ∀ k it, cs k = some it → ∃ j : Nat, j < l.length ∧ k = idW ((j : Int) - 1)
def MX (W : World) (l : List R34) : Prop := ∀ d ∈ l, Rd W d.Ap d.np (Gr.U8 d.px)
section
variable {W W' : World} {l : List R34} {mk mu mp mc : Option Nat} {RW RH : Int}
theorem MT.below (h : MT W l mk mu) (hb : Below W.heap.size W W') : MT W' l mk mu := by
  obtain ⟨nk, fk, h⟩ := h
  exact ⟨nk, fk, h.below hb⟩
theorem MP.below (h : MP W l mp RW RH) (hb : Below W.heap.size W W') : MP W' l mp RW RH := by
  rcases h with h | ⟨h1, bs, h2, h3⟩
  · exact .inl h
  · exact .inr ⟨h1, bs, h2.below hb, h3.below hb⟩
theorem MC.below (h : MC W l mc) (hb : Below W.heap.size W W') : MC W' l mc := by
  obtain ⟨cs, h1, h2, h3⟩ := h
  exact ⟨cs, h1.below hb, h2, h3⟩
theorem MX.below (h : MX W l) (hb : Below W.heap.size W W') : MX W' l := fun d hd => (h d hd).below hb
/-- a block in which there is no number. -/
def NoI (cs : Array Value) : Prop := ∀ (j : Nat) (k : IntKind) (x : Int), cs[j]? ≠ some (.int k x)
theorem noI5 (a b c d : Option Nat) (A : Option Addr) (n m : Nat) : NoI #[.map a, .map b, .map c, .map d, .slice A n m] := fun j k x => by
  match j with
  | 0 => simp
  | 1 => simp
  | 2 => simp
  | 3 => simp
  | 4 => simp
  | j + 5 => simp
theorem noI_blk {g : Nat} {t : TypeId} {cs : Array Value} (h : Blk W g t cs) (hn : NoI cs) : NoInt W g := fun o k i e => by
  rw [h.cell] at e
  exact hn o k i e
theorem MT.set (h : MT W l mk mu) {g : Nat} {t : TypeId} {cs : Array Value} (hB : Blk W g t cs) (hn : NoI cs) (i : Nat) (u : Value) : MT (W.setCell ⟨g, i, none⟩ u) l mk mu := by
  obtain ⟨nk, fk, h⟩ := h
  exact ⟨nk, fk, h.setBlk hB (fun j x => hn j .u32 x) i u⟩
theorem MP.set (h : MP W l mp RW RH) {g : Nat} {t : TypeId} {cs : Array Value} (hB : Blk W g t cs) (hn : NoI cs) (i : Nat) (u : Value) : MP (W.setCell ⟨g, i, none⟩ u) l mp RW RH := by
  rcases h with h | ⟨h1, bs, h2, h3⟩
  · exact .inl h
  · exact .inr ⟨h1, bs, h2.setBlk hB i u, h3.keepG (grown_setCell W ⟨g, i, none⟩ u) (noI_blk hB hn)⟩
theorem MC.set (h : MC W l mc) {g : Nat} {t : TypeId} {cs : Array Value} (hB : Blk W g t cs) (hn : NoI cs) (i : Nat) (u : Value) : MC (W.setCell ⟨g, i, none⟩ u) l mc := by
  obtain ⟨cs, h1, h2, h3⟩ := h
  exact ⟨cs, h1.setX hB hn i u, h2, h3⟩
theorem MX.set (h : MX W l) {g : Nat} {t : TypeId} {cs : Array Value} (hB : Blk W g t cs) (hn : NoI cs) (i : Nat) (u : Value) : MX (W.setCell ⟨g, i, none⟩ u) l := fun d hd => rd_noint (h d hd) hB hn i u
theorem mt_nil (W : World) : MT W [] none none := ⟨0, fun _ => none, tree_new W⟩
end
/-- what Make gives. -/
structure Made34 (W : World) (v : Value) (ps : List PN34) (l : List R34) (mk mu mp mc : Option Nat) (A : Option Addr) (c : Nat) (RW RH : Nat) : Prop where
  shape : v = .agg #[.map mk, .map mu, .map mp, .map mc, .slice A l.length c]
  tree : MT W l mk mu
  place : MP W l mp RW RH
  canvas : MC W l mc
  recs : RdF R34.cells 9 W A l.length l
  shapes : ∀ d ∈ l, RdR W d.A d.n d.sh
  pix : MX W l
  len : l.length = ps.length
  few : 1 ≤ l.length ∧ l.length ≤ 7
  like : ∀ (j : Nat) (p : PN34) (d : R34), ps[j]? = some p → l[j]? = some d → Like34 j p d
  root : ∃ d, l[0]? = some d ∧ d.W = RW ∧ d.H = RH
theorem Made34.below {W W' : World} {v : Value} {ps : List PN34} {l : List R34} {mk mu mp mc : Option Nat} {A : Option Addr} {c RW RH : Nat} (h : Made34 W v ps l mk mu mp mc A c RW RH) (hb : Below W.heap.size W W') : Made34 W' v ps l mk mu mp mc A c RW RH :=
  ⟨h.shape, h.tree.below hb, h.place.below hb, h.canvas.below hb, h.recs.below hb, fun d hd => (h.shapes d hd).below hb, h.pix.below hb, h.len, h.few, h.like, h.root⟩
end Go.Proofs.YtdaedkolpfkdjaaGreat
end

section
namespace Go.Proofs.YtdaedkolpfkdjaaGreat
open Go.ChangeShapes Go.WideShapes Go.ChangeAt Go.RowKit Go.Joins

section
variable {H : Type} {enc : TypeId × Value → H} {P : Program} {w : World} {base : Nat} {spare : Nat → Bool} {held : Bool} {α : Type}
theorem open_recs [Inhabited α] (f : α → List Value) (m : Nat) (hm : 0 < m) (Q : α → Prop) {t e : TypeId} {fuel : Nat} {v : Value} {y : DataW H × List MemPlace} (ht : P.underlying t = some (.slice e)) (hc : P.cellsOf e = m) (hfl : ∀ x, (f x).length = m)
    (hone : ∀ (cs : List Value) (n : Nat) (z : DataW H × List MemPlace), cs.length = m → DataW.trod enc P w base spare held n e cs = some z → ∃ x, cs = f x ∧ Q x) (h : DataW.trod enc P w base spare held fuel t [v] = some y) :
    ∃ (A : Option Addr) (n c : Nat) (l : List α), v = .slice A n c ∧ n ≤ maxLen ∧ RdF f m w A n l ∧ ∀ x ∈ l, Q x := by
  rcases Deep.open_slice ht h with ⟨h0, _⟩ | ⟨a, len, cap, mm, n, D, Pl, hcs, _, hl, hcap, hmm, _, hx⟩
  · simp at h0
    exact ⟨none, 0, 0, [], h0, Nat.zero_le _, RdF.nil _ _ _ _, by simp⟩
  · simp at hcs
    have hlm : len ≤ mm := by rw [hmm]; split <;> omega
    have each : ∀ k, k < len → ∃ x : α, (∀ i u, (f x)[i]? = some u → w.cell? ((a.add (k * m)).add i) = some u) ∧ Q x := fun k hk => by
      obtain ⟨cs', h1, h2⟩ := hx k (by omega)
      rw [hc] at h1
      obtain ⟨_, hlen, hat⟩ := World.cells?_some h1
      obtain ⟨x, rfl, hq⟩ := hone cs' n _ hlen h2
      refine ⟨x, fun i u hu => ?_, hq⟩
      have hi : i < m := by have := (List.getElem?_eq_some_iff.1 hu).1; rwa [hfl] at this
      rw [hat i hi, hu]
    obtain ⟨g, hg⟩ := Deep.choose_lt each
    refine ⟨some a, len, cap, (List.range len).map g, hcs, by omega, ⟨by simp, fun hn => ?_⟩, fun x hx' => ?_⟩
    · have hf0 : ∃ u, (f (g 0))[0]? = some u := ⟨_, List.getElem?_eq_getElem (by rw [hfl]; exact hm)⟩
      obtain ⟨u0, hu0⟩ := hf0
      have h0 := (hg 0 hn).1 0 u0 hu0
      have hs : a.spot = none := by simpa [Addr.add] using World.cell?_spot h0
      obtain ⟨b, off, spot⟩ := a
      simp only at hs
      subst hs
      have hadd : ∀ o k, (⟨b, o, none⟩ : Addr).add k = ⟨b, o + k, none⟩ := fun o k => by
        unfold Addr.add
        split
        · rename_i h; subst h; rfl
        · rfl
      refine ⟨b, off, rfl, block_lt_of_cell (by rw [hadd, hadd] at h0; exact h0), fun k x hk i u hu => ?_⟩
      have hkl : k < len := by have := (List.getElem?_eq_some_iff.1 hk).1; simpa using this
      have hx' : g k = x := by simpa [List.getElem?_range hkl] using hk
      have := (hg k hkl).1 i u (by rw [hx']; exact hu)
      rwa [hadd, hadd] at this
    · obtain ⟨k, hk, rfl⟩ := List.mem_map.1 hx'
      exact (hg k (by simpa using hk)).2
end

theorem rdR_ofF {w : World} {A : Option Addr} {n : Nat} {rs : List RC} (h : RdF RC.cells 4 w A n rs) : RdR w A n rs :=
  ⟨h.1, fun hn => by
    obtain ⟨b, off, e, hb, hc⟩ := h.2 hn
    exact ⟨b, off, e, hb, fun k r hk => ⟨hc k r hk 0 _ rfl, hc k r hk 1 _ rfl, hc k r hk 2 _ rfl, hc k r hk 3 _ rfl⟩⟩⟩
theorem bounds_i64 {n : Int} (h : (Lit.int .i64 n).wf = true) : n ≤ 9223372036854775807 := by
  simp [Lit.wf, IntKind.min, IntKind.max, IntKind.signed, IntKind.bits] at h
  omega
instance : Inhabited RC := ⟨⟨0, 0, 0, 0⟩⟩

instance : Inhabited PN34 := ⟨⟨0, 0, 0, 0, 0, false, false, none, 0, 0, 0, []⟩⟩
section
variable {H : Type} {enc : TypeId × Value → H} {w : World} {base : Nat} {spare : Nat → Bool} {held : Bool}
set_option maxRecDepth 100000 in
theorem and_i {a b : Bool} (h1 : a = true) (h2 : b = true) : (a && b) = true := by rw [h1, h2]; rfl
set_option maxRecDepth 100000 in
theorem Tryz.cellsRc4 : Tryz.prog.cellsOf 103 = 4 := by kernel_rfl
set_option maxRecDepth 100000 in
theorem Tryz.cellsI : Tryz.prog.cellsOf 3 = 1 := by kernel_rfl
set_option maxRecDepth 100000 in
theorem Tryz.cellsBl : Tryz.prog.cellsOf 4 = 1 := by kernel_rfl
set_option maxRecDepth 100000 in
theorem Tryz.cellsRcs : Tryz.prog.cellsOf 31 = 1 := by kernel_rfl
set_option maxRecDepth 100000 in
theorem Tryz.cellsU8 : Tryz.prog.cellsOf 5 = 1 := by kernel_rfl
set_option maxRecDepth 100000 in
theorem Tryz.cellsI8 : Tryz.prog.cellsOf 83 = 1 := by kernel_rfl
set_option maxRecDepth 100000 in
theorem Tryz.cellsW34 : Tryz.prog.cellsOf 85 = 9 := by kernel_rfl
set_option maxRecDepth 100000 in

theorem open_rects {fuel : Nat} {v : Value} {y : DataW H × List MemPlace} (h : DataW.trod enc Tryz.prog w base spare held fuel 31 [v] = some y) :
    ∃ (A : Option Addr) (n c : Nat) (rs : List RC), v = .slice A n c ∧ n ≤ maxLen ∧ RdR w A n rs ∧ ∀ r ∈ rs, r.X ≤ 9223372036854775807 ∧ r.Y ≤ 9223372036854775807 := by
  obtain ⟨A, n, c, l, e1, e2, hr, hq⟩ := open_recs RC.cells 4 (by decide) (fun r => r.X ≤ 9223372036854775807 ∧ r.Y ≤ 9223372036854775807) Tryz.underlying31 Tryz.cellsRc4 (fun _ => rfl) (fun cs m z hl hz => by
    match cs, hl, hz with
    | [c0, c1, c2, c3], _, hz =>
      obtain ⟨y0, y1, y2, y3, n', _, _, g0, g1, g2, g3⟩ := trod_struct4 Tryz.underlying103 hz
      dsimp only at g0 g1 g2 g3
      rw [Tryz.cellsI] at g0 g1 g2 g3
      obtain ⟨x0, e0, _, w0⟩ := DataW.trod_int Tryz.underlying3 g0
      obtain ⟨x1, e1, _, w1⟩ := DataW.trod_int Tryz.underlying3 g1
      obtain ⟨x2, e2, _, _⟩ := DataW.trod_int Tryz.underlying3 g2
      obtain ⟨x3, e3, _, _⟩ := DataW.trod_int Tryz.underlying3 g3
      simp at e0 e1 e2 e3
      subst e0 e1 e2 e3
      exact ⟨⟨x0, x1, x2, x3⟩, rfl, bounds_i64 w0, bounds_i64 w1⟩) h
  exact ⟨A, n, c, l, e1, e2, rdR_ofF hr, hq⟩

set_option maxRecDepth 100000 in
/-- a window, opened. -/
theorem open_win34 {cs : List Value} {n : Nat} {z : DataW H × List MemPlace} (hl : cs.length = 9) (hz : DataW.trod enc Tryz.prog w base spare held n 85 cs = some z) : ∃ p : PN34, cs = p.cells ∧ p.ok ∧ RdR w p.A p.n p.sh := by
  obtain ⟨xs, n', _, _, _, hxl, hel⟩ := DataW.trod_struct Tryz.underlying85 hz
  match cs, hl, hel with
  | [c0, c1, c2, c3, c4, c5, c6, c7, c8], _, hel =>
    have hxl' : xs.length = 9 := hxl
    have k0 : DataW.trod enc Tryz.prog w base spare held n' 5 (([c0, c1, c2, c3, c4, c5, c6, c7, c8].drop 0).take (Tryz.prog.cellsOf 5)) = xs[0]? := hel 0 _ rfl
    rw [show xs[0]? = some xs[0] from List.getElem?_eq_getElem (by omega)] at k0
    rw [Tryz.cellsU8] at k0
    have k1 : DataW.trod enc Tryz.prog w base spare held n' 83 (([c0, c1, c2, c3, c4, c5, c6, c7, c8].drop 1).take (Tryz.prog.cellsOf 83)) = xs[1]? := hel 1 _ rfl
    rw [show xs[1]? = some xs[1] from List.getElem?_eq_getElem (by omega)] at k1
    rw [Tryz.cellsI8] at k1
    have k2 : DataW.trod enc Tryz.prog w base spare held n' 83 (([c0, c1, c2, c3, c4, c5, c6, c7, c8].drop 2).take (Tryz.prog.cellsOf 83)) = xs[2]? := hel 2 _ rfl
    rw [show xs[2]? = some xs[2] from List.getElem?_eq_getElem (by omega)] at k2
    rw [Tryz.cellsI8] at k2
    have k3 : DataW.trod enc Tryz.prog w base spare held n' 5 (([c0, c1, c2, c3, c4, c5, c6, c7, c8].drop 3).take (Tryz.prog.cellsOf 5)) = xs[3]? := hel 3 _ rfl
    rw [show xs[3]? = some xs[3] from List.getElem?_eq_getElem (by omega)] at k3
    rw [Tryz.cellsU8] at k3
    have k4 : DataW.trod enc Tryz.prog w base spare held n' 5 (([c0, c1, c2, c3, c4, c5, c6, c7, c8].drop 4).take (Tryz.prog.cellsOf 5)) = xs[4]? := hel 4 _ rfl
    rw [show xs[4]? = some xs[4] from List.getElem?_eq_getElem (by omega)] at k4
    rw [Tryz.cellsU8] at k4
    have k5 : DataW.trod enc Tryz.prog w base spare held n' 4 (([c0, c1, c2, c3, c4, c5, c6, c7, c8].drop 5).take (Tryz.prog.cellsOf 4)) = xs[5]? := hel 5 _ rfl
    rw [show xs[5]? = some xs[5] from List.getElem?_eq_getElem (by omega)] at k5
    rw [Tryz.cellsBl] at k5
    have k6 : DataW.trod enc Tryz.prog w base spare held n' 4 (([c0, c1, c2, c3, c4, c5, c6, c7, c8].drop 6).take (Tryz.prog.cellsOf 4)) = xs[6]? := hel 6 _ rfl
    rw [show xs[6]? = some xs[6] from List.getElem?_eq_getElem (by omega)] at k6
    rw [Tryz.cellsBl] at k6
    have k7 : DataW.trod enc Tryz.prog w base spare held n' 31 (([c0, c1, c2, c3, c4, c5, c6, c7, c8].drop 7).take (Tryz.prog.cellsOf 31)) = xs[7]? := hel 7 _ rfl
    rw [show xs[7]? = some xs[7] from List.getElem?_eq_getElem (by omega)] at k7
    rw [Tryz.cellsRcs] at k7
    have k8 : DataW.trod enc Tryz.prog w base spare held n' 5 (([c0, c1, c2, c3, c4, c5, c6, c7, c8].drop 8).take (Tryz.prog.cellsOf 5)) = xs[8]? := hel 8 _ rfl
    rw [show xs[8]? = some xs[8] from List.getElem?_eq_getElem (by omega)] at k8
    rw [Tryz.cellsU8] at k8
    obtain ⟨x0, e0, _, w0⟩ := DataW.trod_int Tryz.underlying5 k0
    obtain ⟨x1, e1, _, w1⟩ := DataW.trod_int Tryz.underlying83 k1
    obtain ⟨x2, e2, _, w2⟩ := DataW.trod_int Tryz.underlying83 k2
    obtain ⟨x3, e3, _, w3⟩ := DataW.trod_int Tryz.underlying5 k3
    obtain ⟨x4, e4, _, w4⟩ := DataW.trod_int Tryz.underlying5 k4
    obtain ⟨x5, e5, _⟩ := DataW.trod_bool Tryz.underlying4 k5
    obtain ⟨x6, e6, _⟩ := DataW.trod_bool Tryz.underlying4 k6
    obtain ⟨A, m, c, rs, e7, hm, hr, _⟩ := open_rects (v := c7) k7
    obtain ⟨x8, e8, _, w8⟩ := DataW.trod_int Tryz.underlying5 k8
    simp at e0 e1 e2 e3 e4 e5 e6 e8
    subst e0 e1 e2 e3 e4 e5 e6 e7 e8
    exact ⟨⟨x0, x1, x2, x3, x4, x5, x6, A, m, c, x8, rs⟩, rfl, ⟨bounds_u8 w0, bounds_i8 w1, bounds_i8 w2, bounds_u8 w3, bounds_u8 w4, bounds_u8 w8, hm⟩, hr⟩
/-- a slice of windows. -/
theorem open_wins34 {fuel : Nat} {v : Value} {y : DataW H × List MemPlace} (h : DataW.trod enc Tryz.prog w base spare held fuel 64 [v] = some y) :
    ∃ (A : Option Addr) (n c : Nat) (l : List PN34), v = .slice A n c ∧ n ≤ maxLen ∧ RdP34 w A n l ∧ ∀ p ∈ l, p.ok := by
  obtain ⟨A, n, c, l, e1, e2, hr, hq⟩ := open_recs PN34.cells 9 (by decide) (fun p => p.ok ∧ RdR w p.A p.n p.sh) Tryz.underlying64 Tryz.cellsW34 (fun _ => rfl) (fun _ _ _ hl hz => open_win34 hl hz) h
  exact ⟨A, n, c, l, e1, e2, ⟨hr, fun p hp => (hq p hp).2⟩, fun p hp => (hq p hp).1⟩
end
end Go.Proofs.YtdaedkolpfkdjaaGreat
end
