/-
  The document's answers of a scene, plainly: the window at a place, where one begins, which are viewable, and their order.
  A view of the document's windows, as its laws use it.
  A view of any tree whose windows' boxes are the document's, as the laws use it.
  The windows of glazierlaw37, plainly: as the document's scenes; which of them show; where a focus goes.
  What glazierlaw37.made holds while it makes windows, and how each step keeps it.
  The walks of focus: Set, Lost, Way; and the document's.
-/
import Derived.Test.YtbkkecijcijhdaaGreatZF23
import Derived.Test.YtbkkecijcijhdaaGreatZF28
import Derived.Test.YtbkkecijcijhdaaGreatZF25
import Derived.Test.YtbkkecijcijhdaaGreatZF07
import Derived.Test.YtbkkecijcijhdaaGreatShelf
section
namespace Go.Proofs.YtbkkecijcijhdaaGreat

section
variable {l : List DW} {RW RH : Int}
theorem lastHit_is {hit : DW × Nat → Bool} : ¬ (lastHit hit l.zipIdx < 0) → ∃ (i : Nat) (d : DW), lastHit hit l.zipIdx = (i : Int) ∧ l[i]? = some d ∧ hit (d, i) = true := by
  unfold lastHit
  cases hf : l.zipIdx.reverse.find? hit with
  | none => intro h; exact absurd (show (-1 : Int) < 0 by omega) h
  | some q =>
    intro _
    exact ⟨q.2, q.1, rfl, List.mem_zipIdx_iff_getElem?.1 (List.mem_reverse.1 (List.mem_of_find?_eq_some hf)), List.find?_some hf⟩
/-- the window at a place of a window. -/
def atD (l : List DW) : Nat → Int → Int → Int → Int
  | 0, p, _, _ => p
  | f + 1, p, x, y => if lastHit (hitW p x y) l.zipIdx < 0 then p else
      atD l f (lastHit (hitW p x y) l.zipIdx) (x - ((l[(lastHit (hitW p x y) l.zipIdx).toNat]?).map DW.X).getD 0) (y - ((l[(lastHit (hitW p x y) l.zipIdx).toNat]?).map DW.Y).getD 0)
theorem hitW_up {p x y : Int} {d : DW} {i : Nat} (h : hitW p x y (d, i) = true) : d.P = p := by
  unfold hitW at h
  rw [Bool.and_eq_true, decide_eq_true_eq] at h
  exact h.1
theorem atD_no {f : Nat} {p x y : Int} (h : lastHit (hitW p x y) l.zipIdx < 0) : atD l (f + 1) p x y = p := by unfold atD; rw [if_pos h]
theorem atD_yes {f : Nat} {p x y : Int} {i : Nat} {d : DW} (h : lastHit (hitW p x y) l.zipIdx = (i : Int)) (hd : l[i]? = some d) : atD l (f + 1) p x y = atD l f i (x - d.X) (y - d.Y) := by
  show (if lastHit (hitW p x y) l.zipIdx < 0 then p else _) = _
  rw [if_neg (by omega), h, show ((i : Int)).toNat = i from by omega, hd]
  rfl
theorem atD_top (hu : UpOk l) : ∀ (f : Nat) (p x y : Int) (o : Int × Int), -1 ≤ p → orgN (nodesW l) (bxW RW RH l) (idW p) = o → idW (atD l f p x y) = topF (nodesW l) (bxW RW RH l) f (idW p) (x + o.1) (y + o.2)
  | 0, _, _, _, _, _, _ => rfl
  | f + 1, p, x, y, o, hp, ho => by
    rw [topW hu hp f x y o ho]
    by_cases hh : lastHit (hitW p x y) l.zipIdx < 0
    · rw [if_pos hh, atD_no hh]
    · rw [if_neg hh]
      obtain ⟨i, d, e, hd, hit⟩ := lastHit_is hh
      have hP := hitW_up hit
      have hou := orgW (RW := RW) (RH := RH) hu hd
      rw [hP, ho] at hou
      rw [atD_yes e hd, e, atD_top hu f i (x - d.X) (y - d.Y) _ (by omega) hou]
      congr 1
      · show x - d.X + (d.X + o.1) = _; omega
      · show y - d.Y + (d.Y + o.2) = _; omega
theorem atD_bd (hu : UpOk l) : ∀ (f : Nat) (p x y : Int), -1 ≤ p → p < (l.length : Int) → -1 ≤ atD l f p x y ∧ atD l f p x y < (l.length : Int)
  | 0, p, _, _, h1, h2 => ⟨h1, h2⟩
  | f + 1, p, x, y, h1, h2 => by
    by_cases hh : lastHit (hitW p x y) l.zipIdx < 0
    · rw [atD_no hh]; exact ⟨h1, h2⟩
    · obtain ⟨i, d, e, hd, _⟩ := lastHit_is hh
      have := (List.getElem?_eq_some_iff.1 hd).1
      rw [atD_yes e hd]
      exact atD_bd hu f i _ _ (by omega) (by omega)
/-- windows that are below one, itself ahead of them, kids from below to the top. -/
def blwD (l : List DW) : Nat → Int → List Int
  | 0, p => [p]
  | f + 1, p => p :: (l.zipIdx.filter (fun q => decide (q.1.P = p) && q.1.M)).flatMap fun q => blwD l f q.2
theorem blwD_ord (hu : UpOk l) : ∀ (f : Nat) (p : Int), -1 ≤ p → (l.length : Int) - p ≤ f → vw (nodesW l) (bxW RW RH l) (idW p) = true → (blwD l f p).map idW = ordW (nodesW l) (bxW RW RH l) (idW p)
  | 0, p, h1, h2, hv => by
    rw [ordW_step hu h1 hv]
    have : l.zipIdx.filter (fun q => decide (q.1.P = p) && q.1.M) = [] := by
      rw [List.filter_eq_nil_iff]
      rintro ⟨d, i⟩ hd hq
      have hd := List.mem_zipIdx_iff_getElem?.1 hd
      have h3 := (List.getElem?_eq_some_iff.1 hd).1
      have h4 := hu i d hd
      rw [Bool.and_eq_true, decide_eq_true_eq] at hq
      have := hq.1
      dsimp only at this
      omega
    rw [this]
    rfl
  | f + 1, p, h1, h2, hv => by
    rw [ordW_step hu h1 hv]
    unfold blwD
    rw [List.map_cons, List.map_flatMap]
    congr 1
    refine flatMap_same (fun q hq => ?_)
    obtain ⟨hm, hq⟩ := List.mem_filter.1 hq
    have hd := List.mem_zipIdx_iff_getElem?.1 hm
    rw [Bool.and_eq_true, decide_eq_true_eq] at hq
    have h4 := hu q.2 q.1 hd
    refine blwD_ord hu f q.2 (by omega) (by have := hq.1; omega) ?_
    rw [vwW hu hd, hq.1, hq.2, hv]
    rfl
/-- how far off the root's corner a window begins at most. -/
theorem orgW_bd (hu : UpOk l) (hok : ∀ d ∈ l, (-200 ≤ d.X ∧ d.X ≤ 200) ∧ -200 ≤ d.Y ∧ d.Y ≤ 200) : ∀ (m : Nat) (n : Int), n < (m : Int) → -1 ≤ n → n < (l.length : Int) →
    (-200 * (n + 1) ≤ (orgN (nodesW l) (bxW RW RH l) (idW n)).1 ∧ (orgN (nodesW l) (bxW RW RH l) (idW n)).1 ≤ 200 * (n + 1)) ∧ -200 * (n + 1) ≤ (orgN (nodesW l) (bxW RW RH l) (idW n)).2 ∧ (orgN (nodesW l) (bxW RW RH l) (idW n)).2 ≤ 200 * (n + 1)
  | 0, n, h1, h2, h3 => by
    obtain rfl : n = -1 := by omega
    rw [idW_root, orgN_root (nodesW_ok hu)]
    decide
  | m + 1, n, h1, h2, h3 => by
    by_cases hn : n < 0
    · obtain rfl : n = -1 := by omega
      rw [idW_root, orgN_root (nodesW_ok hu)]
      decide
    · obtain ⟨i, rfl⟩ : ∃ i : Nat, n = (i : Int) := ⟨n.toNat, by omega⟩
      have hi : i < l.length := by omega
      have hd : l[i]? = some l[i] := List.getElem?_eq_getElem hi
      have h4 := hu i _ hd
      have h5 := hok _ (List.getElem_mem hi)
      rw [orgW hu hd]
      have ih := orgW_bd hu hok m (l[i]).P (by omega) h4.1 (by omega)
      dsimp only
      omega
theorem nodup_len {α : Type} [BEq α] [LawfulBEq α] : ∀ {l m : List α}, l.Nodup → (∀ a ∈ l, a ∈ m) → l.length ≤ m.length
  | [], _, _, _ => Nat.zero_le _
  | a :: l, m, h, hs => by
    obtain ⟨h1, h2⟩ := List.nodup_cons.1 h
    have ha := hs a (by simp)
    have := nodup_len (m := m.erase a) h2 (fun b hb => (List.mem_erase_of_ne (fun e => by rw [e] at hb; exact h1 hb)).2 (hs b (List.mem_cons_of_mem _ hb)))
    rw [List.length_erase_of_mem ha] at this
    have := List.length_pos_of_mem ha
    simp only [List.length_cons]
    omega
/-- there are as many windows below the root as there are. -/
theorem below_lenW (hu : UpOk l) : l.length + 1 ≤ (belowAt (nodesW l) 1).length := by
  have h := nodup_len (l := 1 :: (nodesW l).map (·.1)) (m := belowAt (nodesW l) 1) ?_ ?_
  · simpa [nodesW_len] using h
  · refine List.nodup_cons.2 ⟨fun h1 => ?_, nodesW_nodup l⟩
    obtain ⟨q, hq, e⟩ := List.mem_map.1 h1
    exact (nodesW_ok hu).noroot q hq e
  · intro a ha
    rw [below_root (nodesW_ok hu)]
    rcases List.mem_cons.1 ha with rfl | h1
    · exact hasN_root _
    · obtain ⟨q, hq, rfl⟩ := List.mem_map.1 h1
      rw [hasN_iff]
      exact .inr ⟨q.2, upOf_mem (nodesW_nodup l) hq⟩
/-- the document's window at a place of the root is the topmost one. -/
theorem atD_root (hu : UpOk l) (x y : Int) : idW (atD l (belowAt (nodesW l) 1).length (-1) x y) = topN (nodesW l) (bxW RW RH l) x y := by
  rw [atD_top (RW := RW) (RH := RH) hu _ (-1) x y (0, 0) (by omega) (orgN_root (nodesW_ok hu))]
  unfold topN
  rw [idW_root]
  congr 1 <;> simp
end
end Go.Proofs.YtbkkecijcijhdaaGreat
end

section
namespace Go.Proofs.YtbkkecijcijhdaaGreat
open Go.RowKit Go.Maps Go.Shelf

abbrev bxS (RW RH : Nat) (l : List DW) : Int → Option VB := bxW (RW : Int) (RH : Int) l
abbrev esS (RW RH : Nat) (l : List DW) : List (Int × Places) := esN (nodesW l) (bxS RW RH l) (rectP RW RH)
abbrev ordS (RW RH : Nat) (l : List DW) : List Int := ordW (nodesW l) (bxS RW RH l) 1
/-- a view of windows. -/
structure SeenAt (w : World) (v : Value) (RW RH : Nat) (l : List DW) (og : Int → Int × Int) : Prop where
  is : ∃ A n c mv nm f, ViewIs w v A n c mv nm f (ordS RW RH l) (esS RW RH l) og RW RH
  org : ∀ i : Int, -1 ≤ i → i < (l.length : Int) → og (idW i) = orgN (nodesW l) (bxS RW RH l) (idW i)
theorem SeenAt.below {w w' : World} {v : Value} {RW RH : Nat} {l : List DW} {og : Int → Int × Int} (h : SeenAt w v RW RH l og) (hb : Below w.heap.size w w') : SeenAt w' v RW RH l og :=
  ⟨by
    obtain ⟨A, n, c, mv, nm, f, h1⟩ := h.is
    exact ⟨A, n, c, mv, nm, f, h1.below hb⟩, h.org⟩
theorem seen_of {mk mu mp : Option Nat} {nk : Nat} {fk : Int → Option Value} {bs : Bxs} {RW RH : Nat} {l : List DW} (w : World) (h : MadeAt w mk mu mp nk fk bs RW RH l) (hu : UpOk l) (hok : ∀ d ∈ l, DWok d) (hl : l.length ≤ 7) (hR : (1 ≤ RW ∧ RW ≤ 128) ∧ 1 ≤ RH ∧ RH ≤ 128) :
    Calls Tryz.prog 25 #[.agg #[.map mk, .map mu], .agg #[.map mp]] w fun e w' => ∃ v og, e = .returned v ∧ SeenAt w' v RW RH l og ∧ Below w.heap.size w w' := by
  have hRI : (1 ≤ (RW : Int) ∧ (RW : Int) ≤ 128) ∧ 1 ≤ (RH : Int) ∧ (RH : Int) ≤ 128 := by omega
  have hnl : (nodesW l).length ≤ 8 := by rw [nodesW_len]; omega
  have hrel := h.scene.rel hok hRI
  refine (viewOf_any mp mk mu (l.length + 1) nk fk (nodesW l) bs (bxS RW RH l) RW RH w h.tree h.place (nodesW_ok hu) hrel (h.scene.sides hok hRI) (h.scene.nearb hok) (near_of (h.scene.nearb hok) (nodesW_ok hu) hnl) hR h.scene.root).mono ?_
  rintro e w' ⟨v, A, n, c, mv, nm, f, rfl, hv, hb⟩
  exact ⟨v, _, rfl, ⟨⟨A, n, c, mv, nm, f, hv⟩, fun i h1 h2 => (orgN_eq hrel (h.scene.orgOk hu (hasW h1 h2))).symm⟩, hb⟩
section
variable {w : World} {v : Value} {RW RH : Nat} {l : List DW} {og : Int → Int × Int}
/-- what shows of a window is where the document's is it. -/
theorem show_S (hu : UpOk l) (x y : Int) (i : Int) : showB (esS RW RH l) x y i = (rectP RW RH x y && decide (i = idW (atD l (belowAt (nodesW l) 1).length (-1) x y))) := by
  rw [show_at (nodesW_ok hu), atD_root (RW := (RW : Int)) (RH := (RH : Int)) hu]
theorem look_S (hu : UpOk l) {i : Int} (h1 : -1 ≤ i) (h2 : i < (l.length : Int)) : (lastE (esS RW RH l) (idW i)).isSome = vw (nodesW l) (bxS RW RH l) (idW i) := by
  rw [look_some (nodesW_ok hu), hasW h1 h2, Bool.true_and]
theorem len_area : ∀ {rs : List RC}, (∀ r ∈ rs, 0 < r.W ∧ 0 < r.H) → (rs.length : Int) ≤ areaS rs
  | [], _ => by simp [areaS]
  | r :: rs, h => by
    have h1 := h r (by simp)
    have h2 := len_area (rs := rs) (fun q hq => h q (List.mem_cons_of_mem _ hq))
    have h3 : 1 * 1 ≤ r.W * r.H := Int.mul_le_mul (by omega) (by omega) (by omega) (by omega)
    show ((rs.length + 1 : Nat) : Int) ≤ r.W * r.H + areaS rs
    omega
theorem sum_le {α : Type} (f : α → Nat) (B : Nat) : ∀ (l : List α), (∀ a ∈ l, f a ≤ B) → (l.map f).sum ≤ l.length * B
  | [], _ => by simp
  | a :: l, h => by
    have h1 := h a (by simp)
    have h2 := sum_le f B l (fun b hb => h b (List.mem_cons_of_mem _ hb))
    rw [List.map_cons, List.sum_cons, List.length_cons, Nat.add_mul]
    omega
theorem cntP_le (W H : Nat) (P : Places) : cntP W H P ≤ H * W := by
  unfold cntP
  have h := sum_le (fun (y : Nat) => (List.range W).countP fun (x : Nat) => P x y) W (List.range H) (fun a _ => by
    have := List.countP_le_length (p := fun (x : Nat) => P x a) (l := List.range W)
    simpa using this)
  simpa using h
theorem reg_few {u : Value} {out : List RC} {P : Places} (hR : RW ≤ 128 ∧ RH ≤ 128) (hr : RegAt w u out) (ha : areaL out = cntP RW RH P) : out.length ≤ 100000 := by
  have h1 := len_area hr.pos
  rw [← areaL_S, ha] at h1
  have h2 := cntP_le RW RH P
  have h3 : RH * RW ≤ 128 * 128 := Nat.mul_le_mul hR.2 hR.1
  omega
theorem SeenAt.clip (h : SeenAt w v RW RH l og) (i : Int) (hi : 0 ≤ i ∧ i ≤ 4294967295) :
    Calls Tryz.prog 35 #[v, .int .u32 i] w fun e w' => ∃ u out, e = .returned u ∧ RegAt w' u out ∧ (∀ x y, inB out x y = showB (esS RW RH l) x y i) ∧ areaL out = cntP RW RH (fun x y => showB (esS RW RH l) x y i) ∧ out.length ≤ 100000 ∧ Below w.heap.size w w' := by
  obtain ⟨A, n, c, mv, nm, f, hv⟩ := h.is
  refine (vclip_any i hi hv).mono ?_
  rintro e w' ⟨u, out, rfl, hr, hp, hb⟩
  have ha : areaL out = cntP RW RH (fun x y => showB (esS RW RH l) x y i) := by
    obtain ⟨_, _, _, _, hc, _⟩ := hr
    exact hv.area (a := 0) (b := 0) hc (fun x y => by rw [hp]; congr 1 <;> omega)
  exact ⟨u, out, rfl, hr, hp, ha, reg_few hv.side hr ha, hb⟩
theorem SeenAt.visible (h : SeenAt w v RW RH l og) (i : Int) (hi : 0 ≤ i ∧ i ≤ 4294967295) :
    Calls Tryz.prog 33 #[v, .int .u32 i] w fun e w' => ∃ u out, e = .returned u ∧ RegAt w' u out ∧ (∀ x y, inB out x y = showB (esS RW RH l) (x + (ogV (esS RW RH l) og i).1) (y + (ogV (esS RW RH l) og i).2) i) ∧ areaL out = cntP RW RH (fun x y => showB (esS RW RH l) x y i) ∧ out.length ≤ 100000 ∧ Below w.heap.size w w' := by
  obtain ⟨A, n, c, mv, nm, f, hv⟩ := h.is
  refine (vvisible_any i hi hv).mono ?_
  rintro e w' ⟨u, out, rfl, hr, hp, hb⟩
  have ha : areaL out = cntP RW RH (fun x y => showB (esS RW RH l) x y i) := by
    obtain ⟨_, _, _, _, hc, _⟩ := hr
    exact hv.area hc hp
  exact ⟨u, out, rfl, hr, hp, ha, reg_few hv.side hr ha, hb⟩
end
end Go.Proofs.YtbkkecijcijhdaaGreat
end

section
namespace Go.Proofs.YtbkkecijcijhdaaGreat
open Go.RowKit Go.Maps Go.Shelf

/-- a view of a tree and boxes. -/
structure SeenG (w : World) (v : Value) (RW RH : Nat) (ns : Nodes) (bx : Int → Option VB) (og : Int → Int × Int) : Prop where
  is : ∃ A n c mv nm f, ViewIs w v A n c mv nm f (ordW ns bx 1) (esN ns bx (rectP RW RH)) og RW RH
  org : ∀ k : Int, hasN ns k = true → og k = orgN ns bx k
theorem SeenG.below {w w' : World} {v : Value} {RW RH : Nat} {ns : Nodes} {bx : Int → Option VB} {og : Int → Int × Int} (h : SeenG w v RW RH ns bx og) (hb : Below w.heap.size w w') : SeenG w' v RW RH ns bx og :=
  ⟨by
    obtain ⟨A, n, c, mv, nm, f, h1⟩ := h.is
    exact ⟨A, n, c, mv, nm, f, h1.below hb⟩, h.org⟩
section
variable {W : World} {bs : Bxs} {RW RH : Int} {l : List DW} {ns : Nodes}
def nearS (bs : Bxs) : Prop := ∀ i b, bs i = some b → (-200 ≤ b.X ∧ b.X ≤ 200) ∧ (-200 ≤ b.Y ∧ b.Y ≤ 200)
theorem nearS_sum {bs : Bxs} (h : nearS bs) (l : List Int) : (-200 * (l.length : Int) ≤ sumX bs l ∧ sumX bs l ≤ 200 * (l.length : Int)) ∧ (-200 * (l.length : Int) ≤ sumY bs l ∧ sumY bs l ≤ 200 * (l.length : Int)) := by
  induction l with
  | nil => simp [sumX, sumY]
  | cons w l ih =>
    have hb : (-200 ≤ ((bs w).getD zBX).X ∧ ((bs w).getD zBX).X ≤ 200) ∧ (-200 ≤ ((bs w).getD zBX).Y ∧ ((bs w).getD zBX).Y ≤ 200) := by
      cases hb : bs w with
      | none => simp [zBX]
      | some b => exact h w b hb
    have e1 : sumX bs (w :: l) = (if w = 1 then 0 else ((bs w).getD zBX).X) + sumX bs l := by simp [sumX]
    have e2 : sumY bs (w :: l) = (if w = 1 then 0 else ((bs w).getD zBX).Y) + sumY bs l := by simp [sumY]
    rw [e1, e2]
    simp only [List.length_cons]
    split <;> omega
theorem nearS_of (hn : nearS bs) (hok : TreeOk ns) (hl : ns.length ≤ 1000) (k : Int) : (-900000 ≤ orgX ns bs k ∧ orgX ns bs k ≤ 900000) ∧ -900000 ≤ orgY ns bs k ∧ orgY ns bs k ≤ 900000 := by
  unfold orgX orgY
  cases Go.Proofs.YtbkkecijcijhdaaGreat.orgOk ns bs k with
  | false => simp
  | true =>
    have h1 := nearS_sum hn (pathN ns k)
    have h2 := path_len hok k
    simp only [if_true]
    omega
theorem SceneIs.nearS (h : SceneIs W bs RW RH l) (hok : ∀ d ∈ l, DWok d) : nearS bs := fun k b hk => by
  rcases h.box hk with ⟨_, rfl⟩ | ⟨i, d, hd, _, ⟨e1, e2, _⟩, _⟩
  · simp [rootBX]
  · have hD := hok d (List.mem_of_getElem? hd)
    have h1 := hD.x
    have h2 := hD.y
    rw [e1, e2]
    omega
theorem SceneIs.some (h : SceneIs W bs RW RH l) {k : Int} (hk : hasN (nodesW l) k = true) : (bs k).isSome = true := by
  obtain ⟨n, h1, h2, rfl⟩ := hasW_inv hk
  by_cases hn : n < 0
  · obtain rfl : n = -1 := by omega
    rw [idW_root, h.root]
    rfl
  · obtain ⟨i, rfl⟩ : ∃ i : Nat, n = (i : Int) := ⟨n.toNat, by omega⟩
    obtain ⟨b, e, _⟩ := h.each i _ (List.getElem?_eq_getElem (by omega))
    rw [e]
    rfl
theorem orgOk_of (hok : TreeOk ns) (hs : ∀ k, hasN ns k = true → (bs k).isSome = true) {k : Int} (hk : hasN ns k = true) : orgOk ns bs k = true := by
  unfold orgOk
  rw [hk, Bool.true_and]
  unfold allB
  rw [List.all_eq_true]
  exact fun x hx => hs x (path_has hok hx)
end
theorem seenG_of {mk mu mp : Option Nat} {nk n : Nat} {fk : Int → Option Value} {bs : Bxs} {RW RH : Nat} {l : List DW} {ns : Nodes} (w : World) (hT : TreeIs w (.agg #[.map mk, .map mu]) ns mk mu nk fk) (hP : PlaceIs w (.agg #[.map mp]) n bs) (hS : SceneIs w bs RW RH l) (tok : TreeOk ns)
    (hsub : ∀ k, hasN ns k = true → hasN (nodesW l) k = true) (hok : ∀ d ∈ l, DWok d) (hl : ns.length ≤ 1000) (hR : (1 ≤ RW ∧ RW ≤ 128) ∧ 1 ≤ RH ∧ RH ≤ 128) :
    Calls Tryz.prog 25 #[.agg #[.map mk, .map mu], .agg #[.map mp]] w fun e w' => ∃ v og, e = .returned v ∧ SeenG w' v RW RH ns (bxS RW RH l) og ∧ Below w.heap.size w w' := by
  have hRI : (1 ≤ (RW : Int) ∧ (RW : Int) ≤ 128) ∧ 1 ≤ (RH : Int) ∧ (RH : Int) ≤ 128 := by omega
  have hrel := hS.rel hok hRI
  refine (viewOf_any mp mk mu n nk fk ns bs (bxS RW RH l) RW RH w hT hP tok hrel (hS.sides hok hRI) (hS.nearb hok) (nearS_of (hS.nearS hok) tok hl) hR hS.root).mono ?_
  rintro e w' ⟨v, A, n, c, mv, nm, f, rfl, hv, hb⟩
  exact ⟨v, _, rfl, ⟨⟨A, n, c, mv, nm, f, hv⟩, fun k hk => (orgN_eq hrel (orgOk_of tok (fun j hj => hS.some (hsub j hj)) hk)).symm⟩, hb⟩
section
variable {w : World} {v : Value} {RW RH : Nat} {ns : Nodes} {bx : Int → Option VB} {og : Int → Int × Int}
theorem SeenG.form (h : SeenG w v RW RH ns bx og) : ∃ A n c mv, v = .agg #[.slice A n c, .map mv] := by
  obtain ⟨A, n, c, mv, nm, f, hv⟩ := h.is
  exact ⟨A, n, c, mv, hv.shape⟩
theorem SeenG.viewable (h : SeenG w v RW RH ns bx og) (hn : TreeOk ns) (i : Int) (hi : 0 ≤ i ∧ i ≤ 4294967295) :
    Calls Tryz.prog 31 #[v, .int .u32 i] w fun e w' => e = .returned (.bool (hasN ns i && vw ns bx i)) ∧ Below w.heap.size w w' := by
  obtain ⟨A, n, c, mv, nm, f, hv⟩ := h.is
  have := vviewable_any i hi hv
  rw [look_some hn] at this
  exact this
/-- where a window begins, as a view of it tells. -/
def ogG (ns : Nodes) (bx : Int → Option VB) (i : Int) : Int × Int := if hasN ns i && vw ns bx i then orgN ns bx i else (0, 0)
theorem SeenG.og_eq (h : SeenG w v RW RH ns bx og) (hn : TreeOk ns) (i : Int) : ogV (esN ns bx (rectP RW RH)) og i = ogG ns bx i := by
  unfold ogV ogG
  rw [look_some hn]
  cases hh : hasN ns i with
  | false => rfl
  | true =>
    rw [h.org i hh]
/-- what a window shows, place by place of the root. -/
def shG (RW RH : Nat) (ns : Nodes) (bx : Int → Option VB) (x y i : Int) : Bool := rectP RW RH x y && decide (i = topN ns bx x y)
theorem SeenG.clip (h : SeenG w v RW RH ns bx og) (hn : TreeOk ns) (i : Int) (hi : 0 ≤ i ∧ i ≤ 4294967295) :
    Calls Tryz.prog 35 #[v, .int .u32 i] w fun e w' => ∃ u out, e = .returned u ∧ RegAt w' u out ∧ (∀ x y, inB out x y = shG RW RH ns bx x y i) ∧ areaL out = cntP RW RH (fun x y => shG RW RH ns bx x y i) ∧ out.length ≤ 100000 ∧ Below w.heap.size w w' := by
  obtain ⟨A, n, c, mv, nm, f, hv⟩ := h.is
  refine (vclip_any i hi hv).mono ?_
  rintro e w' ⟨u, out, rfl, hr, hp, hb⟩
  have hp2 : ∀ x y, inB out x y = shG RW RH ns bx x y i := fun x y => by rw [hp, show_at hn]; rfl
  have ha : areaL out = cntP RW RH (fun x y => showB (esN ns bx (rectP RW RH)) x y i) := by
    obtain ⟨_, _, _, _, hc, _⟩ := hr
    exact hv.area (a := 0) (b := 0) hc (fun x y => by rw [hp]; congr 1 <;> omega)
  refine ⟨u, out, rfl, hr, hp2, ?_, reg_few hv.side hr ha, hb⟩
  rw [ha]
  exact congrArg (fun P : Places => ((cntP RW RH P : Nat) : Int)) (funext fun x => funext fun y => show_at (bx := bx) hn (rectP RW RH) x y i)
theorem SeenG.visible (h : SeenG w v RW RH ns bx og) (hn : TreeOk ns) (i : Int) (hi : 0 ≤ i ∧ i ≤ 4294967295) :
    Calls Tryz.prog 33 #[v, .int .u32 i] w fun e w' => ∃ u out, e = .returned u ∧ RegAt w' u out ∧ (∀ x y, inB out x y = shG RW RH ns bx (x + (ogG ns bx i).1) (y + (ogG ns bx i).2) i) ∧ areaL out = cntP RW RH (fun x y => shG RW RH ns bx x y i) ∧ out.length ≤ 100000 ∧ Below w.heap.size w w' := by
  obtain ⟨A, n, c, mv, nm, f, hv⟩ := h.is
  refine (vvisible_any i hi hv).mono ?_
  rintro e w' ⟨u, out, rfl, hr, hp, hb⟩
  have ha : areaL out = cntP RW RH (fun x y => showB (esN ns bx (rectP RW RH)) x y i) := by
    obtain ⟨_, _, _, _, hc, _⟩ := hr
    exact hv.area hc hp
  refine ⟨u, out, rfl, hr, fun x y => ?_, ?_, reg_few hv.side hr ha, hb⟩
  · rw [hp, h.og_eq hn, show_at hn]; rfl
  · rw [ha]
    exact congrArg (fun P : Places => ((cntP RW RH P : Nat) : Int)) (funext fun x => funext fun y => show_at (bx := bx) hn (rectP RW RH) x y i)
end
/-- regions that have the same places are the same. -/
theorem reg_uniq {w w' : World} {u u' : Value} {a b : List RC} (ha : RegAt w u a) (hb : RegAt w' u' b) (h : ∀ x y, inB a x y = inB b x y) : a = b := by
  obtain ⟨_, _, _, _, hc, _⟩ := ha
  obtain ⟨_, _, _, _, hd, _⟩ := hb
  exact canon_uniq hc hd (fun x y => by rw [← inB_iff, ← inB_iff, h])
end Go.Proofs.YtbkkecijcijhdaaGreat
end

section
namespace Go.Proofs.YtbkkecijcijhdaaGreat

/-- a window that is made: its parent's number, whether it is mapped, whether it lies outside. -/
structure FW where
  U : Int
  M : Bool
  O : Bool
def FW.cells (f : FW) : List Value := [.int .u8 f.U, .bool f.M, .bool f.O]
theorem FW.cells_len (f : FW) : f.cells.length = 3 := rfl
def FW.ok (f : FW) : Prop := 0 ≤ f.U ∧ f.U ≤ 255
def FW.dw (f : FW) (i : Nat) : DW := ⟨f.U % ((i : Int) + 1) - 1, if f.O then 100 else 0, 0, 8, 8, f.M, false, none, 0, 0, []⟩
def dwsF (fs : List FW) : List DW := fs.zipIdx.map fun q => q.1.dw q.2
theorem dwsF_len (fs : List FW) : (dwsF fs).length = fs.length := by simp [dwsF]
theorem dwsF_at {fs : List FW} {i : Nat} {d : DW} (h : (dwsF fs)[i]? = some d) : ∃ f, fs[i]? = some f ∧ d = f.dw i := by
  unfold dwsF at h
  rw [List.getElem?_map, List.getElem?_zipIdx] at h
  cases hf : fs[i]? with
  | none => rw [hf] at h; cases h
  | some f =>
    rw [hf] at h
    simp at h
    exact ⟨f, rfl, h.symm⟩
theorem dwsF_get {fs : List FW} {i : Nat} {f : FW} (h : fs[i]? = some f) : (dwsF fs)[i]? = some (f.dw i) := by
  unfold dwsF
  rw [List.getElem?_map, List.getElem?_zipIdx, h]
  simp
theorem dwsF_up {fs : List FW} (h : ∀ f ∈ fs, f.ok) : UpOk (dwsF fs) := fun i d hd => by
  obtain ⟨f, hf, rfl⟩ := dwsF_at hd
  have := h f (List.mem_of_getElem? hf)
  unfold FW.ok at this
  show -1 ≤ f.U % ((i : Int) + 1) - 1 ∧ f.U % ((i : Int) + 1) - 1 < (i : Int)
  have h1 := Int.emod_nonneg f.U (show ((i : Int) + 1) ≠ 0 by omega)
  have h2 := Int.emod_lt_of_pos f.U (show 0 < ((i : Int) + 1) by omega)
  omega
theorem dwsF_ok {fs : List FW} : ∀ d ∈ dwsF fs, DWok d := fun d hd => by
  obtain ⟨i, hi⟩ := List.getElem?_of_mem hd
  obtain ⟨f, hf, rfl⟩ := dwsF_at hi
  unfold FW.dw
  refine ⟨?_, by simp, by simp, by simp, fun _ => rfl, by simp, by simp⟩
  cases f.O <;> simp
section
variable {l : List DW}
/-- is a window of a number, the root's is 0, viewable? -/
def isAt (l : List DW) (j : Nat) : Bool := vw (nodesW l) (bxS 8 8 l) (idW ((j : Int) - 1))
def isL (l : List DW) (k : Nat) : List Bool := (List.range (k + 1)).map (isAt l)
def shL (l : List DW) (k : Nat) : List Int := ((List.range (k + 1)).filter (isAt l)).map fun (j : Nat) => idW ((j : Int) - 1)
theorem isAt_zero (h : UpOk l) : isAt l 0 = true := vw_root (nodesW_ok h)
theorem isAt_succ (h : UpOk l) {k : Nat} {d : DW} (hd : l[k]? = some d) {p : Nat} (hp : d.P = (p : Int) - 1) : isAt l (k + 1) = (d.M && isAt l p) := by
  unfold isAt
  rw [show (((k + 1 : Nat) : Int) - 1) = (k : Int) by omega, vwW h hd, hp]
theorem isL_len (k : Nat) : (isL l k).length = k + 1 := by simp [isL]
theorem isL_zero (h : UpOk l) : isL l 0 = [true] := by
  unfold isL
  rw [show List.range (0 + 1) = [0] from rfl, List.map_cons, isAt_zero h]
  rfl
theorem isL_succ (k : Nat) : isL l (k + 1) = isL l k ++ [isAt l (k + 1)] := by
  unfold isL
  rw [List.range_succ (n := k + 1), List.map_append]
  rfl
theorem isL_at {k p : Nat} (h : p ≤ k) : (isL l k)[p]? = some (isAt l p) := by
  unfold isL
  rw [List.getElem?_map, List.getElem?_range (by omega)]
  rfl
theorem shL_zero (h : UpOk l) : shL l 0 = [1] := by
  unfold shL
  rw [show List.range (0 + 1) = [0] from rfl, List.filter_cons, isAt_zero h]
  rfl
theorem shL_succ (k : Nat) : shL l (k + 1) = shL l k ++ (if isAt l (k + 1) then [idW (k : Int)] else []) := by
  unfold shL
  rw [List.range_succ (n := k + 1), List.filter_append, List.map_append]
  congr 1
  cases h : isAt l (k + 1) with
  | true =>
    rw [List.filter_cons, h]
    simp only [if_true, List.filter_nil, List.map_cons, List.map_nil]
    rw [show (((k + 1 : Nat) : Int) - 1) = (k : Int) by omega]
  | false =>
    rw [List.filter_cons, h]
    rfl
theorem shL_len (k : Nat) : (shL l k).length ≤ k + 1 := by
  unfold shL
  rw [List.length_map]
  have := List.length_filter_le (isAt l) (List.range (k + 1))
  simpa using this
theorem mem_shL {i : Int} : i ∈ shL l l.length ↔ (hasN (nodesW l) i && vw (nodesW l) (bxS 8 8 l) i) = true := by
  unfold shL
  rw [List.mem_map, Bool.and_eq_true]
  constructor
  · rintro ⟨j, hj, rfl⟩
    obtain ⟨h1, h2⟩ := List.mem_filter.1 hj
    have h3 := List.mem_range.1 h1
    exact ⟨hasW (by omega) (by omega), h2⟩
  · rintro ⟨h1, h2⟩
    obtain ⟨n, h3, h4, rfl⟩ := hasW_inv h1
    refine ⟨(n + 1).toNat, List.mem_filter.2 ⟨List.mem_range.2 (by omega), ?_⟩, ?_⟩
    · unfold isAt
      rw [show (((n + 1).toNat : Int) - 1) = n by omega]
      exact h2
    · rw [show (((n + 1).toNat : Int) - 1) = n by omega]
theorem shL_contains (i : Int) : (shL l l.length).contains i = (hasN (nodesW l) i && vw (nodesW l) (bxS 8 8 l) i) := by
  rw [Bool.eq_iff_iff, List.contains_iff_mem, mem_shL]
theorem shL_ok {k : Nat} (hk : k ≤ 1000) {i : Int} (hi : i ∈ shL l k) : 0 ≤ i ∧ i ≤ 4294967295 := by
  unfold shL at hi
  obtain ⟨j, hj, rfl⟩ := List.mem_map.1 hi
  have := List.mem_range.1 (List.mem_filter.1 hj).1
  unfold idW
  split <;> omega
end
end Go.Proofs.YtbkkecijcijhdaaGreat
end

section
namespace Go.Proofs.YtbkkecijcijhdaaGreat
open Go.RowKit Go.Maps Go.Shelf

def BL (l : List Bool) : List Value := l.map Value.bool
theorem BL_len (l : List Bool) : (BL l).length = l.length := by simp [BL]
theorem BL_at {l : List Bool} {k : Nat} {b : Bool} (h : l[k]? = some b) : (BL l)[k]? = some (.bool b) := by simp [BL, h]
theorem TreeOwn.below {w w' : World} {base : Nat} {ns : Nodes} {kb ub nk : Nat} {fk : Int → Option Value} (h : TreeOwn w base ns kb ub nk fk) (hb : Below w.heap.size w w') : TreeOwn w' base ns kb ub nk fk :=
  ⟨h.kids.below hb, h.up.below hb, fun i v hv => ownsRow_below (h.own i v hv) hb, h.nil, h.lok, h.lou, h.room, h.few, h.ok⟩
theorem TreeOwn.setBlk {w : World} {base : Nat} {ns : Nodes} {kb ub nk : Nat} {fk : Int → Option Value} (h : TreeOwn w base ns kb ub nk fk) {B : Nat} {t : TypeId} {cs : Array Value} (hB : Blk w B t cs) (ht : t ≠ 49) (i : Nat) (u : Value) : TreeOwn (w.setCell ⟨B, i, none⟩ u) base ns kb ub nk fk :=
  ⟨h.kids.setCell (h.kids.neBlk hB) u, h.up.setCell (h.up.neBlk hB) u, fun j v hv => (h.own j v hv).kept (grown_setCell w ⟨B, i, none⟩ u) (.inr (own_other (h.own j v hv) hB ht)), h.nil, h.lok, h.lou, h.room, h.few, h.ok⟩
theorem TreeOwn.row {w w' : World} {base : Nat} {ns : Nodes} {kb ub nk : Nat} {fk : Int → Option Value} {row : Option Nat} (h : TreeOwn w base ns kb ub nk fk) (hg : w.grownBy w' row) (hr : ∀ g, row = some g → g < base) : TreeOwn w' base ns kb ub nk fk :=
  ⟨h.kids.kept hg (fun e => by have h1 := hr kb e.symm; have h2 := h.lok; omega), h.up.kept hg (fun e => by have h1 := hr ub e.symm; have h2 := h.lou; omega), fun i v hv => (h.own i v hv).kept hg (by
    cases hb : v.ownBlock with
    | none => exact .inl rfl
    | some g => exact .inr (fun e => by have h1 := hr g e.symm; have h2 := own_ge (h.own i v hv) g hb; omega)), h.nil, h.lok, h.lou, h.room, h.few, h.ok⟩
theorem PlaceIs.row {w w' : World} {pv : Value} {n : Nat} {bs : Bxs} {base size m : Nat} {e : TypeId} {v : Value} {xs : List Value} (h : PlaceIs w pv n bs) (ho : w.ownsRow base e size v m xs) (hg : w.grownBy w' v.ownBlock) : PlaceIs w' pv n bs := by
  obtain ⟨mb, e1, h1⟩ := h
  refine ⟨mb, e1, ?_⟩
  rcases h1 with h2 | ⟨b, rfl, h2⟩
  · exact .inl h2
  · exact .inr ⟨b, rfl, h2.kept hg (fun e => h2.not_row ho e.symm)⟩
/-- rows of different elements lie apart. -/
theorem own_apart {w : World} {base base' e e' size size' n n' : Nat} {v v' : Value} {xs xs' : List Value} (h : w.ownsRow base e size v n xs) (h' : w.ownsRow base' e' size' v' n' xs') (hne : e ≠ e') : v.ownBlock = none ∨ v.ownBlock ≠ v'.ownBlock := by
  cases hb : v.ownBlock with
  | none => exact .inl rfl
  | some g =>
    right
    intro hq
    obtain ⟨cs, h1⟩ := own_cells h hb
    exact own_other h' h1 hne hq.symm
/-- windows without shapes are so in any world. -/
theorem SceneIs.any {W W' : World} {bs : Bxs} {RW RH : Int} {l : List DW} (h : SceneIs W bs RW RH l) (hs : ∀ d ∈ l, d.sh = []) : SceneIs W' bs RW RH l :=
  ⟨h.root, fun i d hd => by
    obtain ⟨b, h1, h2, out, h3, h4⟩ := h.each i d hd
    have h5 := hs d (List.mem_of_getElem? hd)
    have h6 : out = [] := by
      obtain ⟨_, _, _, _, hc, _⟩ := h3
      exact no_places hc (fun x y hxy => by
        have h7 := (inB_iff out x y).2 hxy
        rw [h4, h5] at h7
        cases h7)
    subst h6
    obtain ⟨A, c, e, _⟩ := h3
    refine ⟨b, h1, h2, [], ?_, h4⟩
    rw [e]
    exact ⟨A, c, rfl, ⟨rfl, fun h => absurd h (by decide)⟩, canon_nilV, by simp, by simp⟩, h.only⟩
/-- a row of ids of the call's own. -/
def IdsOwn (w : World) (lo : Nat) (v : Value) (zs : List Int) : Prop := w.ownsRow lo 49 1 v zs.length (U32 zs)
theorem IdsOwn.below {w w' : World} {lo : Nat} {v : Value} {zs : List Int} (h : IdsOwn w lo v zs) (hb : Below w.heap.size w w') : IdsOwn w' lo v zs := ownsRow_below h hb
theorem SeenG.setNo {w : World} {v : Value} {RW RH : Nat} {ns : Nodes} {bx : Int → Option VB} {og : Int → Int × Int} (h : SeenG w v RW RH ns bx og) {B : Nat} {t : TypeId} {cs : Array Value} (hB : Blk w B t cs) (hno : NoInt w B) (i : Nat) (u : Value) : SeenG (w.setCell ⟨B, i, none⟩ u) v RW RH ns bx og := by
  obtain ⟨A, n, c, mv, nm, f, hv⟩ := h.is
  refine ⟨⟨A, n, c, mv, nm, f, ?_⟩, h.org⟩
  exact { hv with
    order := hv.order.keepG (grown_setCell w ⟨B, i, none⟩ u) hno
    map := hv.map.setBlk hB i u
    told := fun j e he => by
      obtain ⟨A, c, out, h1, h2, h3⟩ := hv.told j e he
      exact ⟨A, c, out, h1, h2.keepG (grown_setCell w ⟨B, i, none⟩ u) hno, h3⟩ }
theorem dwsF_sh {fs : List FW} : ∀ d ∈ dwsF fs, d.sh = [] := fun d hd => by
  obtain ⟨i, hi⟩ := List.getElem?_of_mem hd
  obtain ⟨f, _, rfl⟩ := dwsF_at hi
  rfl
theorem add_pre {l : List DW} {k : Nat} {d : DW} (h : UpOk l) (hd : l[k]? = some d) (hk : k ≤ 60) : idC (idW k) = 0 ∧ hasN (nodesW (l.take k)) (idW k) = false ∧ hasN (nodesW (l.take k)) (idW d.P) = true ∧ decide ((64 : Int) ≤ ((nodesW (l.take k)).length : Int) + 1) = false := by
  have hlt := (List.getElem?_eq_some_iff.1 hd).1
  have hlen : (l.take k).length = k := by rw [List.length_take]; omega
  have hp := h k d hd
  refine ⟨idC_W (by omega), ?_, hasW hp.1 (by rw [hlen]; exact hp.2), by rw [nodesW_len, hlen]; exact decide_eq_false (by omega)⟩
  cases hh : hasN (nodesW (l.take k)) (idW k) with
  | false => rfl
  | true =>
    obtain ⟨n, a, b, e⟩ := hasW_inv hh
    have := idW_inj (by omega) a e
    rw [hlen] at b
    omega
/-- what is held. -/
structure MK (w : World) (lo g6 g7 : Nat) (l : List DW) (k : Nat) (mk mu mp : Option Nat) (nk : Nat) (fk : Int → Option Value) (bs : Bxs) (v9 v10 : Value) : Prop where
  k6 : Blk w g6 34 #[.map mk, .map mu]
  k7 : Blk w g7 37 #[.map mp]
  tree : TreeIs w (.agg #[.map mk, .map mu]) (nodesW (l.take k)) mk mu nk fk
  place : PlaceIs w (.agg #[.map mp]) (k + 1) bs
  scene : SceneIs w bs 8 8 (l.take k)
  own9 : w.ownsRow lo 49 1 v9 (shL l k).length (U32 (shL l k))
  own10 : w.ownsRow lo 4 1 v10 (k + 1) (BL (isL l k))
theorem MK.below {w w' : World} {lo g6 g7 : Nat} {l : List DW} {k : Nat} {mk mu mp : Option Nat} {nk : Nat} {fk : Int → Option Value} {bs : Bxs} {v9 v10 : Value} (h : MK w lo g6 g7 l k mk mu mp nk fk bs v9 v10) (hb : Below w.heap.size w w') : MK w' lo g6 g7 l k mk mu mp nk fk bs v9 v10 :=
  ⟨h.k6.belowS hb, h.k7.belowS hb, h.tree.below hb, h.place.below hb, h.scene.below hb, ownsRow_below h.own9 hb, ownsRow_below h.own10 hb⟩
/-- what is held when a round's tree and place are laid down. -/
structure MN (w : World) (base g6 g7 : Nat) (l : List DW) (k : Nat) (kb ub : Nat) (mp : Option Nat) (nk : Nat) (fk : Int → Option Value) (bs : Bxs) : Prop where
  k6 : Blk w g6 34 #[.map (some kb), .map (some ub)]
  k7 : Blk w g7 37 #[.map mp]
  tree : TreeOwn w base (nodesW (l.take (k + 1))) kb ub nk fk
  place : PlaceIs w (.agg #[.map mp]) (k + 1 + 1) bs
  scene : SceneIs w bs 8 8 (l.take (k + 1))
section
variable {w w' : World} {base lo g6 g7 : Nat} {l : List DW} {k : Nat} {kb ub : Nat} {mp : Option Nat} {nk : Nat} {fk : Int → Option Value} {bs : Bxs}
theorem MN.below (h : MN w base g6 g7 l k kb ub mp nk fk bs) (hb : Below w.heap.size w w') : MN w' base g6 g7 l k kb ub mp nk fk bs :=
  ⟨h.k6.belowS hb, h.k7.belowS hb, h.tree.below hb, h.place.below hb, h.scene.below hb⟩
/-- an append to a row of the call's own leaves it. -/
theorem MN.app (h : MN w base g6 g7 l k kb ub mp nk fk bs) {o : Obj} {e size n : Nat} {v : Value} {xs : List Value} (ho : w.ownsRow lo e size v n xs) (hg : (w.alloc o).grownBy w' v.ownBlock) (hb : ∀ g, v.ownBlock = some g → g < base) (h6 : g6 < lo) (h7 : g7 < lo) (hs : ∀ d ∈ l.take (k + 1), d.sh = []) : MN w' base g6 g7 l k kb ub mp nk fk bs :=
  ⟨(h.k6.alloc o).grown hg (fun e => by have := own_ge ho _ e.symm; omega), (h.k7.alloc o).grown hg (fun e => by have := own_ge ho _ e.symm; omega), (h.tree.below (bal (bre w) o)).row hg hb, (h.place.below (bal (bre w) o)).row (ho.alloc o) hg, h.scene.any hs⟩
/-- stores into the round's two variables, and a draw. -/
theorem mn_start {w W9 : World} {mk mu mp0 : Option Nat} (h6 : Blk w g6 34 #[.map mk, .map mu]) (h7 : Blk w g7 37 #[.map mp0]) (hne : g6 ≠ g7) (ht : TreeOwn w base (nodesW (l.take (k + 1))) kb ub nk fk) (hp : PlaceIs w (.agg #[.map mp]) (k + 1 + 1) bs) (hsc : SceneIs w bs 8 8 (l.take (k + 1))) (hs : ∀ d ∈ l.take (k + 1), d.sh = [])
    (hW : (((w.setCell ⟨g6, 0, none⟩ (.map (some kb))).setCell ⟨g6, 1, none⟩ (.map (some ub))).setCell ⟨g7, 0, none⟩ (.map mp)).drew = W9) : MN W9 base g6 g7 l k kb ub mp nk fk bs := by
  have a6 := h6.set_ 0 (.map (some kb))
  have b6 := a6.set_ 1 (.map (some ub))
  have a7 := (h7.far (p := ⟨g6, 0, none⟩) (Ne.symm hne) (.map (some kb))).far (p := ⟨g6, 1, none⟩) (Ne.symm hne) (.map (some ub))
  rw [← hW]
  refine ⟨(b6.far (p := ⟨g7, 0, none⟩) hne (.map mp)).drewT, (a7.set_ 0 (.map mp)).drewT, ?_, ?_, hsc.any hs⟩
  · exact (((ht.setBlk h6 (by decide) 0 _).setBlk a6 (by decide) 1 _).setBlk a7 (by decide) 0 _).below (bre _).drew
  · exact (((hp.setBlk h6 0 _).setBlk a6 1 _).setBlk a7 0 _).below (bre _).drew
theorem MN.done (h : MN w base g6 g7 l k kb ub mp nk fk bs) {v9 v10 : Value} (h9 : w.ownsRow lo 49 1 v9 (shL l (k + 1)).length (U32 (shL l (k + 1)))) (h10 : w.ownsRow lo 4 1 v10 (k + 1 + 1) (BL (isL l (k + 1)))) : MK w lo g6 g7 l (k + 1) (some kb) (some ub) mp nk fk bs v9 v10 :=
  ⟨h.k6, h.k7, h.tree.tree, h.place, h.scene, h9, h10⟩
end
end Go.Proofs.YtbkkecijcijhdaaGreat
end

section
namespace Go.Proofs.YtbkkecijcijhdaaGreat
open Go.RowKit Go.Maps Go.Shelf

/-- a focus: its window, where it goes, its time. -/
structure FC where
  W : Int
  R : Int
  T : Int
def FC.ok (f : FC) : Prop := (0 ≤ f.W ∧ f.W ≤ 4294967295) ∧ 0 ≤ f.T ∧ f.T ≤ 4294967295
abbrev FC.v (f : FC) : Value := .agg #[.int .u32 f.W, .int .i64 f.R, .int .u32 f.T]
/-- where a focus goes that is lost. -/
def lostF (f : FC) (shows : Int → Bool) (path : List Int) : FC × Bool :=
  if f.W = 0 ∨ shows f.W = true then (f, false) else if f.R = 1 then (⟨1, 1, f.T⟩, true) else if f.R = 2 then (⟨((path.drop 1).find? shows).getD 1, 0, f.T⟩, true) else (⟨0, 0, f.T⟩, true)
/-- where a focus goes that is set. -/
def setF (f : FC) (shows : Int → Bool) (id rv tm now : Int) : FC × Bool × Int :=
  if rv < 0 ∨ 2 < rv then (f, false, 10) else if id ≠ 0 ∧ shows id = false then (f, false, 6) else if tm = 0 then (⟨id, rv, now⟩, true, 0) else if tm < f.T ∨ now < tm then (f, false, 0) else (⟨id, rv, tm⟩, true, 0)

/-- is an id among these? -/
def inU (l : List Int) (i : Int) : Bool := l.contains i
set_option maxRecDepth 100000 in
set_option maxHeartbeats 2000000 in
theorem in37_any (A : Option Addr) (n c : Nat) (l : List Int) (i : Int) (w : World) (hn : n ≤ 1000000) (hr : Rd w A n (U32 l)) :
    Calls Tryz.prog 115 #[.slice A n c, .int .u32 i] w fun e w' => e = .returned (.bool (inU l i)) ∧ w = w' := by
  have HR := Lib.hid hr
  have HL := Lib.hid (show l.length = n by have := hr.1; rwa [U32_len] at this)
  clear hr
  go_enter Tryz.func115, Tryz.ntmps115
  go_wp2_with fail
  go_loop [5] (fun s => ∃ k : Nat, s = .int .i64 k ∧ k ≤ n ∧ i ∉ l.take k) (fun s => n - (intOf s).toNat)
  case atStart => exact ⟨0, rfl, by omega, by simp⟩
  case round =>
    obtain ⟨k, rfl, hk, hno⟩ := hrel
    have HNO := Lib.hid hno
    clear hno
    by_cases hlt : k < n
    · have k1 : (k : Int) < (n : Int) := by omega
      have k0 : (0 : Int) ≤ (k : Int) := by omega
      obtain ⟨x, hx⟩ : ∃ x, l[k]? = some x := ⟨_, List.getElem?_eq_getElem (by rw [HL.out]; exact hlt)⟩
      obtain ⟨b, off, rfl, hb, hc⟩ := HR.out.2 (by omega)
      have hcell := hc k _ (U32_at hx)
      have HX := Lib.hid hx
      clear hc hx
      by_cases e : x = i
      · subst e
        have HT := Lib.hid (show inU l x = true from List.contains_iff_mem.2 (List.mem_of_getElem? HX.out))
        go_wp2_with fail
        go_ret
        exact ⟨by rw [HT.out]; rfl, rfl⟩
      · have e1 : (x == i) = false := by simpa using e
        go_wp2_with fail
        go_round
        case rel => exact ⟨k + 1, by go_num, by omega, by rw [take_snocI' HX.out, List.mem_append]; rintro (h | h); exact HNO.out h; exact e (List.mem_singleton.1 h).symm⟩
        case measure => simp [intOf]; omega
    · obtain rfl : k = n := by omega
      have k1 : ¬ (k : Int) < (k : Int) := by omega
      have HF := Lib.hid (show inU l i = false from by
        unfold inU
        have := HNO.out
        rw [List.take_of_length_le (by rw [HL.out]; exact Nat.le_refl _)] at this
        simpa using this)
      go_wp2_with fail
      go_ret
      exact ⟨by rw [HF.out]; rfl, rfl⟩
section
variable {w : World} {v : Value} {RW RH : Nat} {ns : Nodes} {bx : Int → Option VB} {og : Int → Int × Int}
abbrev shV37 (ns : Nodes) (bx : Int → Option VB) (i : Int) : Bool := hasN ns i && vw ns bx i
set_option maxRecDepth 100000 in
set_option maxHeartbeats 2000000 in
theorem first37_any (A : Option Addr) (n c : Nat) (l : List Int) (w : World) (hn : n ≤ 1000000) (hr : Rd w A n (U32 l)) (hv : SeenG w v RW RH ns bx og) (htk : TreeOk ns) (hl : ∀ i ∈ l, 0 ≤ i ∧ i ≤ 4294967295) :
    Calls Tryz.prog 114 #[v, .slice A n c] w fun e w' => e = .returned (.int .u32 ((l.find? (shV37 ns bx)).getD 1)) ∧ Below w.heap.size w w' := by
  have HR := Lib.hid hr
  have HV := Lib.hid hv
  have HLO := Lib.hid hl
  have HTK := Lib.hid htk
  have HL := Lib.hid (show l.length = n by have := hr.1; rwa [U32_len] at this)
  obtain ⟨Av, nv, cv, mv, rfl⟩ := hv.form
  have K2 := Lib.hid (Blk.new w 43 #[.slice Av nv cv, .map mv])
  have HB := Lib.hid (bal (bre w) (.cells #[.slice Av nv cv, .map mv] 43))
  clear hr hv hl htk
  go_enter Tryz.func114, Tryz.ntmps114
  go_wp2_with fail
  obtain ⟨X0, hX0⟩ : ∃ X0, w.alloc (.cells #[.slice Av nv cv, .map mv] 43) = X0 := ⟨_, rfl⟩
  rw [hX0] at K2 HB ⊢
  clear hX0
  go_loopw [9] (fun s wr => ∃ k : Nat, s = .int .i64 k ∧ k ≤ n ∧ (l.take k).find? (shV37 ns bx) = none ∧ Below X0.heap.size X0 wr) (fun s _ => n - (intOf s).toNat)
  case atStart => exact ⟨0, rfl, by omega, rfl, bre X0⟩
  case round =>
    obtain ⟨k, rfl, hk, hno, hbw⟩ := hrel
    have HNO := Lib.hid hno
    have HBW := Lib.hid (bstep HB.out hbw)
    have HBX := Lib.hid hbw
    clear hno hbw
    by_cases hlt : k < n
    · have k1 : (k : Int) < (n : Int) := by omega
      have k0 : (0 : Int) ≤ (k : Int) := by omega
      obtain ⟨x, hx⟩ : ∃ x, l[k]? = some x := ⟨_, List.getElem?_eq_getElem (by rw [HL.out]; exact hlt)⟩
      obtain ⟨b, off, rfl, hb, hc⟩ := (HR.out.below HBW.out).2 (by omega)
      have hcell := hc k _ (U32_at hx)
      have HX := Lib.hid hx
      have d0 := (K2.out.belowS HBX.out).cellV (i := 0) (v := .slice Av nv cv) rfl
      have d1 := (K2.out.belowS HBX.out).cellV (i := 1) (v := .map mv) rfl
      clear hc hx
      go_wp2_with fail
      refine ((HV.out.below HBW.out).viewable HTK.out x (HLO.out x (List.mem_of_getElem? HX.out))).mono ?_
      rintro e w2 ⟨rfl, hb2⟩
      obtain ⟨bq, hbq⟩ : ∃ bq, (hasN ns x && vw ns bx x) = bq := ⟨_, rfl⟩
      rw [hbq]
      have HQ := Lib.hid hbq
      have HB2 := Lib.hid hb2
      clear hbq hb2 d0 d1
      cases bq with
      | true =>
        have HF := Lib.hid (show l.find? (shV37 ns bx) = some x by
          rw [← List.take_append_drop k l, List.find?_append, HNO.out, drop_cons' HX.out, List.find?_cons]
          rw [show shV37 ns bx x = true from HQ.out]
          rfl)
        go_wp2_with fail
        go_ret
        exact ⟨by rw [HF.out]; rfl, bstep HBW.out HB2.out⟩
      | false =>
        go_wp2_with fail
        go_roundw
        case rel => exact ⟨k + 1, by go_num, by omega, by rw [take_snocI' HX.out, List.find?_append, HNO.out, List.find?_cons, show shV37 ns bx x = false from HQ.out]; rfl, bstep HBX.out HB2.out⟩
        case measure => simp [intOf]; omega
    · obtain rfl : k = n := by omega
      have k1 : ¬ (k : Int) < (k : Int) := by omega
      have HF := Lib.hid (show l.find? (shV37 ns bx) = none by
        have := HNO.out
        rwa [List.take_of_length_le (by rw [HL.out]; exact Nat.le_refl _)] at this)
      go_wp2_with fail
      go_ret
      exact ⟨by rw [HF.out]; rfl, HBW.out⟩
end
end Go.Proofs.YtbkkecijcijhdaaGreat
end
