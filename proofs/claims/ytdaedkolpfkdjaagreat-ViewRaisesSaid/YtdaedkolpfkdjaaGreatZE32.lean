/-
  The document's answers of a scene, plainly: the window at a place, where one begins, which are viewable, and their order.
  A view of the document's windows, as its laws use it.
  The walk of glazierlaw31.awake: the document's example.
-/
import Derived.Test.YtdaedkolpfkdjaaGreatZE25
import Derived.Test.YtdaedkolpfkdjaaGreatZE31
import Derived.Test.YtdaedkolpfkdjaaGreatZE02
section
namespace Go.Proofs.YtdaedkolpfkdjaaGreat

section
variable {l : List DW} {RW RH : Int}
theorem lastHit_is {hit : DW × Nat → Bool} : ¬ (lastHit hit l.zipIdx < 0) → ∃ (i : Nat) (d : DW), lastHit hit l.zipIdx = (i : Int) ∧ l[i]? = some d ∧ hit (d, i) = true := by
  unfold lastHit
  cases hf : l.zipIdx.reverse.find? hit with
  | none => intro h; exact absurd (show (-1 : Int) < 0 by omega) h
  | some q =>
    intro _
    exact ⟨q.2, q.1, rfl, List.mem_zipIdx_iff_getElem?.1 (List.mem_reverse.1 (List.mem_of_find?_eq_some hf)), List.find?_some hf⟩
/-- the window at a place of a window. -/
def atD (l : List DW) : Nat → Int → Int → Int → Int
  | 0, p, _, _ => p
  | f + 1, p, x, y => if lastHit (hitW p x y) l.zipIdx < 0 then p else
      atD l f (lastHit (hitW p x y) l.zipIdx) (x - ((l[(lastHit (hitW p x y) l.zipIdx).toNat]?).map DW.X).getD 0) (y - ((l[(lastHit (hitW p x y) l.zipIdx).toNat]?).map DW.Y).getD 0)
theorem hitW_up {p x y : Int} {d : DW} {i : Nat} (h : hitW p x y (d, i) = true) : d.P = p := by
  unfold hitW at h
  rw [Bool.and_eq_true, decide_eq_true_eq] at h
  exact h.1
theorem atD_no {f : Nat} {p x y : Int} (h : lastHit (hitW p x y) l.zipIdx < 0) : atD l (f + 1) p x y = p := by unfold atD; rw [if_pos h]
theorem atD_yes {f : Nat} {p x y : Int} {i : Nat} {d : DW} (h : lastHit (hitW p x y) l.zipIdx = (i : Int)) (hd : l[i]? = some d) : atD l (f + 1) p x y = atD l f i (x - d.X) (y - d.Y) := by
  show (if lastHit (hitW p x y) l.zipIdx < 0 then p else _) = _
  rw [if_neg (by omega), h, show ((i : Int)).toNat = i from by omega, hd]
  rfl
theorem atD_top (hu : UpOk l) : ∀ (f : Nat) (p x y : Int) (o : Int × Int), -1 ≤ p → orgN (nodesW l) (bxW RW RH l) (idW p) = o → idW (atD l f p x y) = topF (nodesW l) (bxW RW RH l) f (idW p) (x + o.1) (y + o.2)
  | 0, _, _, _, _, _, _ => rfl
  | f + 1, p, x, y, o, hp, ho => by
    rw [topW hu hp f x y o ho]
    by_cases hh : lastHit (hitW p x y) l.zipIdx < 0
    · rw [if_pos hh, atD_no hh]
    · rw [if_neg hh]
      obtain ⟨i, d, e, hd, hit⟩ := lastHit_is hh
      have hP := hitW_up hit
      have hou := orgW (RW := RW) (RH := RH) hu hd
      rw [hP, ho] at hou
      rw [atD_yes e hd, e, atD_top hu f i (x - d.X) (y - d.Y) _ (by omega) hou]
      congr 1
      · show x - d.X + (d.X + o.1) = _; omega
      · show y - d.Y + (d.Y + o.2) = _; omega
/-- windows that are below one, itself ahead of them, kids from below to the top. -/
def blwD (l : List DW) : Nat → Int → List Int
  | 0, p => [p]
  | f + 1, p => p :: (l.zipIdx.filter (fun q => decide (q.1.P = p) && q.1.M)).flatMap fun q => blwD l f q.2
theorem nodup_len {α : Type} [BEq α] [LawfulBEq α] : ∀ {l m : List α}, l.Nodup → (∀ a ∈ l, a ∈ m) → l.length ≤ m.length
  | [], _, _, _ => Nat.zero_le _
  | a :: l, m, h, hs => by
    obtain ⟨h1, h2⟩ := List.nodup_cons.1 h
    have ha := hs a (by simp)
    have := nodup_len (m := m.erase a) h2 (fun b hb => (List.mem_erase_of_ne (fun e => by rw [e] at hb; exact h1 hb)).2 (hs b (List.mem_cons_of_mem _ hb)))
    rw [List.length_erase_of_mem ha] at this
    have := List.length_pos_of_mem ha
    simp only [List.length_cons]
    omega
/-- the document's window at a place of the root is the topmost one. -/
theorem atD_root (hu : UpOk l) (x y : Int) : idW (atD l (belowAt (nodesW l) 1).length (-1) x y) = topN (nodesW l) (bxW RW RH l) x y := by
  rw [atD_top (RW := RW) (RH := RH) hu _ (-1) x y (0, 0) (by omega) (orgN_root (nodesW_ok hu))]
  unfold topN
  rw [idW_root]
  congr 1 <;> simp
end
end Go.Proofs.YtdaedkolpfkdjaaGreat
end

section
namespace Go.Proofs.YtdaedkolpfkdjaaGreat
open Go.RowKit Go.Maps Go.Shelf

abbrev bxS (RW RH : Nat) (l : List DW) : Int → Option VB := bxW (RW : Int) (RH : Int) l
abbrev esS (RW RH : Nat) (l : List DW) : List (Int × Places) := esN (nodesW l) (bxS RW RH l) (rectP RW RH)
abbrev ordS (RW RH : Nat) (l : List DW) : List Int := ordW (nodesW l) (bxS RW RH l) 1
/-- a view of windows. -/
structure SeenAt (w : World) (v : Value) (RW RH : Nat) (l : List DW) (og : Int → Int × Int) : Prop where
  is : ∃ A n c mv nm f, ViewIs w v A n c mv nm f (ordS RW RH l) (esS RW RH l) og RW RH
  org : ∀ i : Int, -1 ≤ i → i < (l.length : Int) → og (idW i) = orgN (nodesW l) (bxS RW RH l) (idW i)
theorem SeenAt.below {w w' : World} {v : Value} {RW RH : Nat} {l : List DW} {og : Int → Int × Int} (h : SeenAt w v RW RH l og) (hb : Below w.heap.size w w') : SeenAt w' v RW RH l og :=
  ⟨by
    obtain ⟨A, n, c, mv, nm, f, h1⟩ := h.is
    exact ⟨A, n, c, mv, nm, f, h1.below hb⟩, h.org⟩
theorem seen_of {mk mu mp : Option Nat} {nk : Nat} {fk : Int → Option Value} {bs : Bxs} {RW RH : Nat} {l : List DW} (w : World) (h : MadeAt w mk mu mp nk fk bs RW RH l) (hu : UpOk l) (hok : ∀ d ∈ l, DWok d) (hl : l.length ≤ 7) (hR : (1 ≤ RW ∧ RW ≤ 128) ∧ 1 ≤ RH ∧ RH ≤ 128) :
    Calls Tryz.prog 25 #[.agg #[.map mk, .map mu], .agg #[.map mp]] w fun e w' => ∃ v og, e = .returned v ∧ SeenAt w' v RW RH l og ∧ Below w.heap.size w w' := by
  have hRI : (1 ≤ (RW : Int) ∧ (RW : Int) ≤ 128) ∧ 1 ≤ (RH : Int) ∧ (RH : Int) ≤ 128 := by omega
  have hnl : (nodesW l).length ≤ 8 := by rw [nodesW_len]; omega
  have hrel := h.scene.rel hok hRI
  refine (viewOf_any mp mk mu (l.length + 1) nk fk (nodesW l) bs (bxS RW RH l) RW RH w h.tree h.place (nodesW_ok hu) hrel (h.scene.sides hok hRI) (h.scene.nearb hok) (near_of (h.scene.nearb hok) (nodesW_ok hu) hnl) hR h.scene.root).mono ?_
  rintro e w' ⟨v, A, n, c, mv, nm, f, rfl, hv, hb⟩
  exact ⟨v, _, rfl, ⟨⟨A, n, c, mv, nm, f, hv⟩, fun i h1 h2 => (orgN_eq hrel (h.scene.orgOk hu (hasW h1 h2))).symm⟩, hb⟩
section
variable {w : World} {v : Value} {RW RH : Nat} {l : List DW} {og : Int → Int × Int}
/-- what shows of a window is where the document's is it. -/
theorem show_S (hu : UpOk l) (x y : Int) (i : Int) : showB (esS RW RH l) x y i = (rectP RW RH x y && decide (i = idW (atD l (belowAt (nodesW l) 1).length (-1) x y))) := by
  rw [show_at (nodesW_ok hu), atD_root (RW := (RW : Int)) (RH := (RH : Int)) hu]
theorem len_area : ∀ {rs : List RC}, (∀ r ∈ rs, 0 < r.W ∧ 0 < r.H) → (rs.length : Int) ≤ areaS rs
  | [], _ => by simp [areaS]
  | r :: rs, h => by
    have h1 := h r (by simp)
    have h2 := len_area (rs := rs) (fun q hq => h q (List.mem_cons_of_mem _ hq))
    have h3 : 1 * 1 ≤ r.W * r.H := Int.mul_le_mul (by omega) (by omega) (by omega) (by omega)
    show ((rs.length + 1 : Nat) : Int) ≤ r.W * r.H + areaS rs
    omega
theorem sum_le {α : Type} (f : α → Nat) (B : Nat) : ∀ (l : List α), (∀ a ∈ l, f a ≤ B) → (l.map f).sum ≤ l.length * B
  | [], _ => by simp
  | a :: l, h => by
    have h1 := h a (by simp)
    have h2 := sum_le f B l (fun b hb => h b (List.mem_cons_of_mem _ hb))
    rw [List.map_cons, List.sum_cons, List.length_cons, Nat.add_mul]
    omega
theorem cntP_le (W H : Nat) (P : Places) : cntP W H P ≤ H * W := by
  unfold cntP
  have h := sum_le (fun (y : Nat) => (List.range W).countP fun (x : Nat) => P x y) W (List.range H) (fun a _ => by
    have := List.countP_le_length (p := fun (x : Nat) => P x a) (l := List.range W)
    simpa using this)
  simpa using h
theorem reg_few {u : Value} {out : List RC} {P : Places} (hR : RW ≤ 128 ∧ RH ≤ 128) (hr : RegAt w u out) (ha : areaL out = cntP RW RH P) : out.length ≤ 100000 := by
  have h1 := len_area hr.pos
  rw [← areaL_S, ha] at h1
  have h2 := cntP_le RW RH P
  have h3 : RH * RW ≤ 128 * 128 := Nat.mul_le_mul hR.2 hR.1
  omega
theorem SeenAt.clip (h : SeenAt w v RW RH l og) (i : Int) (hi : 0 ≤ i ∧ i ≤ 4294967295) :
    Calls Tryz.prog 31 #[v, .int .u32 i] w fun e w' => ∃ u out, e = .returned u ∧ RegAt w' u out ∧ (∀ x y, inB out x y = showB (esS RW RH l) x y i) ∧ areaL out = cntP RW RH (fun x y => showB (esS RW RH l) x y i) ∧ out.length ≤ 100000 ∧ Below w.heap.size w w' := by
  obtain ⟨A, n, c, mv, nm, f, hv⟩ := h.is
  refine (vclip_any i hi hv).mono ?_
  rintro e w' ⟨u, out, rfl, hr, hp, hb⟩
  have ha : areaL out = cntP RW RH (fun x y => showB (esS RW RH l) x y i) := by
    obtain ⟨_, _, _, _, hc, _⟩ := hr
    exact hv.area (a := 0) (b := 0) hc (fun x y => by rw [hp]; congr 1 <;> omega)
  exact ⟨u, out, rfl, hr, hp, ha, reg_few hv.side hr ha, hb⟩
theorem SeenAt.visible (h : SeenAt w v RW RH l og) (i : Int) (hi : 0 ≤ i ∧ i ≤ 4294967295) :
    Calls Tryz.prog 28 #[v, .int .u32 i] w fun e w' => ∃ u out, e = .returned u ∧ RegAt w' u out ∧ (∀ x y, inB out x y = showB (esS RW RH l) (x + (ogV (esS RW RH l) og i).1) (y + (ogV (esS RW RH l) og i).2) i) ∧ areaL out = cntP RW RH (fun x y => showB (esS RW RH l) x y i) ∧ out.length ≤ 100000 ∧ Below w.heap.size w w' := by
  obtain ⟨A, n, c, mv, nm, f, hv⟩ := h.is
  refine (vvisible_any i hi hv).mono ?_
  rintro e w' ⟨u, out, rfl, hr, hp, hb⟩
  have ha : areaL out = cntP RW RH (fun x y => showB (esS RW RH l) x y i) := by
    obtain ⟨_, _, _, _, hc, _⟩ := hr
    exact hv.area hc hp
  exact ⟨u, out, rfl, hr, hp, ha, reg_few hv.side hr ha, hb⟩
end
end Go.Proofs.YtdaedkolpfkdjaaGreat
end

section
namespace Go.Proofs.YtdaedkolpfkdjaaGreat
open Go.RowKit Go.Maps Go.Shelf

theorem RdF.of_blk {α : Type} {f : α → List Value} {m : Nat} (hm : ∀ x, (f x).length = m) {w : World} {g : Nat} {t : TypeId} {l : List α} {n : Nat} (h : Blk w g t (l.flatMap f).toArray) (hl : l.length = n) : RdF f m w (some ⟨g, 0, none⟩) n l := by
  refine ⟨hl, fun hn => ⟨g, 0, rfl, h.lt, fun k x hk i u hu => ?_⟩⟩
  have hi : i < m := by have := (List.getElem?_eq_some_iff.1 hu).1; rwa [hm] at this
  have hg := flat_get f m hm l k x i hk hi
  rw [hu] at hg
  rw [Nat.zero_add]
  exact h.cellV (by simpa using hg)
def awL : List DW := [⟨-1, 1, 1, 4, 3, true, false, none, 0, 0, []⟩, ⟨-1, 3, 2, 4, 3, true, false, none, 0, 0, []⟩, ⟨0, 0, 0, 2, 1, true, false, none, 0, 0, []⟩]
theorem awL_up : UpOk awL := fun i d hd => by
  match i, hd with
  | 0, hd => obtain rfl : _ = d := by simpa [awL] using hd
             decide
  | 1, hd => obtain rfl : _ = d := by simpa [awL] using hd
             decide
  | 2, hd => obtain rfl : _ = d := by simpa [awL] using hd
             decide
  | i + 3, hd => simp [awL] at hd
theorem awL_ok : ∀ d ∈ awL, DWok d := fun d hd => by
  simp only [awL, List.mem_cons, List.not_mem_nil, or_false] at hd
  rcases hd with rfl | rfl | rfl <;> exact ⟨by decide, by decide, by decide, by decide, fun _ => rfl, by decide, by simp⟩
theorem awL_area (i : Int) (k : Nat) (h : cntP 8 6 (fun x y => decide (i = idW (atD awL (belowAt (nodesW awL) 1).length (-1) x y))) = k) : cntP 8 6 (fun x y => showB (esS 8 6 awL) x y i) = k := by
  rw [← h]
  refine cntP_congr (fun x y hx hy => ?_)
  rw [show_S awL_up]
  have : rectP ((8 : Nat) : Int) ((6 : Nat) : Int) x y = true := by
    unfold rectP
    rw [inB_rect]
    omega
  rw [this, Bool.true_and]
set_option maxRecDepth 100000 in
theorem aw_area1 : cntP 8 6 (fun x y => showB (esS 8 6 awL) x y (idW 1)) = 12 := awL_area _ _ (by decide +kernel)
set_option maxRecDepth 100000 in
theorem aw_area2 : cntP 8 6 (fun x y => showB (esS 8 6 awL) x y (idW 2)) = 2 := awL_area _ _ (by decide +kernel)
set_option maxRecDepth 100000 in
theorem aw_area0 : cntP 8 6 (fun x y => showB (esS 8 6 awL) x y (idW 0)) = 6 := awL_area _ _ (by decide +kernel)
set_option maxRecDepth 100000 in
theorem aw_areaR : cntP 8 6 (fun x y => showB (esS 8 6 awL) x y 1) = 28 := awL_area _ _ (by decide +kernel)

/-- a struct is built. -/
theorem wpList_bld {P : Program} {ops : Array Oper} {rest : List Oper} {o : Oper} {a : Act} {w : World} {Q : Exit → Act → World → Prop} (hg : o.guard = none) (cells : Array Value) (hb : bldOf P a.eval o = some cells) (h : wpList P ops Q rest (a.put o.dst (.agg cells)) w) : wpList P ops Q (o :: rest) a w := by
  refine wpList_plain hg fun K hK => ?_
  unfold Oper.wp
  rw [y_build hb]
  exact hK _ _ h
set_option maxRecDepth 100000 in
theorem Tryz.infoW : (Tryz.prog.info? 33).map (fun i => (i.zero, i.size, i.bytes)) = some (some (.agg #[.int .i64 0, .int .i64 0, .int .i64 0, .int .i64 0, .int .i64 0, .bool false, .bool false, .slice none 0 0]), 8, 72) := by kernel_rfl
theorem vis_area {w : World} {v : Value} {RW RH : Nat} {l : List DW} {og : Int → Int × Int} (h : SeenAt w v RW RH l og) (i : Int) (hi : 0 ≤ i ∧ i ≤ 4294967295) (k : Nat) (hk : cntP RW RH (fun x y => showB (esS RW RH l) x y i) = k) :
    Calls Tryz.prog 28 #[v, .int .u32 i] w fun e w' => ∃ A n c, e = .returned (.agg #[.slice A n c]) ∧ (∀ W, Below w'.heap.size w' W → Calls Tryz.prog 75 #[.agg #[.slice A n c]] W fun e2 w2 => e2 = .returned (.int .i64 k) ∧ Below W.heap.size W w2) ∧ Below w.heap.size w w' := by
  refine (h.visible i hi).mono ?_
  rintro e w' ⟨u, out, rfl, hr, _, ha, hl, hb⟩
  have hc := hr.cnt
  obtain ⟨A, c, rfl, hrd, _⟩ := hr
  refine ⟨A, out.length, c, rfl, fun W hW => ?_, hb⟩
  rw [← hk, ← ha]
  exact area_any A out.length c out W (by omega) (hrd.below hW) hc

set_option maxRecDepth 100000 in
set_option maxHeartbeats 8000000 in
theorem awake31_any (w : World) : Calls Tryz.prog 19 #[] w fun e w' => e = .returned (.bool true) ∧ Below w.heap.size w w' := by
  obtain ⟨i0, hi0, hz0, hz1, hz2⟩ := info_parts Tryz.infoW
  go_enter Tryz.func19, Tryz.ntmps19
  go_upto_region 1 with fail
  apply wp_region_lit
  refine wpList_bld rfl #[.int .i64 (-1), .int .i64 1, .int .i64 1, .int .i64 4, .int .i64 3, .bool true, .bool false, .slice none 0 0] (by as_aux_lemma => kernel_rfl) ?_
  refine wpList_bld rfl #[.int .i64 (-1), .int .i64 3, .int .i64 2, .int .i64 4, .int .i64 3, .bool true, .bool false, .slice none 0 0] (by as_aux_lemma => kernel_rfl) ?_
  refine wpList_bld rfl #[.int .i64 0, .int .i64 0, .int .i64 0, .int .i64 2, .int .i64 1, .bool true, .bool false, .slice none 0 0] (by as_aux_lemma => kernel_rfl) ?_
  refine wpList_recs rfl 29 33 3 _ rfl 8 _ i0 Tryz.underlying29 hi0 hz0 hz1 rfl (by decide) (by decide) (by decide) [.agg #[.int .i64 (-1), .int .i64 1, .int .i64 1, .int .i64 4, .int .i64 3, .bool true, .bool false, .slice none 0 0], .agg #[.int .i64 (-1), .int .i64 3, .int .i64 2, .int .i64 4, .int .i64 3, .bool true, .bool false, .slice none 0 0], .agg #[.int .i64 0, .int .i64 0, .int .i64 0, .int .i64 2, .int .i64 1, .bool true, .bool false, .slice none 0 0]] (by simp [Value.cells]) rfl (by as_aux_lemma => kernel_rfl) #[.int .i64 (-1), .int .i64 1, .int .i64 1, .int .i64 4, .int .i64 3, .bool true, .bool false, .slice none 0 0, .int .i64 (-1), .int .i64 3, .int .i64 2, .int .i64 4, .int .i64 3, .bool true, .bool false, .slice none 0 0, .int .i64 0, .int .i64 0, .int .i64 0, .int .i64 2, .int .i64 1, .bool true, .bool false, .slice none 0 0] rfl ?_
  have xK := Blk.new w 33 #[.int .i64 (-1), .int .i64 1, .int .i64 1, .int .i64 4, .int .i64 3, .bool true, .bool false, .slice none 0 0, .int .i64 (-1), .int .i64 3, .int .i64 2, .int .i64 4, .int .i64 3, .bool true, .bool false, .slice none 0 0, .int .i64 0, .int .i64 0, .int .i64 0, .int .i64 2, .int .i64 1, .bool true, .bool false, .slice none 0 0]
  have xB := bal (bre w) (.cells #[.int .i64 (-1), .int .i64 1, .int .i64 1, .int .i64 4, .int .i64 3, .bool true, .bool false, .slice none 0 0, .int .i64 (-1), .int .i64 3, .int .i64 2, .int .i64 4, .int .i64 3, .bool true, .bool false, .slice none 0 0, .int .i64 0, .int .i64 0, .int .i64 0, .int .i64 2, .int .i64 1, .bool true, .bool false, .slice none 0 0] 33)
  obtain ⟨X0, hX0⟩ : ∃ X0, w.alloc (.cells #[.int .i64 (-1), .int .i64 1, .int .i64 1, .int .i64 4, .int .i64 3, .bool true, .bool false, .slice none 0 0, .int .i64 (-1), .int .i64 3, .int .i64 2, .int .i64 4, .int .i64 3, .bool true, .bool false, .slice none 0 0, .int .i64 0, .int .i64 0, .int .i64 0, .int .i64 2, .int .i64 1, .bool true, .bool false, .slice none 0 0] 33) = X0 := ⟨_, rfl⟩
  rw [hX0] at xK xB ⊢
  have HL := Lib.hid (show RdWs X0 (some ⟨w.heap.size, 0, none⟩) 3 awL from ⟨RdF.of_blk DW.cells_len xK rfl, fun d hd => by
    simp only [awL, List.mem_cons, List.not_mem_nil, or_false] at hd
    rcases hd with rfl | rfl | rfl <;> exact ⟨rfl, fun h => absurd h (by decide)⟩⟩)
  have HB := Lib.hid xB
  clear xK xB hX0
  go_upto_region 2 with fail
  go_wp2_with fail
  refine (built31_any (some ⟨w.heap.size, 0, none⟩) 3 3 awL 8 6 _ HL.out (by decide) awL_up awL_ok (by decide)).mono ?_
  rintro e w1 ⟨mk, mu, mp, nk, fk, bs, rfl, hm, hb⟩
  have HM := Lib.hid hm
  replace HB := Lib.hid (bstep HB.out hb)
  clear hm hb
  go_upto_region 3 with fail
  have xM := HM.out.below (bal (bal (bre w1) (.cells #[.map mk, .map mu] 37)) (.cells #[.map mp] 40))
  have xK2 := (Blk.new w1 37 #[.map mk, .map mu]).alloc (.cells #[.map mp] 40)
  have xK3 := blk_new2 w1 (.cells #[.map mk, .map mu] 37) 40 #[.map mp]
  have xB := bal (bal HB.out (.cells #[.map mk, .map mu] 37)) (.cells #[.map mp] 40)
  obtain ⟨X1, hX1⟩ : ∃ X1, (w1.alloc (.cells #[.map mk, .map mu] 37)).alloc (.cells #[.map mp] 40) = X1 := ⟨_, rfl⟩
  rw [hX1] at xM xK2 xK3 xB ⊢
  have d20 := xK2.cellV (i := 0) (v := .map mk) rfl
  have d21 := xK2.cellV (i := 1) (v := .map mu) rfl
  have d30 := xK3.cellV (i := 0) (v := .map mp) rfl
  replace HM := Lib.hid xM
  replace HB := Lib.hid xB
  clear xM xK2 xK3 xB hX1
  go_wp2_with fail
  refine (seen_of (RW := 8) (RH := 6) (l := awL) (bs := bs) (fk := fk) (nk := nk) X1 HM.out awL_up awL_ok (by decide) (by decide)).mono ?_
  rintro e w2 ⟨v, og, rfl, hs, hb⟩
  have HS := Lib.hid hs
  obtain ⟨A, n, c, mv, nm, f, hv⟩ := hs.is
  have hsh := hv.shape
  subst hsh
  replace HB := Lib.hid (bstep HB.out hb)
  clear hs hb hv d20 d21 d30
  go_upto_region 4 with fail
  have xS := HS.out.below (bal (bre w2) (.cells #[.slice A n c, .map mv] 52))
  have xK5 := Blk.new w2 52 #[.slice A n c, .map mv]
  have xB := bal HB.out (.cells #[.slice A n c, .map mv] 52)
  obtain ⟨X2, hX2⟩ : ∃ X2, w2.alloc (.cells #[.slice A n c, .map mv] 52) = X2 := ⟨_, rfl⟩
  rw [hX2] at xS xK5 xB ⊢
  replace HS := Lib.hid xS
  have K5 := Lib.hid xK5
  replace HB := Lib.hid xB
  clear xS xK5 xB hX2
  have HBW := Lib.hid (show Below X2.heap.size X2 X2.drew from (bre X2).drew)
  refine wp_region_noPanic ?_
  refine wp_region_held_drew (S := (fun w' => w'.cell? ⟨w2.heap.size, 0, none⟩ = some (.slice A n c) ∧ w'.cell? ⟨w2.heap.size, 1, none⟩ = some (.map mv))) (by kernel_rfl) ?_ (fun hHeld => ?_)
  · (try dsimp only)
    exact ⟨(K5.out.belowS HBW.out).cellV (i := 0) rfl, (K5.out.belowS HBW.out).cellV (i := 1) rfl⟩
  refine Tr.take_at 0 19 (.bool true) rfl rfl (by kernel_rfl) (by kernel_rfl) (by kernel_rfl) (fun _ _ _ h => h) (Or.inl ⟨by rfl, ?_⟩) (by assumption) ?_
  · intro W0 hSw
    (try dsimp only at hSw)
    go_simp
  simp only [List.set_cons_zero, List.set_cons_succ]
  refine Tr.take_at 1 20 (.bool true) rfl rfl (by kernel_rfl) (by kernel_rfl) (by kernel_rfl) (fun _ _ _ h => h) (Or.inl ⟨by rfl, ?_⟩) (by assumption) ?_
  · intro W0 hSw
    (try dsimp only at hSw)
    go_simp
  simp only [List.set_cons_zero, List.set_cons_succ]
  refine Tr.take_at 2 21 (.agg #[.slice A n c, .map mv]) rfl rfl (by kernel_rfl) (by kernel_rfl) (by kernel_rfl) (fun _ _ _ h => h) (Or.inl ⟨by rfl, ?_⟩) (by assumption) ?_
  · intro W0 hSw
    (try dsimp only at hSw)
    go_simp
  simp only [List.set_cons_zero, List.set_cons_succ]
  refine wpAnyH_ready (rs := [3]) (by kernel_rfl) (by simp) ?_
  refine AllReadyH.cons rfl (fun K hK => ?_) AllReadyH.nil
  go_simp
  refine (id_b (1 : Int) _ (by decide)).mono ?_
  rintro e wc3 ⟨rfl, hbA⟩
  replace HBW := Lib.hid (bstep HBW.out hbA)
  clear hbA
  go_simp
  refine hK.out _ _ ?_ (fun hHeld => ?_)
  · (try dsimp only)
    exact ⟨(K5.out.belowS HBW.out).cellV (i := 0) rfl, (K5.out.belowS HBW.out).cellV (i := 1) rfl⟩
  clear hK K
  refine wpAnyH_ready (rs := [4]) (by kernel_rfl) (by simp) ?_
  refine AllReadyH.cons rfl (fun K hK => ?_) AllReadyH.nil
  go_simp
  refine (vis_area (HS.out.below HBW.out) (idW 1) (by decide) 12 aw_area1).mono ?_
  rintro e wc4 ⟨A4, n4, c4, rfl, har4, hbA⟩
  have HAR4 := Lib.hid har4
  clear har4
  replace HBW := Lib.hid (bstep HBW.out hbA)
  clear hbA
  go_simp
  refine hK.out _ _ ?_ (fun hHeld => ?_)
  · (try dsimp only)
    exact ⟨(K5.out.belowS HBW.out).cellV (i := 0) rfl, (K5.out.belowS HBW.out).cellV (i := 1) rfl⟩
  clear hK K
  refine wpAnyH_ready (rs := [5]) (by kernel_rfl) (by simp) ?_
  refine AllReadyH.cons rfl (fun K hK => ?_) AllReadyH.nil
  go_simp
  refine (HAR4.out _ (bre _)).mono ?_
  rintro e wc5 ⟨rfl, hbA⟩
  replace HBW := Lib.hid (bstep HBW.out hbA)
  clear hbA
  go_simp
  refine hK.out _ _ ?_ (fun hHeld => ?_)
  · (try dsimp only)
    exact ⟨(K5.out.belowS HBW.out).cellV (i := 0) rfl, (K5.out.belowS HBW.out).cellV (i := 1) rfl⟩
  clear hK K
  refine Tr.take_at 6 25 (.bool true) rfl rfl (by kernel_rfl) (by kernel_rfl) (by kernel_rfl) (fun _ _ _ h => h) (Or.inl ⟨by rfl, ?_⟩) (by assumption) ?_
  · intro W0 hSw
    (try dsimp only at hSw)
    go_simp
  simp only [List.set_cons_zero, List.set_cons_succ]
  refine Tr.take_at 7 26 (.bool true) rfl rfl (by kernel_rfl) (by kernel_rfl) (by kernel_rfl) (fun _ _ _ h => h) (Or.inl ⟨by rfl, ?_⟩) (by assumption) ?_
  · intro W0 hSw
    (try dsimp only at hSw)
    go_simp
  simp only [List.set_cons_zero, List.set_cons_succ]
  refine Tr.take_at 8 27 (.bool true) rfl rfl (by kernel_rfl) (by kernel_rfl) (by kernel_rfl) (fun _ _ _ h => h) (Or.inl ⟨by rfl, ?_⟩) (by assumption) ?_
  · intro W0 hSw
    (try dsimp only at hSw)
    go_simp
  simp only [List.set_cons_zero, List.set_cons_succ]
  refine Tr.take_at 9 28 (.agg #[.slice A n c, .map mv]) rfl rfl (by kernel_rfl) (by kernel_rfl) (by kernel_rfl) (fun _ _ _ h => h) (Or.inl ⟨by rfl, ?_⟩) (by assumption) ?_
  · intro W0 hSw
    (try dsimp only at hSw)
    go_simp
  simp only [List.set_cons_zero, List.set_cons_succ]
  refine wpAnyH_ready (rs := [10]) (by kernel_rfl) (by simp) ?_
  refine AllReadyH.cons rfl (fun K hK => ?_) AllReadyH.nil
  go_simp
  refine (id_b (2 : Int) _ (by decide)).mono ?_
  rintro e wc10 ⟨rfl, hbA⟩
  replace HBW := Lib.hid (bstep HBW.out hbA)
  clear hbA
  go_simp
  refine hK.out _ _ ?_ (fun hHeld => ?_)
  · (try dsimp only)
    exact ⟨(K5.out.belowS HBW.out).cellV (i := 0) rfl, (K5.out.belowS HBW.out).cellV (i := 1) rfl⟩
  clear hK K
  refine wpAnyH_ready (rs := [11]) (by kernel_rfl) (by simp) ?_
  refine AllReadyH.cons rfl (fun K hK => ?_) AllReadyH.nil
  go_simp
  refine (vis_area (HS.out.below HBW.out) (idW 2) (by decide) 2 aw_area2).mono ?_
  rintro e wc11 ⟨A11, n11, c11, rfl, har11, hbA⟩
  have HAR11 := Lib.hid har11
  clear har11
  replace HBW := Lib.hid (bstep HBW.out hbA)
  clear hbA
  go_simp
  refine hK.out _ _ ?_ (fun hHeld => ?_)
  · (try dsimp only)
    exact ⟨(K5.out.belowS HBW.out).cellV (i := 0) rfl, (K5.out.belowS HBW.out).cellV (i := 1) rfl⟩
  clear hK K
  refine wpAnyH_ready (rs := [12]) (by kernel_rfl) (by simp) ?_
  refine AllReadyH.cons rfl (fun K hK => ?_) AllReadyH.nil
  go_simp
  refine (HAR11.out _ (bre _)).mono ?_
  rintro e wc12 ⟨rfl, hbA⟩
  replace HBW := Lib.hid (bstep HBW.out hbA)
  clear hbA
  go_simp
  refine hK.out _ _ ?_ (fun hHeld => ?_)
  · (try dsimp only)
    exact ⟨(K5.out.belowS HBW.out).cellV (i := 0) rfl, (K5.out.belowS HBW.out).cellV (i := 1) rfl⟩
  clear hK K
  refine Tr.take_at 13 32 (.bool true) rfl rfl (by kernel_rfl) (by kernel_rfl) (by kernel_rfl) (fun _ _ _ h => h) (Or.inl ⟨by rfl, ?_⟩) (by assumption) ?_
  · intro W0 hSw
    (try dsimp only at hSw)
    go_simp
  simp only [List.set_cons_zero, List.set_cons_succ]
  refine Tr.take_at 14 33 (.bool true) rfl rfl (by kernel_rfl) (by kernel_rfl) (by kernel_rfl) (fun _ _ _ h => h) (Or.inl ⟨by rfl, ?_⟩) (by assumption) ?_
  · intro W0 hSw
    (try dsimp only at hSw)
    go_simp
  simp only [List.set_cons_zero, List.set_cons_succ]
  refine Tr.take_at 15 34 (.bool true) rfl rfl (by kernel_rfl) (by kernel_rfl) (by kernel_rfl) (fun _ _ _ h => h) (Or.inl ⟨by rfl, ?_⟩) (by assumption) ?_
  · intro W0 hSw
    (try dsimp only at hSw)
    go_simp
  simp only [List.set_cons_zero, List.set_cons_succ]
  refine Tr.take_at 16 35 (.agg #[.slice A n c, .map mv]) rfl rfl (by kernel_rfl) (by kernel_rfl) (by kernel_rfl) (fun _ _ _ h => h) (Or.inl ⟨by rfl, ?_⟩) (by assumption) ?_
  · intro W0 hSw
    (try dsimp only at hSw)
    go_simp
  simp only [List.set_cons_zero, List.set_cons_succ]
  refine wpAnyH_ready (rs := [17]) (by kernel_rfl) (by simp) ?_
  refine AllReadyH.cons rfl (fun K hK => ?_) AllReadyH.nil
  go_simp
  refine (id_b (0 : Int) _ (by decide)).mono ?_
  rintro e wc17 ⟨rfl, hbA⟩
  replace HBW := Lib.hid (bstep HBW.out hbA)
  clear hbA
  go_simp
  refine hK.out _ _ ?_ (fun hHeld => ?_)
  · (try dsimp only)
    exact ⟨(K5.out.belowS HBW.out).cellV (i := 0) rfl, (K5.out.belowS HBW.out).cellV (i := 1) rfl⟩
  clear hK K
  refine wpAnyH_ready (rs := [18]) (by kernel_rfl) (by simp) ?_
  refine AllReadyH.cons rfl (fun K hK => ?_) AllReadyH.nil
  go_simp
  refine (vis_area (HS.out.below HBW.out) (idW 0) (by decide) 6 aw_area0).mono ?_
  rintro e wc18 ⟨A18, n18, c18, rfl, har18, hbA⟩
  have HAR18 := Lib.hid har18
  clear har18
  replace HBW := Lib.hid (bstep HBW.out hbA)
  clear hbA
  go_simp
  refine hK.out _ _ ?_ (fun hHeld => ?_)
  · (try dsimp only)
    exact ⟨(K5.out.belowS HBW.out).cellV (i := 0) rfl, (K5.out.belowS HBW.out).cellV (i := 1) rfl⟩
  clear hK K
  refine wpAnyH_ready (rs := [19]) (by kernel_rfl) (by simp) ?_
  refine AllReadyH.cons rfl (fun K hK => ?_) AllReadyH.nil
  go_simp
  refine (HAR18.out _ (bre _)).mono ?_
  rintro e wc19 ⟨rfl, hbA⟩
  replace HBW := Lib.hid (bstep HBW.out hbA)
  clear hbA
  go_simp
  refine hK.out _ _ ?_ (fun hHeld => ?_)
  · (try dsimp only)
    exact ⟨(K5.out.belowS HBW.out).cellV (i := 0) rfl, (K5.out.belowS HBW.out).cellV (i := 1) rfl⟩
  clear hK K
  refine Tr.take_at 20 39 (.bool true) rfl rfl (by kernel_rfl) (by kernel_rfl) (by kernel_rfl) (fun _ _ _ h => h) (Or.inl ⟨by rfl, ?_⟩) (by assumption) ?_
  · intro W0 hSw
    (try dsimp only at hSw)
    go_simp
  simp only [List.set_cons_zero, List.set_cons_succ]
  refine Tr.take_at 21 40 (.bool true) rfl rfl (by kernel_rfl) (by kernel_rfl) (by kernel_rfl) (fun _ _ _ h => h) (Or.inl ⟨by rfl, ?_⟩) (by assumption) ?_
  · intro W0 hSw
    (try dsimp only at hSw)
    go_simp
  simp only [List.set_cons_zero, List.set_cons_succ]
  refine Tr.take_at 22 41 (.bool true) rfl rfl (by kernel_rfl) (by kernel_rfl) (by kernel_rfl) (fun _ _ _ h => h) (Or.inl ⟨by rfl, ?_⟩) (by assumption) ?_
  · intro W0 hSw
    (try dsimp only at hSw)
    go_simp
  simp only [List.set_cons_zero, List.set_cons_succ]
  refine Tr.take_at 23 42 (.agg #[.slice A n c, .map mv]) rfl rfl (by kernel_rfl) (by kernel_rfl) (by kernel_rfl) (fun _ _ _ h => h) (Or.inl ⟨by rfl, ?_⟩) (by assumption) ?_
  · intro W0 hSw
    (try dsimp only at hSw)
    go_simp
  simp only [List.set_cons_zero, List.set_cons_succ]
  refine wpAnyH_ready (rs := [24]) (by kernel_rfl) (by simp) ?_
  refine AllReadyH.cons rfl (fun K hK => ?_) AllReadyH.nil
  go_simp
  refine (vis_area (HS.out.below HBW.out) (1) (by decide) 28 aw_areaR).mono ?_
  rintro e wc24 ⟨A24, n24, c24, rfl, har24, hbA⟩
  have HAR24 := Lib.hid har24
  clear har24
  replace HBW := Lib.hid (bstep HBW.out hbA)
  clear hbA
  go_simp
  refine hK.out _ _ ?_ (fun hHeld => ?_)
  · (try dsimp only)
    exact ⟨(K5.out.belowS HBW.out).cellV (i := 0) rfl, (K5.out.belowS HBW.out).cellV (i := 1) rfl⟩
  clear hK K
  refine wpAnyH_ready (rs := [25]) (by kernel_rfl) (by simp) ?_
  refine AllReadyH.cons rfl (fun K hK => ?_) AllReadyH.nil
  go_simp
  refine (HAR24.out _ (bre _)).mono ?_
  rintro e wc25 ⟨rfl, hbA⟩
  replace HBW := Lib.hid (bstep HBW.out hbA)
  clear hbA
  go_simp
  refine hK.out _ _ ?_ (fun hHeld => ?_)
  · (try dsimp only)
    exact ⟨(K5.out.belowS HBW.out).cellV (i := 0) rfl, (K5.out.belowS HBW.out).cellV (i := 1) rfl⟩
  clear hK K
  refine Tr.take_at 26 45 (.bool true) rfl rfl (by kernel_rfl) (by kernel_rfl) (by kernel_rfl) (fun _ _ _ h => h) (Or.inl ⟨by rfl, ?_⟩) (by assumption) ?_
  · intro W0 hSw
    (try dsimp only at hSw)
    go_simp
  simp only [List.set_cons_zero, List.set_cons_succ]
  refine Tr.take_at 27 46 (.bool true) rfl rfl (by kernel_rfl) (by kernel_rfl) (by kernel_rfl) (fun _ _ _ h => h) (Or.inl ⟨by rfl, ?_⟩) (by assumption) ?_
  · intro W0 hSw
    (try dsimp only at hSw)
    go_simp
  simp only [List.set_cons_zero, List.set_cons_succ]
  refine Tr.take_at 28 0 (.bool true) rfl rfl (by kernel_rfl) (by kernel_rfl) (by kernel_rfl) (fun _ _ _ h => h) (Or.inl ⟨by rfl, ?_⟩) (by assumption) ?_
  · intro W0 hSw
    (try dsimp only at hSw)
    go_simp
  simp only [List.set_cons_zero]
  refine wpAnyH_done (by kernel_rfl) ?_ _
  refine NoPanic.normal ?_
  go_wp2_with fail
  go_ret
  exact ⟨rfl, bstep HB.out HBW.out⟩
end Go.Proofs.YtdaedkolpfkdjaaGreat
end
