/-
  The walk of the law PlaceAreas.
  What the tied variable's condition gives the walks: the table of halves.
  The law PlaceAreas of glazierlaw30 answers true at every input; the condition: the variable glazier/gravity.halves reads as its initialiser says, which the card ties to the program's text.
-/
import Derived.Test.YtbfefkhejknmoaaGreatDoorPlaceAreasC3
import Derived.Test.YtbfefkhejknmoaaGreatDoorCh34
import Derived.Test.YtbfefkhejknmoaaGreatDoorCh49
import Derived.LaidMore
import Derived.Stop.Joined
import Derived.Test.YtbfefkhejknmoaaGreatDoorTie
import Derived.Test.YtbfefkhejknmoaaGreatDoorCards
namespace Go.Proofs.YtbfefkhejknmoaaGreatDoor
open Go.RowKit Go.Maps Go.Shelf

/-- what is known of a window's area. -/
structure AreaOk (b : BX) (sh out : List RC) : Prop where
  len : out.length ≤ 100000
  cnt : ∀ r ∈ out, r.cnt = true
  corners : ∀ r ∈ out, (0 ≤ r.X ∧ r.X + r.W ≤ b.W) ∧ 0 ≤ r.Y ∧ r.Y + r.H ≤ b.H
  has : ∀ x y, hasL out x y = (inB [⟨0, 0, b.W, b.H⟩] x y && (!b.S || inB sh x y))
  areaE : b.S = false → areaL out = b.W * b.H
  areaLe : areaL out ≤ b.W * b.H
theorem inB_rect (W H x y : Int) : inB [⟨0, 0, W, H⟩] x y = true ↔ (0 ≤ x ∧ x < W) ∧ 0 ≤ y ∧ y < H := by
  rw [inB_iff]
  unfold InR
  constructor
  · rintro ⟨r, hr, h⟩
    obtain rfl := List.mem_singleton.1 hr
    dsimp only at h
    omega
  · intro h
    exact ⟨_, List.mem_singleton.2 rfl, by dsimp only; omega, by dsimp only; omega, by dsimp only; omega, by dsimp only; omega⟩
theorem areaOk_of {b : BX} {sh out : List RC} (hW : 1 ≤ b.W) (hH : 1 ≤ b.H) (hc : Canon out) (hin : ∀ x y, inB out x y = (inB [⟨0, 0, b.W, b.H⟩] x y && (!b.S || inB sh x y))) (hcnt : ∀ r ∈ out, r.cnt = true) (hlen : out.length ≤ 100000) : AreaOk b sh out := by
  have hsub : ∀ x y, InR out x y → (0 ≤ x ∧ x < b.W) ∧ 0 ≤ y ∧ y < b.H := fun x y h => by
    rw [← inB_iff, hin, Bool.and_eq_true] at h
    exact (inB_rect _ _ _ _).1 h.1
  have hco := in_corners (canon_pos hc) hsub
  refine ⟨hlen, hcnt, hco, fun x y => by rw [hasL_inB (canon_down hc), hin], fun hS => ?_, area_le (canon_down hc) (by omega) (by omega) hco⟩
  have e : out = [⟨0, 0, b.W, b.H⟩] := canon_uniq hc (canon_one (by dsimp only; omega) (by dsimp only; omega)) (fun x y => by
    rw [← inB_iff, ← inB_iff, hin, hS]
    simp)
  rw [e]
  simp [areaL]
/-- a window's shape, as it lies. -/
theorem shape_of {w : World} {bs : Bxs} {n : Nat} {l : List DB} {id : Int} {b : BX} (h : RelB (SmD w) bs n l) (hb : bs id = some b) : ∃ d ∈ l, ∃ sh, RegAt w (.agg #[.slice b.A b.n b.c]) sh ∧ EdgeIn sh (ysE (d.sh.filter RC.cnt)) (xsE (d.sh.filter RC.cnt)) := by
  by_cases e : ∃ d ∈ l, d.id = id
  · obtain ⟨d, hd, rfl⟩ := e
    obtain ⟨b2, hb2, hs⟩ := h.has d hd
    rw [hb] at hb2
    cases hb2
    obtain ⟨_, out, hr, hc, hp, hl⟩ := hs
    refine ⟨d, hd, out, ⟨b.A, b.c, by rw [hr.1], by rw [hr.1]; exact hr, hc, hl, canon_cnt (al := d.sh.filter RC.cnt) (fun r hr => (List.mem_filter.1 hr).2) hc (fun x y h => (hp x y).1 h)⟩, canon_edges hc hp (EdgeIn.own _)⟩
  · have := h.non id (fun d hd he => e ⟨d, hd, he⟩)
    rw [hb] at this
    cases this
theorem sh_len {w : World} {x : WN} {UL : List Int} {L l : List DB} (h : GivenW w x UL L) (hf : fewB L = true) (hl : l = L.foldl setL (newD x.W x.H)) : ∀ d ∈ l, d.sh.length ≤ 12 := fun d hd => by
  unfold fewB at hf
  rw [Bool.and_eq_true, decide_eq_true_eq] at hf
  obtain ⟨h1, h2⟩ := hf
  rw [List.take_of_length_le h2] at h1
  rw [hl] at hd
  rcases mem_foldL L _ hd with hd | hd
  · unfold newD at hd
    split at hd
    · obtain rfl : d = rootD x.W x.H := by simpa using hd
      show 0 ≤ 12
      decide
    · cases hd
  · have hn : d.b.n ≤ 12 := by simpa using List.all_eq_true.1 h1 d hd
    have := (h.each d hd).2.1.1
    omega
theorem edge_few {f sh : List RC} {W H : Int} (hf : f.length ≤ 12) (he : EdgeIn sh (ysE f) (xsE f)) : EdgeIn (sh ++ [⟨0, 0, W, H⟩]) (ysE f ++ ysE [⟨0, 0, W, H⟩]) (xsE f ++ xsE [⟨0, 0, W, H⟩]) ∧ (ysE f ++ ysE [⟨0, 0, W, H⟩]).length * (xsE f ++ xsE [⟨0, 0, W, H⟩]).length ≤ 100000 := by
  refine ⟨he.join (EdgeIn.own _), ?_⟩
  rw [List.length_append, List.length_append, ysE_len, ysE_len, xsE_len, xsE_len]
  simp only [List.length_cons, List.length_nil]
  have : (2 * f.length + 2 * (0 + 1)) * (2 * f.length + 2 * (0 + 1)) ≤ 26 * 26 := Nat.mul_le_mul (by omega) (by omega)
  omega
/-- the window's area, shaped or not. -/
theorem area_all (pv : Value) (n : Nat) (bs : Bxs) (id : Int) (b : BX) (sh : List RC) (Ys Xs : List Int) (w : World) (hid : 0 ≤ id ∧ id ≤ 4294967295) (hp : PlaceIs w pv n bs) (hb : bs id = some b) (hW : (1 ≤ b.W ∧ b.W ≤ 1000000) ∧ 1 ≤ b.H ∧ b.H ≤ 1000000)
    (ha : RegAt w (.agg #[.slice b.A b.n b.c]) sh) (he : EdgeIn (sh ++ [⟨0, 0, b.W, b.H⟩]) Ys Xs) (hYX : Ys.length * Xs.length ≤ 100000) :
    Calls Tryz.prog 19 #[pv, .int .u32 id] w fun e w' => ∃ A' c' out, e = .returned (.agg #[.slice A' out.length c']) ∧ RegAt w' (.agg #[.slice A' out.length c']) out ∧ AreaOk b sh out ∧ Below w.heap.size w w' := by
  cases hS : b.S
  · refine (area_plain pv n bs id b w hid hp hb hS ⟨by omega, by omega⟩).mono ?_
    rintro e w' ⟨out, A', c', rfl, hr, hc, hi, hl, hB⟩
    have hin : ∀ x y, inB out x y = (inB [⟨0, 0, b.W, b.H⟩] x y && (!b.S || inB sh x y)) := fun x y => by
      rw [hS, Bool.eq_iff_iff, inB_iff, hi]
      simp [inB_rect]
    have e1 : out = [⟨0, 0, b.W, b.H⟩] := canon_uniq hc (canon_one (by dsimp only; omega) (by dsimp only; omega)) (fun x y => by
      rw [← inB_iff, ← inB_iff, hin, hS]
      simp)
    have hcn : ∀ r ∈ out, r.cnt = true := fun r hr => by
      rw [e1] at hr
      obtain rfl := List.mem_singleton.1 hr
      exact (cnt_iff _).2 (by dsimp only; omega)
    exact ⟨A', c', out, rfl, ⟨A', c', rfl, hr, hc, hl, hcn⟩, areaOk_of hW.1.1 hW.2.1 hc hin hcn (by rw [e1]; simp), hB⟩
  · refine (area_shaped pv n bs id b sh Ys Xs w hid hp hb hS hW ha he hYX).mono ?_
    rintro e w' ⟨v, out, rfl, hro, hin, hed, hB⟩
    have hro' := hro
    obtain ⟨A', c', rfl, hr, hc, hl, hcn⟩ := hro
    exact ⟨A', c', out, rfl, hro', areaOk_of hW.1.1 hW.2.1 hc (fun x y => by rw [hin, hS, Bool.and_comm]; simp) hcn (Nat.le_trans (canon_count hc hed) hYX), hB⟩
theorem okBs_side {bs : Bxs} (h : okBs bs) {x : Int} {b : BX} (hb : bs x = some b) : (1 ≤ b.W ∧ b.W ≤ 128) ∧ 1 ≤ b.H ∧ b.H ≤ 128 := by
  obtain ⟨_, _, h1, h2, _⟩ := h x b hb
  exact ⟨h1, h2⟩

set_option maxRecDepth 100000 in
set_option maxHeartbeats 8000000 in
theorem pareas_any (x : WN) (id : Int) (UL : List Int) (L : List DB) (w : World) (hg : GivenW w x UL L) (hid : 0 ≤ id ∧ id ≤ 4294967295) (hH : Halves w) :
    Calls Tryz.prog 6 #[x.v, .int .u32 id] w fun e w' => e = .returned (.bool true) ∧ Below w.heap.size w w' := by
  have hw0 := hH.1
  obtain ⟨W, H, U, nu, cu, A, nl, cl⟩ := x
  have hxv : (⟨W, H, U, nu, cu, A, nl, cl⟩ : WN).v = .agg #[.int .i64 W, .int .i64 H, .slice U nu cu, .slice A nl cl] := rfl
  rw [hxv]
  have HXV := Lib.hid hxv
  have HB := Lib.hid (bal (bre w) (.cells #[.int .i64 W, .int .i64 H, .slice U nu cu, .slice A nl cl] 25))
  have HG := Lib.hid (hg.below HB.out)
  have HH := Lib.hid (hH.below HB.out hw0)
  have K2 := Lib.hid (Blk.new w 25 #[.int .i64 W, .int .i64 H, .slice U nu cu, .slice A nl cl])
  clear hg hH hxv
  go_enter Tryz.func6, Tryz.ntmps6
  go_wp2_with fail
  with_reducible refine (awake_any _ HH.out).mono ?_
  rintro e w1 ⟨rfl, hb1⟩
  replace HH := Lib.hid (HH.out.below hb1 HH.out.1)
  replace HG := Lib.hid (HG.out.below hb1)
  replace K2 := Lib.hid (K2.out.belowS hb1)
  replace HB := Lib.hid (bstep HB.out hb1)
  clear hb1
  have p0 := K2.out.cellV (i := 0) (v := .int .i64 W) rfl
  have p1 := K2.out.cellV (i := 1) (v := .int .i64 H) rfl
  have p2 := K2.out.cellV (i := 2) (v := .slice U nu cu) rfl
  have p3 := K2.out.cellV (i := 3) (v := .slice A nl cl) rfl
  go_wp2_with fail
  rw [← HXV.out]
  refine (few_any _ L _ HG.out.list HG.out.nl).mono ?_
  rintro e w2 ⟨rfl, hb2⟩
  clear p0 p1 p2 p3
  replace HH := Lib.hid (HH.out.below hb2 HH.out.1)
  replace HG := Lib.hid (HG.out.below hb2)
  replace K2 := Lib.hid (K2.out.belowS hb2)
  replace HB := Lib.hid (bstep HB.out hb2)
  clear hb2
  cases hf : fewB L
  · go_wp2_with fail
    go_ret
    exact ⟨rfl, HB.out⟩
  have HF := Lib.hid hf
  clear hf
  have p0 := K2.out.cellV (i := 0) (v := .int .i64 W) rfl
  have p1 := K2.out.cellV (i := 1) (v := .int .i64 H) rfl
  have p2 := K2.out.cellV (i := 2) (v := .slice U nu cu) rfl
  have p3 := K2.out.cellV (i := 3) (v := .slice A nl cl) rfl
  go_wp2_with fail
  rw [← HXV.out]
  refine (built_few _ UL L _ HG.out HF.out).mono ?_
  rintro e w3 ⟨mk, mu, mp, An, nn, cn, Al, cq, ns, n, bs, l, nk, fk, rfl, hat, hl, hn71, hb3⟩
  have HAT := Lib.hid hat
  have HSL := Lib.hid (sh_len HG.out HF.out hl)
  clear p0 p1 p2 p3 hat hl K2
  replace HB := Lib.hid (bstep HB.out hb3)
  clear hb3 HG HH HF HXV
  go_upto_region 6 with fail
  have hba : Below w3.heap.size w3 ((w3.alloc (.cells #[.map mk, .map mu] 35)).alloc (.cells #[.map mp] 38)) := bal (bal (bre w3) _) _
  have xHB := bstep HB.out hba
  have xHAT := HAT.out.below hba
  have xK6 := blk_new2 w3 (.cells #[.map mk, .map mu] 35) 38 #[.map mp]
  obtain ⟨X3, hX3⟩ : ∃ X3, (w3.alloc (.cells #[.map mk, .map mu] 35)).alloc (.cells #[.map mp] 38) = X3 := ⟨_, rfl⟩
  rw [hX3] at xHB xHAT xK6 ⊢
  replace HB := Lib.hid xHB
  replace HAT := Lib.hid xHAT
  have K6 := Lib.hid xK6
  clear hba hX3 xHB xHAT xK6
  have p8 := K6.out.cellV (i := 0) (v := .map mp) rfl
  go_wp2_with fail
  with_reducible refine (box_any _ n bs id _ hid HAT.out.place).mono ?_
  rintro e w4 ⟨rfl, hb4⟩
  obtain ⟨b0, hb0⟩ : ∃ b0, (bs id).getD zBX = b0 := ⟨_, rfl⟩
  obtain ⟨s, hs⟩ : ∃ s, (bs id).isSome = s := ⟨_, rfl⟩
  rw [hb0, hs]
  unfold BX.v
  have HB0 := Lib.hid hb0
  have HS := Lib.hid hs
  clear hb0 hs p8
  replace HB := Lib.hid (bstep HB.out hb4)
  replace HAT := Lib.hid (HAT.out.below hb4)
  replace K6 := Lib.hid (K6.out.belowS hb4)
  clear hb4
  go_upto_region 7 with fail
  have hba : Below w4.heap.size w4 (w4.alloc (.cells #[.int .i64 b0.X, .int .i64 b0.Y, .int .i64 b0.W, .int .i64 b0.H, .bool b0.M, .int .i64 b0.G, .int .i64 b0.B, .bool b0.S, .slice b0.A b0.n b0.c] 46)) := bal (bre w4) _
  have xHB := bstep HB.out hba
  have xHAT := HAT.out.below hba
  have xK6 := K6.out.belowS hba
  have xK10 := Blk.new w4 46 #[.int .i64 b0.X, .int .i64 b0.Y, .int .i64 b0.W, .int .i64 b0.H, .bool b0.M, .int .i64 b0.G, .int .i64 b0.B, .bool b0.S, .slice b0.A b0.n b0.c]
  obtain ⟨X4, hX4⟩ : ∃ X4, w4.alloc (.cells #[.int .i64 b0.X, .int .i64 b0.Y, .int .i64 b0.W, .int .i64 b0.H, .bool b0.M, .int .i64 b0.G, .int .i64 b0.B, .bool b0.S, .slice b0.A b0.n b0.c] 46) = X4 := ⟨_, rfl⟩
  rw [hX4] at xHB xHAT xK6 xK10 ⊢
  replace HB := Lib.hid xHB
  replace HAT := Lib.hid xHAT
  replace K6 := Lib.hid xK6
  have K10 := Lib.hid xK10
  clear hba hX4 xHB xHAT xK6 xK10
  have p8 := K6.out.cellV (i := 0) (v := .map mp) rfl
  cases s
  · as_aux_lemma =>
      have HN := Lib.hid (show bs id = none by have := HS.out; cases h : bs id with
        | none => rfl
        | some b => rw [h] at this; cases this)
      go_wp2_with fail
      refine (area_none (.agg #[.map mp]) n bs id _ hid HAT.out.place HN.out).mono ?_
      rintro e w5 ⟨rfl, hb5⟩
      replace HB := Lib.hid (bstep HB.out hb5)
      clear hb5 p8
      go_wp2_with fail
      refine (empty_any none 0 0 _).mono ?_
      rintro e w6 ⟨rfl, hb6⟩
      have HB6 := Lib.hid (bstep (bal HB.out (.cells #[.slice none 0 0] 44)) hb6)
      clear hb6
      go_wp2_with fail
      go_ret
      exact ⟨by simp, HB6.out⟩
  have HBI := Lib.hid (show bs id = some b0 by
    have h1 := HS.out
    have h2 := HB0.out
    cases hb : bs id with
    | none => rw [hb] at h1; cases h1
    | some b => rw [hb] at h2; exact congrArg some h2)
  have hsd := okBs_side HAT.out.rel.ok HBI.out
  obtain ⟨d, hd, sh, hsr, hse⟩ := shape_of HAT.out.rel HBI.out
  obtain ⟨hed, hed2⟩ := edge_few (W := b0.W) (H := b0.H) (Nat.le_trans (List.length_filter_le _ _) (HSL.out d hd)) hse
  have HED := Lib.hid hed
  have HED2 := Lib.hid hed2
  have HSH := Lib.hid hsr
  clear hd hsr hse hed hed2 HS HB0 HSL
  go_wp2_with fail
  refine (area_all (.agg #[.map mp]) n bs id b0 sh _ _ _ hid HAT.out.place HBI.out ⟨⟨hsd.1.1, by omega⟩, hsd.2.1, by omega⟩ HSH.out HED.out HED2.out).mono ?_
  rintro e w5 ⟨Aa, ca, out, rfl, hra, hok, hb5⟩
  have HRA := Lib.hid hra
  have HOK := Lib.hid hok
  clear hra hok p8 HED HED2 HBI HAT K6
  replace HB := Lib.hid (bstep HB.out hb5)
  replace K10 := Lib.hid (K10.out.belowS hb5)
  replace HSH := Lib.hid (HSH.out.below hb5)
  clear hb5
  obtain ⟨na, hna⟩ : ∃ na, out.length = na := ⟨_, rfl⟩
  have HNA := Lib.hid hna
  have hra := HRA.out
  rw [hna] at hra ⊢
  replace HRA := Lib.hid hra
  clear hra hna
  go_upto_region 8 with fail
  have hba : Below w5.heap.size w5 (w5.alloc (.cells #[.slice Aa na ca] 44)) := bal (bre w5) _
  have xHB := bstep HB.out hba
  have xK10 := K10.out.belowS hba
  have xHSH := HSH.out.below hba
  have xHRA := HRA.out.below hba
  have xK12 := Blk.new w5 44 #[.slice Aa na ca]
  obtain ⟨X5, hX5⟩ : ∃ X5, w5.alloc (.cells #[.slice Aa na ca] 44) = X5 := ⟨_, rfl⟩
  rw [hX5] at xHB xK10 xHSH xHRA xK12 ⊢
  replace HB := Lib.hid xHB
  replace K10 := Lib.hid xK10
  replace HSH := Lib.hid xHSH
  replace HRA := Lib.hid xHRA
  have K12 := Lib.hid xK12
  clear hba hX5 xHB xK10 xHSH xHRA xK12
  have p8 := K12.out.cellV (i := 0) (v := .slice Aa na ca) rfl
  go_wp2_with fail
  refine (rectsR_any _ out _ HRA.out).mono ?_
  rintro e w6 ⟨Ar, cr, rfl, hrr, hcr, hmr, hb6⟩
  have HRR := Lib.hid hrr
  clear hrr p8
  replace HB := Lib.hid (bstep HB.out hb6)
  replace K10 := Lib.hid (K10.out.belowS hb6)
  replace HSH := Lib.hid (HSH.out.below hb6)
  replace HRA := Lib.hid (HRA.out.below hb6)
  replace K12 := Lib.hid (K12.out.belowS hb6)
  clear hb6
  have h1 := HRR.out
  rw [HNA.out] at h1 hcr ⊢
  replace HRR := Lib.hid h1
  clear h1
  have hna2 : na ≤ 100000 := by rw [← HNA.out]; exact HOK.out.len
  go_wp2_with fail
  go_loopw [14] (fun i wr => ∃ k : Nat, i = .int .i64 k ∧ k ≤ na ∧ Below w6.heap.size w6 wr) (fun i _ => na - (intOf i).toNat)
  case atStart => exact ⟨0, rfl, by omega, bre w6⟩
  case round =>
    obtain ⟨k, rfl, hk, hB⟩ := hrel
    replace HB := Lib.hid (bstep HB.out hB)
    replace K10 := Lib.hid (K10.out.belowS hB)
    replace HSH := Lib.hid (HSH.out.below hB)
    replace HRA := Lib.hid (HRA.out.below hB)
    replace K12 := Lib.hid (K12.out.belowS hB)
    have HRR := Lib.hid (HRR.out.below hB)
    have HB9 := Lib.hid hB
    clear hB
    by_cases hlt : k < na
    · as_aux_lemma =>
        obtain ⟨r, hx⟩ : ∃ r, out[k]? = some r := ⟨_, List.getElem?_eq_getElem (by rw [HNA.out]; exact hlt)⟩
        have hrm := List.mem_of_getElem? hx
        obtain ⟨b, off, rfl, hb, hcl⟩ := HRR.out.2 (by omega)
        obtain ⟨c0, c1, c2, c3⟩ := hcl k r hx
        obtain ⟨⟨hX0, hXW⟩, hY0, hYH⟩ := HOK.out.corners r hrm
        obtain ⟨bX, bY⟩ := cntI r (HOK.out.cnt r hrm)
        have f2 := K10.out.cellV (i := 2) (v := .int .i64 b0.W) rfl
        have f3 := K10.out.cellV (i := 3) (v := .int .i64 b0.H) rfl
        have k1 : (k : Int) < (na : Int) := by omega
        have k0 : (0 : Int) ≤ (k : Int) := by omega
        have e1 : ¬ r.X < 0 := by omega
        have e2 : ¬ r.Y < 0 := by omega
        have e3 : ¬ b0.W < r.X + r.W := by omega
        have e4 : ¬ b0.H < r.Y + r.H := by omega
        have d1 := decide_eq_false e1
        have d2 := decide_eq_false e2
        have d3 := decide_eq_false e3
        have d4 := decide_eq_false e4
        clear e1 e2 e3 e4
        clear hcl hx hrm
        go_wp2_with fail
        go_quiet (fail)
        go_wp2_with fail
        go_roundw
        case rel => exact ⟨k + 1, by go_num, by omega, below_drewN HB9.out _⟩
        case measure => simp [intOf]; omega
    · focus
        obtain rfl : k = na := by omega
        have k1 : ¬ (k : Int) < (k : Int) := by omega
        have f7 := K10.out.cellV (i := 7) (v := .bool b0.S) rfl
        have hWH : 0 ≤ b0.W * b0.H ∧ b0.W * b0.H ≤ 16384 := ⟨Int.mul_nonneg (by omega) (by omega), Int.le_trans (Int.mul_le_mul (show b0.W ≤ 128 by omega) (show b0.H ≤ 128 by omega) (by omega) (by omega)) (by decide)⟩
        obtain ⟨Aa', ca', haa, hrd, _⟩ := HRA.out
        have hrd' := hrd
        clear haa hrd' HRR
        cases hbS : b0.S
      · have hAE := HOK.out.areaE hbS
        go_upto_region 17 with fail
        have HR1 := Lib.hid (show RdR wr Aa k out by
          obtain ⟨A1, c1, e1, h1, _⟩ := HRA.out
          injection e1 with e1
          have e2 := congrArg (fun a => a[0]?) e1
          simp at e2
          obtain ⟨e3, e4, _⟩ := e2
          rw [e3, HNA.out] at *
          exact h1)
        have HBW := Lib.hid (show Below wr.heap.size wr wr.drew from (bre wr).drew)
        refine wp_region_noPanic ?_
        refine wp_region_held_drew (S := (fun w' => w'.cell? ⟨w5.heap.size, 0, none⟩ = some (.slice Aa k ca) ∧ w'.cell? ⟨w4.heap.size, 2, none⟩ = some (.int .i64 b0.W) ∧ w'.cell? ⟨w4.heap.size, 3, none⟩ = some (.int .i64 b0.H))) (by kernel_rfl) ?_ (fun hHeld => ?_)
        · (try dsimp only)
          exact ⟨(K12.out.belowS HBW.out).cellV (i := 0) rfl, (K10.out.belowS HBW.out).cellV (i := 2) rfl, (K10.out.belowS HBW.out).cellV (i := 3) rfl⟩
        refine Tr.take_at 0 98 (.agg #[.slice Aa k ca]) rfl rfl (by kernel_rfl) (by kernel_rfl) (by kernel_rfl) (fun _ _ _ h => h) (Or.inl ⟨by rfl, ?_⟩) (by assumption) ?_
        · intro W0 hSw
          (try dsimp only at hSw)
          go_simp
        simp only [List.set_cons_zero, List.set_cons_succ]
        refine Tr.take_at 2 100 (.pointer (some ⟨w4.heap.size, 2, none⟩)) rfl rfl (by kernel_rfl) (by kernel_rfl) (by kernel_rfl) (fun _ _ _ h => h) (Or.inl ⟨by rfl, ?_⟩) (by assumption) ?_
        · intro W0 hSw
          (try dsimp only at hSw)
          go_simp
        simp only [List.set_cons_zero, List.set_cons_succ]
        refine Tr.take_at 3 101 (.int .i64 b0.W) rfl rfl (by kernel_rfl) (by kernel_rfl) (by kernel_rfl) (fun _ _ _ h => h) (Or.inl ⟨by rfl, ?_⟩) (by assumption) ?_
        · intro W0 hSw
          (try dsimp only at hSw)
          go_simp
        simp only [List.set_cons_zero, List.set_cons_succ]
        refine Tr.take_at 4 102 (.pointer (some ⟨w4.heap.size, 3, none⟩)) rfl rfl (by kernel_rfl) (by kernel_rfl) (by kernel_rfl) (fun _ _ _ h => h) (Or.inl ⟨by rfl, ?_⟩) (by assumption) ?_
        · intro W0 hSw
          (try dsimp only at hSw)
          go_simp
        simp only [List.set_cons_zero, List.set_cons_succ]
        refine Tr.take_at 5 103 (.int .i64 b0.H) rfl rfl (by kernel_rfl) (by kernel_rfl) (by kernel_rfl) (fun _ _ _ h => h) (Or.inl ⟨by rfl, ?_⟩) (by assumption) ?_
        · intro W0 hSw
          (try dsimp only at hSw)
          go_simp
        simp only [List.set_cons_zero, List.set_cons_succ]
        refine Tr.take_at 6 104 (.int .i64 (b0.W * b0.H)) rfl rfl (by kernel_rfl) (by kernel_rfl) (by kernel_rfl) (fun _ _ _ h => h) (Or.inl ⟨by rfl, ?_⟩) (by assumption) ?_
        · intro W0 hSw
          (try dsimp only at hSw)
          go_simp
          (try exact IntWalk.i64_in _ (by omega))
        simp only [List.set_cons_zero, List.set_cons_succ]
        refine wpAnyH_ready (rs := [1]) (by kernel_rfl) (by simp) ?_
        refine AllReadyH.cons rfl (fun K hK => ?_) AllReadyH.nil
        go_simp
        refine (area_any Aa k ca out _ (by omega) (HR1.out.below HBW.out) HOK.out.cnt).mono ?_
        rintro e wA ⟨rfl, hbA⟩
        rw [hAE]
        replace HBW := Lib.hid (bstep HBW.out hbA)
        clear hbA
        go_simp
        refine hK.out _ _ ?_ (fun hHeld => ?_)
        · (try dsimp only)
          exact ⟨(K12.out.belowS HBW.out).cellV (i := 0) rfl, (K10.out.belowS HBW.out).cellV (i := 2) rfl, (K10.out.belowS HBW.out).cellV (i := 3) rfl⟩
        clear hK K
        refine Tr.take_at 7 105 (.bool true) rfl rfl (by kernel_rfl) (by kernel_rfl) (by kernel_rfl) (fun _ _ _ h => h) (Or.inl ⟨by rfl, ?_⟩) (by assumption) ?_
        · intro W0 hSw
          (try dsimp only at hSw)
          go_simp
        simp only [List.set_cons_zero, List.set_cons_succ]
        refine Tr.take_at 8 4 (.bool true) rfl rfl (by kernel_rfl) (by kernel_rfl) (by kernel_rfl) (fun _ _ _ h => h) (Or.inl ⟨by rfl, ?_⟩) (by assumption) ?_
        · intro W0 hSw
          (try dsimp only at hSw)
          go_simp
        simp only [List.set_cons_zero, List.set_cons_succ]
        refine wpAnyH_done (by kernel_rfl) ?_ _
        refine NoPanic.normal ?_
        go_wp2_with fail
        go_ret
        exact ⟨rfl, bstep HB.out HBW.out⟩
      · have hAL := HOK.out.areaLe
        go_upto_region 18 with fail
        have HR1 := Lib.hid (show RdR wr Aa k out by
          obtain ⟨A1, c1, e1, h1, _⟩ := HRA.out
          injection e1 with e1
          have e2 := congrArg (fun a => a[0]?) e1
          simp at e2
          obtain ⟨e3, e4, _⟩ := e2
          rw [e3, HNA.out] at *
          exact h1)
        have hshr := HSH.out
        obtain ⟨A2, c2, e2, h2, h2c, h2l, h2n⟩ := hshr
        have e3 : b0.A = A2 ∧ b0.n = sh.length ∧ b0.c = c2 := by
          injection e2 with e2
          have e2 := congrArg (fun a => a[0]?) e2
          simpa using e2
        have HR2 := Lib.hid (show RdR wr b0.A b0.n sh by rw [e3.1, e3.2.1]; exact h2)
        have HLB1 := Lib.hid (show k ≤ 100000 from hna2)
        have HLB2 := Lib.hid (show b0.n ≤ 1000000000000 by rw [e3.2.1]; exact h2l)
        have HCN1 := Lib.hid HOK.out.cnt
        have HCN2 := Lib.hid h2n
        obtain ⟨p00, hp00⟩ : ∃ p, inB sh 0 0 = p := ⟨_, rfl⟩
        obtain ⟨p11, hp11⟩ : ∃ p, inB sh (b0.W - 1) (b0.H - 1) = p := ⟨_, rfl⟩
        have q00 : hasL sh 0 0 = p00 := by rw [hasL_inB (canon_down h2c)]; exact hp00
        have q11 : hasL sh (b0.W - 1) (b0.H - 1) = p11 := by rw [hasL_inB (canon_down h2c)]; exact hp11
        have a00 : hasL out 0 0 = p00 := by rw [HOK.out.has, (inB_rect _ _ _ _).2 (by omega), hbS, hp00]; simp
        have a11 : hasL out (b0.W - 1) (b0.H - 1) = p11 := by rw [HOK.out.has, (inB_rect _ _ _ _).2 (by omega), hbS, hp11]; simp
        have HQ := Lib.hid (And.intro q00 (And.intro q11 (And.intro a00 a11)))
        clear e2 e3 h2 h2c h2l h2n hp00 hp11 q00 q11 a00 a11
        have HBW := Lib.hid (show Below wr.heap.size wr wr.drew from (bre wr).drew)
        refine wp_region_noPanic ?_
        refine wp_region_held_drew (S := (fun w' => w'.cell? ⟨w5.heap.size, 0, none⟩ = some (.slice Aa k ca) ∧ w'.cell? ⟨w4.heap.size, 2, none⟩ = some (.int .i64 b0.W) ∧ w'.cell? ⟨w4.heap.size, 3, none⟩ = some (.int .i64 b0.H) ∧ w'.cell? ⟨w4.heap.size, 8, none⟩ = some (.slice b0.A b0.n b0.c))) (by kernel_rfl) ?_ (fun hHeld => ?_)
        · (try dsimp only)
          exact ⟨(K12.out.belowS HBW.out).cellV (i := 0) rfl, (K10.out.belowS HBW.out).cellV (i := 2) rfl, (K10.out.belowS HBW.out).cellV (i := 3) rfl, (K10.out.belowS HBW.out).cellV (i := 8) rfl⟩
        refine Tr.take_at 0 106 (.agg #[.slice Aa k ca]) rfl rfl (by kernel_rfl) (by kernel_rfl) (by kernel_rfl) (fun _ _ _ h => h) (Or.inl ⟨by rfl, ?_⟩) (by assumption) ?_
        · intro W0 hSw
          (try dsimp only at hSw)
          go_simp
        simp only [List.set_cons_zero, List.set_cons_succ]
        refine Tr.take_at 2 108 (.pointer (some ⟨w4.heap.size, 8, none⟩)) rfl rfl (by kernel_rfl) (by kernel_rfl) (by kernel_rfl) (fun _ _ _ h => h) (Or.inl ⟨by rfl, ?_⟩) (by assumption) ?_
        · intro W0 hSw
          (try dsimp only at hSw)
          go_simp
        simp only [List.set_cons_zero, List.set_cons_succ]
        refine Tr.take_at 3 109 (.agg #[.slice b0.A b0.n b0.c]) rfl rfl (by kernel_rfl) (by kernel_rfl) (by kernel_rfl) (fun _ _ _ h => h) (Or.inl ⟨by rfl, ?_⟩) (by assumption) ?_
        · intro W0 hSw
          (try dsimp only at hSw)
          go_simp
        simp only [List.set_cons_zero, List.set_cons_succ]
        refine wpAnyH_ready (rs := [1]) (by kernel_rfl) (by simp) ?_
        refine AllReadyH.cons rfl (fun K hK => ?_) AllReadyH.nil
        go_simp
        refine (hasR_any Aa k ca out 0 0 _ (by have := HLB1.out; omega) (HR1.out.below HBW.out) HCN1.out).mono ?_
        rintro e wA ⟨rfl, hbA⟩
        rw [HQ.out.2.2.1]
        replace HBW := Lib.hid (bstep HBW.out hbA)
        clear hbA
        go_simp
        refine hK.out _ _ ?_ (fun hHeld => ?_)
        · (try dsimp only)
          exact ⟨(K12.out.belowS HBW.out).cellV (i := 0) rfl, (K10.out.belowS HBW.out).cellV (i := 2) rfl, (K10.out.belowS HBW.out).cellV (i := 3) rfl, (K10.out.belowS HBW.out).cellV (i := 8) rfl⟩
        clear hK K
        refine wpAnyH_ready (rs := [4]) (by kernel_rfl) (by simp) ?_
        refine AllReadyH.cons rfl (fun K hK => ?_) AllReadyH.nil
        go_simp
        refine (hasR_any b0.A b0.n b0.c sh 0 0 _ (by have := HLB2.out; omega) (HR2.out.below HBW.out) HCN2.out).mono ?_
        rintro e wB ⟨rfl, hbA⟩
        rw [HQ.out.1]
        replace HBW := Lib.hid (bstep HBW.out hbA)
        clear hbA
        go_simp
        refine hK.out _ _ ?_ (fun hHeld => ?_)
        · (try dsimp only)
          exact ⟨(K12.out.belowS HBW.out).cellV (i := 0) rfl, (K10.out.belowS HBW.out).cellV (i := 2) rfl, (K10.out.belowS HBW.out).cellV (i := 3) rfl, (K10.out.belowS HBW.out).cellV (i := 8) rfl⟩
        clear hK K
        refine Tr.take_at 5 111 (.bool true) rfl rfl (by kernel_rfl) (by kernel_rfl) (by kernel_rfl) (fun _ _ _ h => h) (Or.inl ⟨by rfl, ?_⟩) (by assumption) ?_
        · intro W0 hSw
          (try dsimp only at hSw)
          go_simp
        simp only [List.set_cons_zero, List.set_cons_succ]
        refine Tr.take_at 6 112 (.bool true) rfl rfl (by kernel_rfl) (by kernel_rfl) (by kernel_rfl) (fun _ _ _ h => h) (Or.inl ⟨by rfl, ?_⟩) (by assumption) ?_
        · intro W0 hSw
          (try dsimp only at hSw)
          go_simp
        simp only [List.set_cons_zero, List.set_cons_succ]
        refine Tr.take_at 7 113 (.agg #[.slice Aa k ca]) rfl rfl (by kernel_rfl) (by kernel_rfl) (by kernel_rfl) (fun _ _ _ h => h) (Or.inl ⟨by rfl, ?_⟩) (by assumption) ?_
        · intro W0 hSw
          (try dsimp only at hSw)
          go_simp
        simp only [List.set_cons_zero, List.set_cons_succ]
        refine Tr.take_at 8 114 (.pointer (some ⟨w4.heap.size, 2, none⟩)) rfl rfl (by kernel_rfl) (by kernel_rfl) (by kernel_rfl) (fun _ _ _ h => h) (Or.inl ⟨by rfl, ?_⟩) (by assumption) ?_
        · intro W0 hSw
          (try dsimp only at hSw)
          go_simp
        simp only [List.set_cons_zero, List.set_cons_succ]
        refine Tr.take_at 9 115 (.int .i64 b0.W) rfl rfl (by kernel_rfl) (by kernel_rfl) (by kernel_rfl) (fun _ _ _ h => h) (Or.inl ⟨by rfl, ?_⟩) (by assumption) ?_
        · intro W0 hSw
          (try dsimp only at hSw)
          go_simp
        simp only [List.set_cons_zero, List.set_cons_succ]
        refine Tr.take_at 10 116 (.int .i64 (b0.W - 1)) rfl rfl (by kernel_rfl) (by kernel_rfl) (by kernel_rfl) (fun _ _ _ h => h) (Or.inl ⟨by rfl, ?_⟩) (by assumption) ?_
        · intro W0 hSw
          (try dsimp only at hSw)
          go_simp
          (try exact IntWalk.i64_in _ (by omega))
        simp only [List.set_cons_zero, List.set_cons_succ]
        refine Tr.take_at 11 117 (.pointer (some ⟨w4.heap.size, 3, none⟩)) rfl rfl (by kernel_rfl) (by kernel_rfl) (by kernel_rfl) (fun _ _ _ h => h) (Or.inl ⟨by rfl, ?_⟩) (by assumption) ?_
        · intro W0 hSw
          (try dsimp only at hSw)
          go_simp
        simp only [List.set_cons_zero, List.set_cons_succ]
        refine Tr.take_at 12 118 (.int .i64 b0.H) rfl rfl (by kernel_rfl) (by kernel_rfl) (by kernel_rfl) (fun _ _ _ h => h) (Or.inl ⟨by rfl, ?_⟩) (by assumption) ?_
        · intro W0 hSw
          (try dsimp only at hSw)
          go_simp
        simp only [List.set_cons_zero, List.set_cons_succ]
        refine Tr.take_at 13 119 (.int .i64 (b0.H - 1)) rfl rfl (by kernel_rfl) (by kernel_rfl) (by kernel_rfl) (fun _ _ _ h => h) (Or.inl ⟨by rfl, ?_⟩) (by assumption) ?_
        · intro W0 hSw
          (try dsimp only at hSw)
          go_simp
          (try exact IntWalk.i64_in _ (by omega))
        simp only [List.set_cons_zero, List.set_cons_succ]
        refine Tr.take_at 15 121 (.pointer (some ⟨w4.heap.size, 8, none⟩)) rfl rfl (by kernel_rfl) (by kernel_rfl) (by kernel_rfl) (fun _ _ _ h => h) (Or.inl ⟨by rfl, ?_⟩) (by assumption) ?_
        · intro W0 hSw
          (try dsimp only at hSw)
          go_simp
        simp only [List.set_cons_zero, List.set_cons_succ]
        refine Tr.take_at 16 122 (.agg #[.slice b0.A b0.n b0.c]) rfl rfl (by kernel_rfl) (by kernel_rfl) (by kernel_rfl) (fun _ _ _ h => h) (Or.inl ⟨by rfl, ?_⟩) (by assumption) ?_
        · intro W0 hSw
          (try dsimp only at hSw)
          go_simp
        simp only [List.set_cons_zero, List.set_cons_succ]
        refine Tr.take_at 17 123 (.pointer (some ⟨w4.heap.size, 2, none⟩)) rfl rfl (by kernel_rfl) (by kernel_rfl) (by kernel_rfl) (fun _ _ _ h => h) (Or.inl ⟨by rfl, ?_⟩) (by assumption) ?_
        · intro W0 hSw
          (try dsimp only at hSw)
          go_simp
        simp only [List.set_cons_zero, List.set_cons_succ]
        refine Tr.take_at 18 124 (.int .i64 b0.W) rfl rfl (by kernel_rfl) (by kernel_rfl) (by kernel_rfl) (fun _ _ _ h => h) (Or.inl ⟨by rfl, ?_⟩) (by assumption) ?_
        · intro W0 hSw
          (try dsimp only at hSw)
          go_simp
        simp only [List.set_cons_zero, List.set_cons_succ]
        refine Tr.take_at 19 125 (.int .i64 (b0.W - 1)) rfl rfl (by kernel_rfl) (by kernel_rfl) (by kernel_rfl) (fun _ _ _ h => h) (Or.inl ⟨by rfl, ?_⟩) (by assumption) ?_
        · intro W0 hSw
          (try dsimp only at hSw)
          go_simp
          (try exact IntWalk.i64_in _ (by omega))
        simp only [List.set_cons_zero, List.set_cons_succ]
        refine Tr.take_at 20 126 (.pointer (some ⟨w4.heap.size, 3, none⟩)) rfl rfl (by kernel_rfl) (by kernel_rfl) (by kernel_rfl) (fun _ _ _ h => h) (Or.inl ⟨by rfl, ?_⟩) (by assumption) ?_
        · intro W0 hSw
          (try dsimp only at hSw)
          go_simp
        simp only [List.set_cons_zero, List.set_cons_succ]
        refine Tr.take_at 21 127 (.int .i64 b0.H) rfl rfl (by kernel_rfl) (by kernel_rfl) (by kernel_rfl) (fun _ _ _ h => h) (Or.inl ⟨by rfl, ?_⟩) (by assumption) ?_
        · intro W0 hSw
          (try dsimp only at hSw)
          go_simp
        simp only [List.set_cons_zero, List.set_cons_succ]
        refine Tr.take_at 22 128 (.int .i64 (b0.H - 1)) rfl rfl (by kernel_rfl) (by kernel_rfl) (by kernel_rfl) (fun _ _ _ h => h) (Or.inl ⟨by rfl, ?_⟩) (by assumption) ?_
        · intro W0 hSw
          (try dsimp only at hSw)
          go_simp
          (try exact IntWalk.i64_in _ (by omega))
        simp only [List.set_cons_zero, List.set_cons_succ]
        refine wpAnyH_ready (rs := [14]) (by kernel_rfl) (by simp) ?_
        refine AllReadyH.cons rfl (fun K hK => ?_) AllReadyH.nil
        go_simp
        refine (hasR_any Aa k ca out (b0.W - 1) (b0.H - 1) _ (by have := HLB1.out; omega) (HR1.out.below HBW.out) HCN1.out).mono ?_
        rintro e wC ⟨rfl, hbA⟩
        rw [HQ.out.2.2.2]
        replace HBW := Lib.hid (bstep HBW.out hbA)
        clear hbA
        go_simp
        refine hK.out _ _ ?_ (fun hHeld => ?_)
        · (try dsimp only)
          exact ⟨(K12.out.belowS HBW.out).cellV (i := 0) rfl, (K10.out.belowS HBW.out).cellV (i := 2) rfl, (K10.out.belowS HBW.out).cellV (i := 3) rfl, (K10.out.belowS HBW.out).cellV (i := 8) rfl⟩
        clear hK K
        refine wpAnyH_ready (rs := [23]) (by kernel_rfl) (by simp) ?_
        refine AllReadyH.cons rfl (fun K hK => ?_) AllReadyH.nil
        go_simp
        refine (hasR_any b0.A b0.n b0.c sh (b0.W - 1) (b0.H - 1) _ (by have := HLB2.out; omega) (HR2.out.below HBW.out) HCN2.out).mono ?_
        rintro e wD ⟨rfl, hbA⟩
        rw [HQ.out.2.1]
        replace HBW := Lib.hid (bstep HBW.out hbA)
        clear hbA
        go_simp
        refine hK.out _ _ ?_ (fun hHeld => ?_)
        · (try dsimp only)
          exact ⟨(K12.out.belowS HBW.out).cellV (i := 0) rfl, (K10.out.belowS HBW.out).cellV (i := 2) rfl, (K10.out.belowS HBW.out).cellV (i := 3) rfl, (K10.out.belowS HBW.out).cellV (i := 8) rfl⟩
        clear hK K
        refine Tr.take_at 24 130 (.bool true) rfl rfl (by kernel_rfl) (by kernel_rfl) (by kernel_rfl) (fun _ _ _ h => h) (Or.inl ⟨by rfl, ?_⟩) (by assumption) ?_
        · intro W0 hSw
          (try dsimp only at hSw)
          go_simp
        simp only [List.set_cons_zero, List.set_cons_succ]
        refine Tr.take_at 25 131 (.bool true) rfl rfl (by kernel_rfl) (by kernel_rfl) (by kernel_rfl) (fun _ _ _ h => h) (Or.inl ⟨by rfl, ?_⟩) (by assumption) ?_
        · intro W0 hSw
          (try dsimp only at hSw)
          go_simp
        simp only [List.set_cons_zero, List.set_cons_succ]
        refine Tr.take_at 26 132 (.bool true) rfl rfl (by kernel_rfl) (by kernel_rfl) (by kernel_rfl) (fun _ _ _ h => h) (Or.inl ⟨by rfl, ?_⟩) (by assumption) ?_
        · intro W0 hSw
          (try dsimp only at hSw)
          go_simp
        simp only [List.set_cons_zero, List.set_cons_succ]
        refine Tr.take_at 27 133 (.agg #[.slice Aa k ca]) rfl rfl (by kernel_rfl) (by kernel_rfl) (by kernel_rfl) (fun _ _ _ h => h) (Or.inl ⟨by rfl, ?_⟩) (by assumption) ?_
        · intro W0 hSw
          (try dsimp only at hSw)
          go_simp
        simp only [List.set_cons_zero, List.set_cons_succ]
        refine Tr.take_at 29 135 (.pointer (some ⟨w4.heap.size, 2, none⟩)) rfl rfl (by kernel_rfl) (by kernel_rfl) (by kernel_rfl) (fun _ _ _ h => h) (Or.inl ⟨by rfl, ?_⟩) (by assumption) ?_
        · intro W0 hSw
          (try dsimp only at hSw)
          go_simp
        simp only [List.set_cons_zero, List.set_cons_succ]
        refine Tr.take_at 30 136 (.int .i64 b0.W) rfl rfl (by kernel_rfl) (by kernel_rfl) (by kernel_rfl) (fun _ _ _ h => h) (Or.inl ⟨by rfl, ?_⟩) (by assumption) ?_
        · intro W0 hSw
          (try dsimp only at hSw)
          go_simp
        simp only [List.set_cons_zero, List.set_cons_succ]
        refine Tr.take_at 31 137 (.pointer (some ⟨w4.heap.size, 3, none⟩)) rfl rfl (by kernel_rfl) (by kernel_rfl) (by kernel_rfl) (fun _ _ _ h => h) (Or.inl ⟨by rfl, ?_⟩) (by assumption) ?_
        · intro W0 hSw
          (try dsimp only at hSw)
          go_simp
        simp only [List.set_cons_zero, List.set_cons_succ]
        refine Tr.take_at 32 138 (.int .i64 b0.H) rfl rfl (by kernel_rfl) (by kernel_rfl) (by kernel_rfl) (fun _ _ _ h => h) (Or.inl ⟨by rfl, ?_⟩) (by assumption) ?_
        · intro W0 hSw
          (try dsimp only at hSw)
          go_simp
        simp only [List.set_cons_zero, List.set_cons_succ]
        refine Tr.take_at 33 139 (.int .i64 (b0.W * b0.H)) rfl rfl (by kernel_rfl) (by kernel_rfl) (by kernel_rfl) (fun _ _ _ h => h) (Or.inl ⟨by rfl, ?_⟩) (by assumption) ?_
        · intro W0 hSw
          (try dsimp only at hSw)
          go_simp
          (try exact IntWalk.i64_in _ (by omega))
        simp only [List.set_cons_zero, List.set_cons_succ]
        obtain ⟨ar, har⟩ : ∃ ar, areaL out = ar := ⟨_, rfl⟩
        have hal2 : ar ≤ b0.W * b0.H := by rw [← har]; exact hAL
        refine wpAnyH_ready (rs := [28]) (by kernel_rfl) (by simp) ?_
        refine AllReadyH.cons rfl (fun K hK => ?_) AllReadyH.nil
        go_simp
        refine (area_any Aa k ca out _ (by omega) (HR1.out.below HBW.out) HOK.out.cnt).mono ?_
        rintro e wE ⟨rfl, hbA⟩
        rw [har]
        replace HBW := Lib.hid (bstep HBW.out hbA)
        clear hbA
        go_simp
        refine hK.out _ _ ?_ (fun hHeld => ?_)
        · (try dsimp only)
          exact ⟨(K12.out.belowS HBW.out).cellV (i := 0) rfl, (K10.out.belowS HBW.out).cellV (i := 2) rfl, (K10.out.belowS HBW.out).cellV (i := 3) rfl, (K10.out.belowS HBW.out).cellV (i := 8) rfl⟩
        clear hK K
        refine Tr.take_at 34 140 (.bool true) rfl rfl (by kernel_rfl) (by kernel_rfl) (by kernel_rfl) (fun _ _ _ h => h) (Or.inl ⟨by rfl, ?_⟩) (by assumption) ?_
        · intro W0 hSw
          (try dsimp only at hSw)
          go_simp
          (try exact hal2)
        simp only [List.set_cons_zero, List.set_cons_succ]
        refine Tr.take_at 35 141 (.bool true) rfl rfl (by kernel_rfl) (by kernel_rfl) (by kernel_rfl) (fun _ _ _ h => h) (Or.inl ⟨by rfl, ?_⟩) (by assumption) ?_
        · intro W0 hSw
          (try dsimp only at hSw)
          go_simp
        simp only [List.set_cons_zero, List.set_cons_succ]
        refine Tr.take_at 36 4 (.bool true) rfl rfl (by kernel_rfl) (by kernel_rfl) (by kernel_rfl) (fun _ _ _ h => h) (Or.inl ⟨by rfl, ?_⟩) (by assumption) ?_
        · intro W0 hSw
          (try dsimp only at hSw)
          go_simp
        simp only [List.set_cons_zero, List.set_cons_succ]
        refine wpAnyH_done (by kernel_rfl) ?_ _
        refine NoPanic.normal ?_
        go_wp2_with fail
        go_ret
        exact ⟨rfl, bstep HB.out HBW.out⟩

end Go.Proofs.YtbfefkhejknmoaaGreatDoor

namespace Go.Proofs.YtbfefkhejknmoaaGreatDoor
open Go.ChangeShapes Go.WideShapes Go.ChangeAt Go.RowKit

theorem Tryz.gHalves : Tryz.prog.globalNamed "glazier/gravity.halves" = some 0 := by kernel_rfl
theorem Tryz.tHalves : (Tryz.prog.globals[0]?).map (·.type) = some 112 := by kernel_rfl
theorem Tryz.cellsPair : Tryz.prog.cellsOf 111 = 2 := by kernel_rfl
theorem Tryz.cellsInt1 : Tryz.prog.cellsOf 3 = 1 := by kernel_rfl
abbrev laidHalves : List (String × DataW Unit) := [("glazier/gravity.halves", Rows.laid_glazier_gravity_halves)]

theorem laid_list : (Rows.laid_glazier_gravity_halves : DataW Unit) = .agg (halvesL.map fun h => .agg [.lit (.int .i64 h.1), .lit (.int .i64 h.2)]) := rfl

section
variable {H : Type} {enc : TypeId × Value → H} {w : World} {spare : Nat → Bool} {held : Bool}
set_option maxRecDepth 100000 in
/-- a pair of numbers, read, is these two cells. -/
theorem pair_cells {fuel base : Nat} {l : List Value} {x : DataW H × List MemPlace} {a b : Int} (h : DataW.trod enc Tryz.prog w base spare held fuel 111 l = some x) (hx : x.1 = .agg [.lit (.int .i64 a), .lit (.int .i64 b)]) : l[0]? = some (.int .i64 a) ∧ l[1]? = some (.int .i64 b) := by
  obtain ⟨ys, m, rfl, rfl, hl, hn, hel⟩ := DataW.trod_array Tryz.underlying111 h
  dsimp only at hx
  injection hx with hx
  match ys, hn, hx, hel with
  | [y0, y1], _, hx, hel =>
    simp only [List.map_cons, List.map_nil, List.cons.injEq, and_true] at hx
    have h0 := hel 0 (by decide)
    have h1 := hel 1 (by decide)
    rw [Tryz.cellsInt1] at h0 h1
    obtain ⟨k0, e0, f0, _⟩ := DataW.trod_int Tryz.underlying3 (show DataW.trod enc Tryz.prog w base spare held m 3 _ = some y0 from h0)
    obtain ⟨k1, e1, f1, _⟩ := DataW.trod_int Tryz.underlying3 (show DataW.trod enc Tryz.prog w base spare held m 3 _ = some y1 from h1)
    rw [f0, f1] at hx
    obtain ⟨hx0, hx1⟩ := hx
    injection hx0 with hx0
    injection hx0 with _ hx0
    injection hx1 with hx1
    injection hx1 with _ hx1
    subst hx0 hx1
    have g0 := congrArg (·[0]?) e0
    have g1 := congrArg (·[0]?) e1
    simp [List.getElem?_take, List.getElem?_drop] at g0 g1
    exact ⟨g0, g1⟩
end

set_option maxRecDepth 100000 in
theorem halves_of_laid {W : World} (h : laidMetH Tryz.prog laidHalves W) : Halves W := by
  rw [MakeChecks.laidMetH_plain _ _ _ (by kernel_rfl)] at h
  obtain ⟨ps, ⟨g, t, cs, fuel, p, q, hg, ht, hv, hd, _⟩, _⟩ := h
  obtain rfl := Option.some.inj (Tryz.gHalves.symm.trans hg)
  obtain rfl := Option.some.inj (Tryz.tHalves.symm.trans ht)
  obtain ⟨xs, m, rfl, hx, hl, hn, hel⟩ := DataW.trod_array Tryz.underlying112 hd
  simp only [Prod.mk.injEq] at hx
  obtain ⟨hx, _⟩ := hx
  rw [laid_list] at hx
  injection hx with hx
  have key : ∀ k h, halvesL[k]? = some h → W.cell? ⟨0, k * 2, none⟩ = some (.int .i64 h.1) ∧ W.cell? ⟨0, k * 2 + 1, none⟩ = some (.int .i64 h.2) := by
    intro k h hk
    have hk10 : k < 10 := by
      have := (List.getElem?_eq_some_iff.1 hk).1
      simpa [halvesL] using this
    have e := congrArg (·[k]?) hx
    simp only [List.getElem?_map, hk, Option.map_some] at e
    have hxk := hel k hk10
    rw [Tryz.cellsPair] at hxk
    cases hxs : xs[k]? with
    | none => rw [hxs] at e; cases e
    | some x =>
      rw [hxs] at e hxk
      simp only [Option.map_some, Option.some.injEq] at e
      obtain ⟨c0, c1⟩ := pair_cells hxk e.symm
      rw [List.getElem?_take, if_pos (by decide), List.getElem?_drop] at c0 c1
      rw [World.var?_cell hg hv, World.var?_cell hg hv, ← Array.getElem?_toList, ← Array.getElem?_toList]
      exact ⟨c0, c1⟩
  have h0 := (key 0 (0, 0) rfl).1
  exact ⟨Nat.lt_of_le_of_lt (Nat.zero_le _) (block_lt_of_cell h0), key⟩

end Go.Proofs.YtbfefkhejknmoaaGreatDoor

namespace Go.Proofs.YtbfefkhejknmoaaGreatDoor
open Go.ChangeShapes Go.WideShapes Go.ChangeAt Go.RowKit Go.Joins

/-- the door's own heap meets the condition. -/
theorem door_met (os : Os) (args : Array Value) : laidMetH Tryz.prog laidHalves ((World.doorLaid Tryz.prog 400 os).forCall (fun _ _ => 0) ⟨#[], args, []⟩).memory :=
  laidMetH_of_parts3 (fuel := 8) (laidMet_of_run' 8 (by kernel_rfl) (by kernel_rfl)) (by kernel_rfl) (by kernel_rfl)

set_option maxRecDepth 100000 in
set_option maxHeartbeats 1000000 in
theorem placeAreas_lifted (os : Os) (started : os.Started) (H : Type) (enc : TypeId × Value → H) :
    ReturnsInHanded {} Tryz.checked os 6 .any (fun w args => (Rows.placeAreasSpec.pre enc Tryz.prog Tryz.f6 [] false w args ∧ laidMetH Tryz.prog laidHalves w) ∧ sizedMet enc Tryz.prog Tryz.f6 (OpenSpec.ofChange Rows.placeAreasSpec) false w args)
      (Rows.placeAreasSpec.post enc Tryz.prog Tryz.f6 false true false false) := by
  refine returnsInHanded_of_change_and (C := Tryz.checked) (X := fun w _ => laidMetH Tryz.prog laidHalves w) (fun _ _ _ hh h => h.of_heap hh) Tryz.own started (by kernel_rfl) Tryz.func6
    (ChangeSpec.witness_shaped (enc := enc) (C := Tryz.checked) (os := os) (X := fun w _ => laidMetH Tryz.prog laidHalves w) false (World.doorLaid Tryz.prog 400 os) #[.agg #[.int .i64 0, .int .i64 0, .slice none 0 0, .slice none 0 0], .int .u32 0] 8 rfl (World.shaped_of_RefB (by kernel_rfl) (by kernel_rfl)) (by kernel_rfl) (by kernel_rfl) (by kernel_rfl) (door_met os _)) ?_
  intro W base args ds gs before hval0 hW _ _ hL9 _
  have hval : ∀ (j : Nat) t v, Tryz.f6.params[j]? = some t → args[j]? = some v → Value.okWide Tryz.prog W .any base t v := hval0
  have hW' := hW
  obtain ⟨p, q, hA0, hV, rfl, hfz, hnd⟩ := hW
  have hA : DataW.TrodAll enc Tryz.prog W 0 (fun _ => true) true Tryz.f6.params.toList args.toList ds p := hA0
  have hAk := hA
  obtain ⟨rfl, rfl⟩ := trodVars_none hV
  rw [List.append_nil] at hW'
  rw [Tryz.params6] at hA hval
  obtain ⟨v0, v1, d0, d1, p0, p1, rfl, rfl, rfl, h0, h1⟩ := trodAll_two hA
  obtain ⟨c00, c01, c02, c03, y00, y01, y02, y03, m0, rfl, rfl, rfl, hy00, hy01, hy02, hy03⟩ := open_agg4 Tryz.underlying25 (by kernel_rfl) Tryz.cellsWn (hval 0 25 v0 rfl rfl) h0
  obtain ⟨x00, e00, _, _⟩ := DataW.trod_int Tryz.underlying3 hy00
  obtain ⟨x01, e01, _, _⟩ := DataW.trod_int Tryz.underlying3 hy01
  obtain ⟨U, nu, cu, UL, e02, hnu, hU, huq⟩ := open_u32s Tryz.underlying22 Tryz.underlying27 Tryz.cellsId hy02
  obtain ⟨A, nl, cl, L, e03, hnl, hL, hLq⟩ := open_boxes hy03
  obtain ⟨x1, rfl, rfl, rfl, wx1⟩ := open_int Tryz.underlying27 (hval 1 27 v1 rfl rfl) h1
  simp at e00 e01
  subst e00 e01 e02 e03
  clear hA0 hval0
  refine (pareas_any ⟨x00, x01, U, nu, cu, A, nl, cl⟩ x1 UL L W ⟨hU, hL, hnl, hnu, huq, hLq⟩ (bounds_u32 wx1) (halves_of_laid hL9)).mono fun e W' ⟨he, hb⟩ => ?_
  subst he
  exact ⟨_, rfl, law_post Tryz.laidOut (by decide +kernel) rfl hW' hAk rfl rfl Tryz.underlying4 hb⟩

theorem placeAreas_holds : Rows.PlaceAreasSaid :=
  OpenClaim.holds_of_wide 6 Tryz.f6 rfl rfl rfl rfl rfl rfl rfl ⟨rfl, rfl, rfl, rfl, rfl⟩ rfl rfl rfl rfl rfl (by kernel_rfl) Tryz.func6 (by kernel_rfl)
    (of_decide_eq_true (by kernel_rfl)) (by unfold Func.isWrapper; first | (rw [if_pos (by decide +kernel)]; kernel_rfl) | (rw [if_neg (by decide +kernel)]; exact ⟨rfl, rfl⟩))
    (fun os started H enc _ => placeAreas_lifted os started H enc)

theorem placeAreasCard_holds : Rows.PlaceAreasCardSaid :=
  Claim7.holds_tied_plain_at .later [] [.data] true (true, "7e18aa3ce4ce8d08ea2eccc5da179edd956af2dc673a182403e55aabf4ae2175") true
    placeAreas_holds (fun _ h => by cases h) (by kernel_rfl) (fun _ h => by cases h) placeAreas_row_tie rfl ⟨rfl, rfl⟩ (by kernel_rfl) rfl
    (fun f fn hf hfn => by
      obtain rfl : f = 6 := Option.some.inj ((show Tryz.prog.funcNamed "glazier/glazierlaw30.PlaceAreas" = some 6 by kernel_rfl).symm.trans hf) |>.symm
      obtain rfl : fn = Tryz.f6 := (Option.some.inj (Tryz.func6.symm.trans hfn)).symm
      exact ⟨by kernel_rfl, fun j t ht => by
        rw [Tryz.params6] at ht
        have hm : t ∈ [25, 27] := by simpa using Array.mem_of_getElem? ht
        have hall : ([25, 27].all fun u => !Tryz.prog.wantsStandIn u) = true := by kernel_rfl
        exact (show Tryz.prog.wantsStandIn t = false by simpa using List.all_eq_true.1 hall t hm)⟩)
    (by kernel_rfl)

end Go.Proofs.YtbfefkhejknmoaaGreatDoor
