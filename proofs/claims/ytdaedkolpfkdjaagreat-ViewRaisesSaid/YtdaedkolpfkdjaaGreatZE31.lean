/-
  The walk of glazierlaw31.built: windows' tree and places.
-/
import Derived.Test.YtdaedkolpfkdjaaGreatZE28
import Derived.Sort.CutIn
section
namespace Go.Proofs.YtdaedkolpfkdjaaGreat
open Go.RowKit Go.Maps Go.Shelf

section
variable {W W' : World} {g : Nat} {bs : Bxs} {RW RH : Int} {l : List DW}
theorem SceneIs.keepG (h : SceneIs W bs RW RH l) (hg : W.grownBy W' (some g)) (hno : NoInt W g) : SceneIs W' bs RW RH l :=
  ⟨h.root, fun i d hd => by
    obtain ⟨b, h1, h2, out, h3, h4⟩ := h.each i d hd
    exact ⟨b, h1, h2, out, h3.keepG hg hno, h4⟩, h.only⟩
theorem Blk.noInt1 {t : TypeId} {m : Option Nat} (h : Blk W g t #[.map m]) : NoInt W g := fun o k i e => by
  rw [h.cell] at e
  match o, e with
  | 0, e => simp at e
  | o + 1, e => simp at e
theorem Blk.noInt2 {t : TypeId} {m n : Option Nat} (h : Blk W g t #[.map m, .map n]) : NoInt W g := fun o k i e => by
  rw [h.cell] at e
  match o, e with
  | 0, e => simp at e
  | 1, e => simp at e
  | o + 2, e => simp at e
end
/-- tree and places of windows. -/
structure MadeAt (w : World) (mk mu mp : Option Nat) (nk : Nat) (fk : Int → Option Value) (bs : Bxs) (RW RH : Int) (l : List DW) : Prop where
  tree : TreeIs w (.agg #[.map mk, .map mu]) (nodesW l) mk mu nk fk
  place : PlaceIs w (.agg #[.map mp]) (l.length + 1) bs
  scene : SceneIs w bs RW RH l
section
variable {w w' : World} {mk mu mp : Option Nat} {nk : Nat} {fk : Int → Option Value} {bs : Bxs} {RW RH : Int} {l : List DW}
theorem BoxOf.keepG {W W' : World} {d : DW} {b : BX} {g : Nat} (h : BoxOf W d b) (hg : W.grownBy W' (some g)) (hno : NoInt W g) : BoxOf W' d b := by
  obtain ⟨h1, out, h2, h3⟩ := h
  exact ⟨h1, out, h2.keepG hg hno, h3⟩
theorem MadeAt.below (h : MadeAt w mk mu mp nk fk bs RW RH l) (hb : Below w.heap.size w w') : MadeAt w' mk mu mp nk fk bs RW RH l := ⟨h.tree.below hb, h.place.below hb, h.scene.below hb⟩
theorem MadeAt.set1 (h : MadeAt w mk mu mp nk fk bs RW RH l) {B : Nat} {t : TypeId} {m : Option Nat} (hB : Blk w B t #[.map m]) (i : Nat) (u : Value) : MadeAt (w.setCell ⟨B, i, none⟩ u) mk mu mp nk fk bs RW RH l :=
  ⟨h.tree.setBlk hB (map_no m) i u, h.place.setBlk hB i u, h.scene.keepG (grown_setCell w ⟨B, i, none⟩ u) hB.noInt1⟩
theorem MadeAt.set2 (h : MadeAt w mk mu mp nk fk bs RW RH l) {B : Nat} {t : TypeId} {m n : Option Nat} (hB : Blk w B t #[.map m, .map n]) (i : Nat) (u : Value) : MadeAt (w.setCell ⟨B, i, none⟩ u) mk mu mp nk fk bs RW RH l :=
  ⟨h.tree.setBlk hB (maps_no m n) i u, h.place.setBlk hB i u, h.scene.keepG (grown_setCell w ⟨B, i, none⟩ u) hB.noInt2⟩
end
theorem idC_W {n : Int} (h : 0 ≤ n ∧ n ≤ 1000) : idC (idW n) = 0 := by
  have e : idW n = 1048577 + n := by unfold idW; rw [if_neg (by omega)]
  unfold idC clientB
  rw [e, if_neg (by omega)]
  have h1 : ¬ ((1048577 + n) % 1048576 = 0) := by omega
  have h2 : ¬ ((1048577 + n) / 1048576 < 1) := by omega
  have h3 : ¬ (8 < (1048577 + n) / 1048576) := by omega
  simp [h1, h2, h3]
theorem UpOk.take {l : List DW} (h : UpOk l) (k : Nat) : UpOk (l.take k) := fun i d hd => by
  rw [List.getElem?_take] at hd
  split at hd
  · exact h i d hd
  · cases hd
theorem addC_W {l : List DW} {k : Nat} {d : DW} (h : UpOk l) (hd : l[k]? = some d) (hk : k ≤ 60) : addC (nodesW (l.take k)) (idW k) (idW d.P) = 0 := by
  have hlt := (List.getElem?_eq_some_iff.1 hd).1
  have hlen : (l.take k).length = k := by rw [List.length_take]; omega
  have hp := h k d hd
  have h1 : hasN (nodesW (l.take k)) (idW k) = false := by
    cases hh : hasN (nodesW (l.take k)) (idW k) with
    | false => rfl
    | true =>
      obtain ⟨n, a, b, e⟩ := hasW_inv hh
      have := idW_inj (by omega) a e
      rw [hlen] at b
      omega
  have h2 : hasN (nodesW (l.take k)) (idW d.P) = true := hasW hp.1 (by rw [hlen]; exact hp.2)
  unfold addC
  rw [idC_W (by omega), h1, h2, nodesW_len, hlen]
  simp
  omega
theorem setC_W {bs : Bxs} {W : World} {RW RH : Int} {l : List DW} {d : DW} {b : BX} (h : SceneIs W bs RW RH l) (hl : l.length ≤ 60) (hD : DWok d) (hB : BoxOf W d b) (hG : b.G = 0 ∧ b.B = 0) (hn : b.S = false → b.n = 0) : setC bs (l.length + 1) (idW l.length) b = 0 := by
  obtain ⟨⟨e1, e2, e3, e4, e5, e6⟩, _⟩ := hB
  have hx := hD.x
  have hy := hD.y
  have hw := hD.w
  have hh := hD.h
  have hid : idW (l.length : Int) ≠ 1 := by rw [idW_nat]; omega
  have hno : bs (idW l.length) = none := by
    cases hb : bs (idW l.length) with
    | none => rfl
    | some b' =>
      rcases h.only _ _ hb with e | ⟨i, hi, e⟩
      · exact absurd e hid
      · have := idW_inj (by omega) (by omega) e
        omega
  unfold setC
  rw [if_neg hid, idC_W (by omega), if_neg (by simp), e1, e2, e3, e4, hG.1, hG.2, hno]
  have c1 : coordB d.X = true := by unfold coordB; rw [Bool.and_eq_true, decide_eq_true_eq, decide_eq_true_eq]; omega
  have c2 : coordB d.Y = true := by unfold coordB; rw [Bool.and_eq_true, decide_eq_true_eq, decide_eq_true_eq]; omega
  have c3 : sideB d.W = true := by unfold sideB; rw [Bool.and_eq_true, decide_eq_true_eq, decide_eq_true_eq]; omega
  have c4 : sideB d.H = true := by unfold sideB; rw [Bool.and_eq_true, decide_eq_true_eq, decide_eq_true_eq]; omega
  have c5 : gravC 0 = 0 := rfl
  have c6 : ¬ (b.S = false ∧ b.n ≠ 0) := fun hq => hq.2 (hn hq.1)
  rw [c1, c2, c3, c4, c5, if_neg (by decide), if_neg (by decide), if_neg (by decide), if_neg c6, if_neg (by simp; omega), if_neg (by omega)]

theorem SceneIs.fresh {bs : Bxs} {W : World} {RW RH : Int} {l : List DW} (h : SceneIs W bs RW RH l) : bs (idW l.length) = none := by
  cases hb : bs (idW l.length) with
  | none => rfl
  | some b' =>
    rcases h.only _ _ hb with e | ⟨i, hi, e⟩
    · rw [idW_nat] at e; omega
    · have := idW_inj (by omega) (by omega) e
      omega
theorem id_b (n : Int) (w : World) (h : -1 ≤ n ∧ n ≤ 1000000) : Calls Tryz.prog 24 #[.int .i64 n] w fun e w' => e = .returned (.int .u32 (idW n)) ∧ Below w.heap.size w w' := by
  refine (id_any n w h).mono ?_
  rintro e w' ⟨h1, rfl⟩
  exact ⟨h1, bre w⟩
theorem sh_cnt {d : DW} (h : DWok d) (x y : Int) : InR (d.sh.filter RC.cnt) x y ↔ InR d.sh x y := by
  constructor
  · rintro ⟨r, hr, hq⟩
    exact ⟨r, (List.mem_filter.1 hr).1, hq⟩
  · rintro ⟨r, hr, hq⟩
    have h1 := h.sh r hr
    exact ⟨r, List.mem_filter.2 ⟨hr, (cnt_iff r).2 (by omega)⟩, hq⟩
theorem box_of {W : World} {d : DW} (h : DWok d) {out : List RC} {Ao : Option Addr} {co : Nat} (hr : RdR W Ao out.length out) (hc : Canon out) (hp : ∀ x y, InR out x y ↔ InR d.sh x y) (hl : out.length ≤ 1000000000000) : BoxOf W d ⟨d.X, d.Y, d.W, d.H, d.M, 0, 0, d.S, Ao, out.length, co⟩ := by
  refine ⟨⟨rfl, rfl, rfl, rfl, rfl, rfl⟩, out, ⟨Ao, co, rfl, hr, hc, hl, fun r hr => ?_⟩, fun x y => by rw [Bool.eq_iff_iff, inB_iff, inB_iff, hp]⟩
  have hps := canon_pos hc r hr
  obtain ⟨q, hq, h1, h2, h3, h4⟩ := (hp r.X r.Y).1 ⟨r, hr, by omega, by omega, by omega, by omega⟩
  obtain ⟨q', hq', g1, g2, g3, g4⟩ := (hp (r.X + r.W - 1) (r.Y + r.H - 1)).1 ⟨r, hr, by omega, by omega, by omega, by omega⟩
  have b1 := h.sh q hq
  have b2 := h.sh q' hq'
  exact (cnt_iff r).2 (by omega)
theorem no_places {out : List RC} (hc : Canon out) (h : ∀ x y, ¬ InR out x y) : out = [] :=
  canon_uniq hc canon_nilV (fun x y => ⟨fun h1 => absurd h1 (h x y), fun ⟨r, hr, _⟩ => by cases hr⟩)
set_option maxRecDepth 100000 in
theorem Tryz.sizeTr : (Tryz.prog.info? 37).map (·.size) = some 2 := by kernel_rfl
set_option maxRecDepth 100000 in
theorem Tryz.sizePl : (Tryz.prog.info? 40).map (·.size) = some 1 := by kernel_rfl

set_option maxRecDepth 100000 in
set_option maxHeartbeats 8000000 in
theorem built31_any (A : Option Addr) (n c : Nat) (l : List DW) (RW RH : Int) (w : World) (hl : RdWs w A n l) (hn : n ≤ 60) (hu : UpOk l) (hok : ∀ d ∈ l, DWok d) (hR : (1 ≤ RW ∧ RW ≤ 128) ∧ 1 ≤ RH ∧ RH ≤ 128) :
    Calls Tryz.prog 22 #[.int .i64 RW, .int .i64 RH, .slice A n c] w fun e w' => ∃ mk mu mp nk fk bs, e = .returned (.tuple #[.agg #[.map mk, .map mu], .agg #[.map mp], .bool true]) ∧ MadeAt w' mk mu mp nk fk bs RW RH l ∧ Below w.heap.size w w' := by
  have HL := Lib.hid hl
  have HUP := Lib.hid hu
  have HOK := Lib.hid hok
  have HRR := Lib.hid hR
  have HLN := Lib.hid hl.recs.1
  clear hl hu hok hR
  go_enter Tryz.func22, Tryz.ntmps22
  go_wp2_with fail
  have hba := bal (bal (bre w) (.cells #[.map none, .map none] 37)) (.cells #[.map none] 40)
  have xK6 := (Blk.new w 37 #[.map none, .map none]).alloc (.cells #[.map none] 40)
  have xK7 := blk_new2 w (.cells #[.map none, .map none] 37) 40 #[.map none]
  obtain ⟨X0, hX0⟩ : ∃ X0, (w.alloc (.cells #[.map none, .map none] 37)).alloc (.cells #[.map none] 40) = X0 := ⟨_, rfl⟩
  have hsz : X0.heap.size = w.heap.size + 1 + 1 := by rw [← hX0]; simp
  rw [hX0] at hba xK6 xK7 ⊢
  have HB := Lib.hid hba
  have K6 := Lib.hid xK6
  have K7 := Lib.hid xK7
  have HS0 := Lib.hid hsz
  clear hba xK6 xK7 hX0 hsz
  refine (tnew_any _).mono ?_
  rintro e w1 ⟨rfl, hb1⟩
  have HS1 := Lib.hid hb1.size
  replace HB := Lib.hid (bstep HB.out hb1)
  replace K6 := Lib.hid (K6.out.belowS hb1)
  replace K7 := Lib.hid (K7.out.belowS hb1)
  clear hb1
  go_upto_region 2 with fail
  have hba : Below w1.heap.size w1 (w1.alloc (.cells #[.map none, .map none] 37)) := bal (bre w1) _
  have xHB := bstep HB.out hba
  have xK6 := K6.out.belowS hba
  have xK7 := K7.out.belowS hba
  have xK9 := Blk.new w1 37 #[.map none, .map none]
  obtain ⟨X1, hX1⟩ : ∃ X1, w1.alloc (.cells #[.map none, .map none] 37) = X1 := ⟨_, rfl⟩
  rw [hX1] at hba xHB xK6 xK7 xK9 ⊢
  replace HB := Lib.hid xHB
  replace K6 := Lib.hid xK6
  replace K7 := Lib.hid xK7
  have K9 := Lib.hid xK9
  have HSX1 := Lib.hid hba.size
  have HTK9 := Lib.hid K9.out.lt
  clear hX1 hba xHB xK6 xK7 xK9
  go_wp2_with fail
  refine (pnew_any RW RH _ (by have := HRR.out; unfold sideB; rw [Bool.and_eq_true, decide_eq_true_eq, decide_eq_true_eq]; omega) (by have := HRR.out; unfold sideB; rw [Bool.and_eq_true, decide_eq_true_eq, decide_eq_true_eq]; omega)).mono ?_
  rintro e w2 ⟨pv0, rfl, hp0, hb2⟩
  have HP0 := Lib.hid hp0
  obtain ⟨mp0, rfl, _⟩ := hp0
  have HS2 := Lib.hid hb2.size
  replace HB := Lib.hid (bstep HB.out hb2)
  replace K6 := Lib.hid (K6.out.belowS hb2)
  replace K7 := Lib.hid (K7.out.belowS hb2)
  replace K9 := Lib.hid (K9.out.belowS hb2)
  clear hb2
  go_upto_region 3 with fail
  have hba : Below w2.heap.size w2 (w2.alloc (.cells #[.map mp0] 40)) := bal (bre w2) _
  have xHB := bstep HB.out hba
  have xK6 := K6.out.belowS hba
  have xK7 := K7.out.belowS hba
  have xK9 := K9.out.belowS hba
  have xHP0 := HP0.out.below hba
  have xK10 := Blk.new w2 40 #[.map mp0]
  obtain ⟨X2, hX2⟩ : ∃ X2, w2.alloc (.cells #[.map mp0] 40) = X2 := ⟨_, rfl⟩
  rw [hX2] at hba xHB xK6 xK7 xK9 xHP0 xK10 ⊢
  replace HB := Lib.hid xHB
  replace K6 := Lib.hid xK6
  replace K7 := Lib.hid xK7
  replace K9 := Lib.hid xK9
  replace HP0 := Lib.hid xHP0
  have K10 := Lib.hid xK10
  have HSX2 := Lib.hid hba.size
  have HTK10 := Lib.hid K10.out.lt
  clear hX2 hba xHB xK6 xK7 xK9 xHP0 xK10
  have HLT := Lib.hid (show w.heap.size + 1 < w1.heap.size ∧ w1.heap.size < w2.heap.size by have := HS0.out; have := HS1.out; have := HSX1.out; have := HS2.out; have := HTK9.out; omega)
  have HMD := Lib.hid (show MadeAt X2 none none mp0 0 (fun _ => none) (fun i => if i = 1 then some (rootBX RW RH) else none) RW RH [] from ⟨tree_new X2, HP0.out, SceneIs.nil⟩)
  go_wp2_with fail
  go_loopw [12] (fun i wr => ∃ (k : Nat) (mk mu mp : Option Nat) (nk : Nat) (fk : Int → Option Value) (bs : Bxs), i = .int .i64 k ∧ k ≤ n ∧ (Blk wr w.heap.size 37 #[.map none, .map none] ∧ Blk wr (w.heap.size + 1) 40 #[.map none] ∧ Blk wr w1.heap.size 37 #[.map mk, .map mu] ∧ Blk wr w2.heap.size 40 #[.map mp]) ∧ MadeAt wr mk mu mp nk fk bs RW RH (l.take k) ∧ Below w.heap.size w wr) (fun i _ => n - (intOf i).toNat)
  case atStart => exact ⟨0, none, none, mp0, 0, _, _, rfl, by omega, ⟨K6.out, K7.out, K9.out, K10.out⟩, HMD.out, HB.out⟩
  case round =>
    obtain ⟨k, mk, mu, mp, nk, fk, bs, rfl, hk, ⟨h6, h7, h9, h10⟩, hmd, hB⟩ := hrel
    replace HB := Lib.hid hB
    replace HMD := Lib.hid hmd
    replace K6 := Lib.hid h6
    replace K7 := Lib.hid h7
    replace K9 := Lib.hid h9
    replace K10 := Lib.hid h10
    clear hB hmd h6 h7 h9 h10 HP0
    by_cases hlt : k < n
    · obtain ⟨d, hx⟩ : ∃ d, l[k]? = some d := ⟨_, List.getElem?_eq_getElem (by rw [HLN.out]; exact hlt)⟩
      have k1 : (k : Int) < (n : Int) := by omega
      have k0 : (0 : Int) ≤ (k : Int) := by omega
      have HX := Lib.hid hx
      have HD := Lib.hid (HOK.out d (List.mem_of_getElem? hx))
      have HPB := Lib.hid (HUP.out k d hx)
      have HTK := Lib.hid (take_snocI' hx)
      have HKL := Lib.hid (show (l.take k).length = k by rw [List.length_take, HLN.out]; omega)
      have HADD := Lib.hid (addC_W HUP.out hx (by omega))
      obtain ⟨b, off, rfl, hb, hcl⟩ := HL.out.at_ (by omega)
      obtain ⟨⟨c0, c1, c2, c3⟩, c4, c5, c6, c7⟩ := hcl k d hx
      have HC := Lib.hid (And.intro (And.intro c0 (And.intro c1 (And.intro c2 c3))) (And.intro c4 (And.intro c5 (And.intro c6 c7))))
      have HBL := Lib.hid hb
      have HSHP := Lib.hid (HL.out.shapes d (List.mem_of_getElem? hx))
      clear hx hb hcl c0 c1 c2 c3 c4 c5 c6 c7
      have hlt' := hlt
      go_upto_region 8 with fail
      go_cut [13, 14] from 103 (fun s13 s14 wx => ∃ (g : Nat) (mk' mu' : Option Nat) (nk' : Nat) (fk' : Int → Option Value), s13 = .pointer (some ⟨g, 0, none⟩) ∧ s14 = .int .i64 0 ∧ wr.heap.size ≤ g ∧ Blk wx g 37 #[.map mk', .map mu'] ∧ TreeIs wx (.agg #[.map mk', .map mu']) (nodesW (l.take (k + 1))) mk' mu' nk' fk' ∧ Below wr.heap.size wr wx)
      case first =>
        as_aux_lemma =>
          have HBW := Lib.hid (show Below wr.heap.size wr wr.drew from (bre wr).drew)
          refine wp_region_noPanic ?_
          refine wp_region_held_drew (S := (fun w' => w'.cell? ⟨w1.heap.size, 0, none⟩ = some (.map mk) ∧ w'.cell? ⟨w1.heap.size, 1, none⟩ = some (.map mu) ∧ w'.cell? ⟨b, off + k * 8, none⟩ = some (.int .i64 d.P))) (by kernel_rfl) ?_ (fun hHeld => ?_)
          · (try dsimp only)
            exact ⟨(K9.out.belowS HBW.out).cellV (i := 0) rfl, (K9.out.belowS HBW.out).cellV (i := 1) rfl, (((bstep HB.out HBW.out).cell (p := ⟨b, off + k * 8, none⟩) HBL.out).trans HC.out.1.1)⟩
          refine Tr.take_at 0 35 (.agg #[.map mk, .map mu]) rfl rfl (by kernel_rfl) (by kernel_rfl) (by kernel_rfl) (fun _ _ _ h => h) (Or.inl ⟨by rfl, ?_⟩) (by assumption) ?_
          · intro W0 hSw
            (try dsimp only at hSw)
            go_simp
          simp only [List.set_cons_zero, List.set_cons_succ]
          refine Tr.take_at 1 36 (.int .i64 k) rfl rfl (by kernel_rfl) (by kernel_rfl) (by kernel_rfl) (fun _ _ _ h => h) (Or.inl ⟨by rfl, ?_⟩) (by assumption) ?_
          · intro W0 hSw
            (try dsimp only at hSw)
            go_simp
          simp only [List.set_cons_zero, List.set_cons_succ]
          refine Tr.take_at 3 38 (.slice (some ⟨b, off, none⟩) n c) rfl rfl (by kernel_rfl) (by kernel_rfl) (by kernel_rfl) (fun _ _ _ h => h) (Or.inl ⟨by rfl, ?_⟩) (by assumption) ?_
          · intro W0 hSw
            (try dsimp only at hSw)
            go_simp
          simp only [List.set_cons_zero, List.set_cons_succ]
          refine Tr.take_at 4 39 (.int .i64 k) rfl rfl (by kernel_rfl) (by kernel_rfl) (by kernel_rfl) (fun _ _ _ h => h) (Or.inl ⟨by rfl, ?_⟩) (by assumption) ?_
          · intro W0 hSw
            (try dsimp only at hSw)
            go_simp
          simp only [List.set_cons_zero, List.set_cons_succ]
          refine Tr.take_at 5 40 (.pointer (some ⟨b, off + k * 8, none⟩)) rfl rfl (by kernel_rfl) (by kernel_rfl) (by kernel_rfl) (fun _ _ _ h => h) (Or.inl ⟨by rfl, ?_⟩) (by assumption) ?_
          · intro W0 hSw
            (try dsimp only at hSw)
            go_simp
          simp only [List.set_cons_zero, List.set_cons_succ]
          refine Tr.take_at 6 41 (.pointer (some ⟨b, off + k * 8, none⟩)) rfl rfl (by kernel_rfl) (by kernel_rfl) (by kernel_rfl) (fun _ _ _ h => h) (Or.inl ⟨by rfl, ?_⟩) (by assumption) ?_
          · intro W0 hSw
            (try dsimp only at hSw)
            go_simp
          simp only [List.set_cons_zero, List.set_cons_succ]
          refine Tr.take_at 7 42 (.int .i64 d.P) rfl rfl (by kernel_rfl) (by kernel_rfl) (by kernel_rfl) (fun _ _ _ h => h) (Or.inl ⟨by rfl, ?_⟩) (by assumption) ?_
          · intro W0 hSw
            (try dsimp only at hSw)
            go_simp
          simp only [List.set_cons_zero, List.set_cons_succ]
          refine wpAnyH_ready (rs := [2, 13]) (by kernel_rfl) (by simp) ?_
          refine AllReadyH.cons rfl (fun K hK => ?_) (AllReadyH.cons rfl (fun K hK => ?_) AllReadyH.nil)
          ·
            go_simp
            refine (id_b (k : Int) _ (by omega)).mono ?_
            rintro e wc0 ⟨rfl, hbA⟩
            replace HBW := Lib.hid (bstep HBW.out hbA)
            clear hbA
            go_simp
            refine hK.out _ _ ?_ (fun hHeld => ?_)
            · (try dsimp only)
              exact ⟨(K9.out.belowS HBW.out).cellV (i := 0) rfl, (K9.out.belowS HBW.out).cellV (i := 1) rfl, (((bstep HB.out HBW.out).cell (p := ⟨b, off + k * 8, none⟩) HBL.out).trans HC.out.1.1)⟩
            clear hK K
            refine wpAnyH_ready (rs := [8, 13]) (by kernel_rfl) (by simp) ?_
            refine AllReadyH.cons rfl (fun K hK => ?_) (AllReadyH.cons rfl (fun K hK => ?_) AllReadyH.nil)
            ·
              go_simp
              refine (id_b d.P _ (by have := HPB.out; omega)).mono ?_
              rintro e wc1 ⟨rfl, hbA⟩
              replace HBW := Lib.hid (bstep HBW.out hbA)
              clear hbA
              go_simp
              refine hK.out _ _ ?_ (fun hHeld => ?_)
              · (try dsimp only)
                exact ⟨(K9.out.belowS HBW.out).cellV (i := 0) rfl, (K9.out.belowS HBW.out).cellV (i := 1) rfl, (((bstep HB.out HBW.out).cell (p := ⟨b, off + k * 8, none⟩) HBL.out).trans HC.out.1.1)⟩
              clear hK K
              refine wpAnyH_ready (rs := [9, 13]) (by kernel_rfl) (by simp) ?_
              refine AllReadyH.cons rfl (fun K hK => ?_) (AllReadyH.cons rfl (fun K hK => ?_) AllReadyH.nil)
              ·
                go_simp
                refine (tadd_any (.agg #[.map mk, .map mu]) (nodesW (l.take k)) mk mu nk fk (idW k) (idW d.P) _ (idW_bd (by omega)) (idW_bd (by have := HPB.out; omega)) (HMD.out.tree.below HBW.out)).mono ?_
                rintro e wc2 ⟨⟨v', mk', mu', nk', fk', rfl, ht'⟩, hbA⟩
                have e9 : addN (nodesW (l.take k)) (idW k) (idW d.P) = nodesW (l.take (k + 1)) := by
                  unfold addN
                  rw [HADD.out, if_pos rfl, HTK.out, nodesW_snoc, HKL.out]
                rw [HADD.out]
                rw [e9] at ht'
                have hsv := ht'.shape
                subst hsv
                have HTN := Lib.hid ht'
                clear ht' e9
                replace HBW := Lib.hid (bstep HBW.out hbA)
                clear hbA
                go_simp
                refine hK.out _ _ ?_ (fun hHeld => ?_)
                · (try dsimp only)
                  exact ⟨(K9.out.belowS HBW.out).cellV (i := 0) rfl, (K9.out.belowS HBW.out).cellV (i := 1) rfl, (((bstep HB.out HBW.out).cell (p := ⟨b, off + k * 8, none⟩) HBL.out).trans HC.out.1.1)⟩
                clear hK K
                refine Tr.take_at 10 34 (.tuple #[.agg #[.map mk', .map mu'], .int .i64 0]) rfl rfl (by kernel_rfl) (by kernel_rfl) (by kernel_rfl) (fun _ _ _ h => h) (Or.inl ⟨by rfl, ?_⟩) (by assumption) ?_
                · intro W0 hSw
                  (try dsimp only at hSw)
                  go_simp
                simp only [List.set_cons_zero, List.set_cons_succ]
                refine Tr.take_at 11 45 (.agg #[.map mk', .map mu']) rfl rfl (by kernel_rfl) (by kernel_rfl) (by kernel_rfl) (fun _ _ _ h => h) (Or.inl ⟨by rfl, ?_⟩) (by assumption) ?_
                · intro W0 hSw
                  (try dsimp only at hSw)
                  go_simp
                simp only [List.set_cons_zero, List.set_cons_succ]
                refine Tr.take_at 12 46 (.int .i64 0) rfl rfl (by kernel_rfl) (by kernel_rfl) (by kernel_rfl) (fun _ _ _ h => h) (Or.inl ⟨by rfl, ?_⟩) (by assumption) ?_
                · intro W0 hSw
                  (try dsimp only at hSw)
                  go_simp
                simp only [List.set_cons_zero, List.set_cons_succ]
                refine wpAnyH_ready (rs := [13]) (by kernel_rfl) (by simp) ?_
                refine AllReadyH.cons rfl (fun K hK => ?_) AllReadyH.nil
                go_simp
                have KA13 := Lib.hid (show Blk (wc2.alloc (.cells #[.map none, .map none] 37)) (wc2.heap.size) 37 #[.map none, .map none] from Blk.new wc2 37 #[.map none, .map none])
                have HL13 := Lib.hid (show wr.heap.size ≤ wc2.heap.size from HBW.out.size)
                have hbA : Below wc2.heap.size wc2 ((wc2.alloc (.cells #[.map none, .map none] 37))) := bal (bre wc2) (.cells #[.map none, .map none] 37)
                replace HBW := Lib.hid (bstep HBW.out hbA)
                replace HTN := Lib.hid (HTN.out.below hbA)
                clear hbA
                refine hK.out _ _ ?_ (fun hHeld => ?_)
                · (try dsimp only)
                  exact ⟨(K9.out.belowS HBW.out).cellV (i := 0) rfl, (K9.out.belowS HBW.out).cellV (i := 1) rfl, (((bstep HB.out HBW.out).cell (p := ⟨b, off + k * 8, none⟩) HBL.out).trans HC.out.1.1)⟩
                clear hK K
                refine wpAnyH_ready (rs := [14]) (by kernel_rfl) (by simp) ?_
                refine AllReadyH.cons rfl (fun K hK => ?_) AllReadyH.nil
                refine Tr.wanted_plain rfl ?_
                refine store_mid0 rfl 37 _ _ rfl (wc2.heap.size) 0 #[.map mk', .map mu'] (by rfl) (by rfl) (by have h := there_blk KA13.out; exact h) Tryz.sizeTr (by simp [Value.oneCell']) ?_
                have xK := blk_puts2 (.map mk') (.map mu') KA13.out
                have xB := bsets HBW.out HL13.out (#[.map mk', .map mu'] : Array Value).toList 0
                have xHTN := (show TreeIs (World.setCells (wc2.alloc (.cells #[.map none, .map none] 37)) (wc2.heap.size) 0 (#[.map mk', .map mu'] : Array Value).toList) (.agg #[.map mk', .map mu']) (nodesW (l.take (k + 1))) mk' mu' nk' fk' from (HTN.out.setBlk KA13.out (maps_no _ _) 0 (.map mk')).setBlk (KA13.out.set_ 0 (.map mk')) (cs := #[.map mk', .map none]) (maps_no _ _) 1 (.map mu'))
                obtain ⟨wS14, hwS⟩ : ∃ wS, World.setCells (wc2.alloc (.cells #[.map none, .map none] 37)) (wc2.heap.size) 0 (#[.map mk', .map mu'] : Array Value).toList = wS := ⟨_, rfl⟩
                rw [hwS] at xK xB xHTN ⊢
                replace HBW := Lib.hid xB
                replace KA13 := Lib.hid xK
                replace HTN := Lib.hid xHTN
                clear hwS xK xB xHTN
                refine hK.out _ _ ?_ (fun hHeld => ?_)
                · (try dsimp only)
                  exact ⟨(K9.out.belowS HBW.out).cellV (i := 0) rfl, (K9.out.belowS HBW.out).cellV (i := 1) rfl, (((bstep HB.out HBW.out).cell (p := ⟨b, off + k * 8, none⟩) HBL.out).trans HC.out.1.1)⟩
                clear hK K
                refine Tr.take_at 15 14 (.int .i64 0) rfl rfl (by kernel_rfl) (by kernel_rfl) (by kernel_rfl) (fun _ _ _ h => h) (Or.inl ⟨by rfl, ?_⟩) (by assumption) ?_
                · intro W0 hSw
                  (try dsimp only at hSw)
                  go_simp
                simp only [List.set_cons_zero, List.set_cons_succ]
                refine wpAnyH_done (by kernel_rfl) ?_ _
                refine NoPanic.normal ?_
                go_wp2_with fail
                go_meet
                exact ⟨_, mk', mu', nk', fk', rfl, rfl, HL13.out, KA13.out, HTN.out, HBW.out⟩
              ·
                go_simp
                have KA13 := Lib.hid (show Blk (wc1.alloc (.cells #[.map none, .map none] 37)) (wc1.heap.size) 37 #[.map none, .map none] from Blk.new wc1 37 #[.map none, .map none])
                have HL13 := Lib.hid (show wr.heap.size ≤ wc1.heap.size from HBW.out.size)
                have hbA : Below wc1.heap.size wc1 ((wc1.alloc (.cells #[.map none, .map none] 37))) := bal (bre wc1) (.cells #[.map none, .map none] 37)
                replace HBW := Lib.hid (bstep HBW.out hbA)
                clear hbA
                refine hK.out _ _ ?_ (fun hHeld => ?_)
                · (try dsimp only)
                  exact ⟨(K9.out.belowS HBW.out).cellV (i := 0) rfl, (K9.out.belowS HBW.out).cellV (i := 1) rfl, (((bstep HB.out HBW.out).cell (p := ⟨b, off + k * 8, none⟩) HBL.out).trans HC.out.1.1)⟩
                clear hK K
                refine wpAnyH_ready (rs := [9]) (by kernel_rfl) (by simp) ?_
                refine AllReadyH.cons rfl (fun K hK => ?_) AllReadyH.nil
                go_simp
                refine (tadd_any (.agg #[.map mk, .map mu]) (nodesW (l.take k)) mk mu nk fk (idW k) (idW d.P) _ (idW_bd (by omega)) (idW_bd (by have := HPB.out; omega)) (HMD.out.tree.below HBW.out)).mono ?_
                rintro e wc2 ⟨⟨v', mk', mu', nk', fk', rfl, ht'⟩, hbA⟩
                have e9 : addN (nodesW (l.take k)) (idW k) (idW d.P) = nodesW (l.take (k + 1)) := by
                  unfold addN
                  rw [HADD.out, if_pos rfl, HTK.out, nodesW_snoc, HKL.out]
                rw [HADD.out]
                rw [e9] at ht'
                have hsv := ht'.shape
                subst hsv
                have HTN := Lib.hid ht'
                clear ht' e9
                replace HBW := Lib.hid (bstep HBW.out hbA)
                replace KA13 := Lib.hid (KA13.out.belowS hbA)
                clear hbA
                go_simp
                refine hK.out _ _ ?_ (fun hHeld => ?_)
                · (try dsimp only)
                  exact ⟨(K9.out.belowS HBW.out).cellV (i := 0) rfl, (K9.out.belowS HBW.out).cellV (i := 1) rfl, (((bstep HB.out HBW.out).cell (p := ⟨b, off + k * 8, none⟩) HBL.out).trans HC.out.1.1)⟩
                clear hK K
                refine Tr.take_at 10 34 (.tuple #[.agg #[.map mk', .map mu'], .int .i64 0]) rfl rfl (by kernel_rfl) (by kernel_rfl) (by kernel_rfl) (fun _ _ _ h => h) (Or.inl ⟨by rfl, ?_⟩) (by assumption) ?_
                · intro W0 hSw
                  (try dsimp only at hSw)
                  go_simp
                simp only [List.set_cons_zero, List.set_cons_succ]
                refine Tr.take_at 11 45 (.agg #[.map mk', .map mu']) rfl rfl (by kernel_rfl) (by kernel_rfl) (by kernel_rfl) (fun _ _ _ h => h) (Or.inl ⟨by rfl, ?_⟩) (by assumption) ?_
                · intro W0 hSw
                  (try dsimp only at hSw)
                  go_simp
                simp only [List.set_cons_zero, List.set_cons_succ]
                refine Tr.take_at 12 46 (.int .i64 0) rfl rfl (by kernel_rfl) (by kernel_rfl) (by kernel_rfl) (fun _ _ _ h => h) (Or.inl ⟨by rfl, ?_⟩) (by assumption) ?_
                · intro W0 hSw
                  (try dsimp only at hSw)
                  go_simp
                simp only [List.set_cons_zero, List.set_cons_succ]
                refine wpAnyH_ready (rs := [14]) (by kernel_rfl) (by simp) ?_
                refine AllReadyH.cons rfl (fun K hK => ?_) AllReadyH.nil
                refine Tr.wanted_plain rfl ?_
                refine store_mid0 rfl 37 _ _ rfl (wc1.heap.size) 0 #[.map mk', .map mu'] (by rfl) (by rfl) (by have h := there_blk KA13.out; exact h) Tryz.sizeTr (by simp [Value.oneCell']) ?_
                have xK := blk_puts2 (.map mk') (.map mu') KA13.out
                have xB := bsets HBW.out HL13.out (#[.map mk', .map mu'] : Array Value).toList 0
                have xHTN := (show TreeIs (World.setCells (wc2) (wc1.heap.size) 0 (#[.map mk', .map mu'] : Array Value).toList) (.agg #[.map mk', .map mu']) (nodesW (l.take (k + 1))) mk' mu' nk' fk' from (HTN.out.setBlk KA13.out (maps_no _ _) 0 (.map mk')).setBlk (KA13.out.set_ 0 (.map mk')) (cs := #[.map mk', .map none]) (maps_no _ _) 1 (.map mu'))
                obtain ⟨wS14, hwS⟩ : ∃ wS, World.setCells wc2 (wc1.heap.size) 0 (#[.map mk', .map mu'] : Array Value).toList = wS := ⟨_, rfl⟩
                rw [hwS] at xK xB xHTN ⊢
                replace HBW := Lib.hid xB
                replace KA13 := Lib.hid xK
                replace HTN := Lib.hid xHTN
                clear hwS xK xB xHTN
                refine hK.out _ _ ?_ (fun hHeld => ?_)
                · (try dsimp only)
                  exact ⟨(K9.out.belowS HBW.out).cellV (i := 0) rfl, (K9.out.belowS HBW.out).cellV (i := 1) rfl, (((bstep HB.out HBW.out).cell (p := ⟨b, off + k * 8, none⟩) HBL.out).trans HC.out.1.1)⟩
                clear hK K
                refine Tr.take_at 15 14 (.int .i64 0) rfl rfl (by kernel_rfl) (by kernel_rfl) (by kernel_rfl) (fun _ _ _ h => h) (Or.inl ⟨by rfl, ?_⟩) (by assumption) ?_
                · intro W0 hSw
                  (try dsimp only at hSw)
                  go_simp
                simp only [List.set_cons_zero, List.set_cons_succ]
                refine wpAnyH_done (by kernel_rfl) ?_ _
                refine NoPanic.normal ?_
                go_wp2_with fail
                go_meet
                exact ⟨_, mk', mu', nk', fk', rfl, rfl, HL13.out, KA13.out, HTN.out, HBW.out⟩
            ·
              go_simp
              have KA13 := Lib.hid (show Blk (wc0.alloc (.cells #[.map none, .map none] 37)) (wc0.heap.size) 37 #[.map none, .map none] from Blk.new wc0 37 #[.map none, .map none])
              have HL13 := Lib.hid (show wr.heap.size ≤ wc0.heap.size from HBW.out.size)
              have hbA : Below wc0.heap.size wc0 ((wc0.alloc (.cells #[.map none, .map none] 37))) := bal (bre wc0) (.cells #[.map none, .map none] 37)
              replace HBW := Lib.hid (bstep HBW.out hbA)
              clear hbA
              refine hK.out _ _ ?_ (fun hHeld => ?_)
              · (try dsimp only)
                exact ⟨(K9.out.belowS HBW.out).cellV (i := 0) rfl, (K9.out.belowS HBW.out).cellV (i := 1) rfl, (((bstep HB.out HBW.out).cell (p := ⟨b, off + k * 8, none⟩) HBL.out).trans HC.out.1.1)⟩
              clear hK K
              refine wpAnyH_ready (rs := [8]) (by kernel_rfl) (by simp) ?_
              refine AllReadyH.cons rfl (fun K hK => ?_) AllReadyH.nil
              go_simp
              refine (id_b d.P _ (by have := HPB.out; omega)).mono ?_
              rintro e wc1 ⟨rfl, hbA⟩
              replace HBW := Lib.hid (bstep HBW.out hbA)
              replace KA13 := Lib.hid (KA13.out.belowS hbA)
              clear hbA
              go_simp
              refine hK.out _ _ ?_ (fun hHeld => ?_)
              · (try dsimp only)
                exact ⟨(K9.out.belowS HBW.out).cellV (i := 0) rfl, (K9.out.belowS HBW.out).cellV (i := 1) rfl, (((bstep HB.out HBW.out).cell (p := ⟨b, off + k * 8, none⟩) HBL.out).trans HC.out.1.1)⟩
              clear hK K
              refine wpAnyH_ready (rs := [9]) (by kernel_rfl) (by simp) ?_
              refine AllReadyH.cons rfl (fun K hK => ?_) AllReadyH.nil
              go_simp
              refine (tadd_any (.agg #[.map mk, .map mu]) (nodesW (l.take k)) mk mu nk fk (idW k) (idW d.P) _ (idW_bd (by omega)) (idW_bd (by have := HPB.out; omega)) (HMD.out.tree.below HBW.out)).mono ?_
              rintro e wc2 ⟨⟨v', mk', mu', nk', fk', rfl, ht'⟩, hbA⟩
              have e9 : addN (nodesW (l.take k)) (idW k) (idW d.P) = nodesW (l.take (k + 1)) := by
                unfold addN
                rw [HADD.out, if_pos rfl, HTK.out, nodesW_snoc, HKL.out]
              rw [HADD.out]
              rw [e9] at ht'
              have hsv := ht'.shape
              subst hsv
              have HTN := Lib.hid ht'
              clear ht' e9
              replace HBW := Lib.hid (bstep HBW.out hbA)
              replace KA13 := Lib.hid (KA13.out.belowS hbA)
              clear hbA
              go_simp
              refine hK.out _ _ ?_ (fun hHeld => ?_)
              · (try dsimp only)
                exact ⟨(K9.out.belowS HBW.out).cellV (i := 0) rfl, (K9.out.belowS HBW.out).cellV (i := 1) rfl, (((bstep HB.out HBW.out).cell (p := ⟨b, off + k * 8, none⟩) HBL.out).trans HC.out.1.1)⟩
              clear hK K
              refine Tr.take_at 10 34 (.tuple #[.agg #[.map mk', .map mu'], .int .i64 0]) rfl rfl (by kernel_rfl) (by kernel_rfl) (by kernel_rfl) (fun _ _ _ h => h) (Or.inl ⟨by rfl, ?_⟩) (by assumption) ?_
              · intro W0 hSw
                (try dsimp only at hSw)
                go_simp
              simp only [List.set_cons_zero, List.set_cons_succ]
              refine Tr.take_at 11 45 (.agg #[.map mk', .map mu']) rfl rfl (by kernel_rfl) (by kernel_rfl) (by kernel_rfl) (fun _ _ _ h => h) (Or.inl ⟨by rfl, ?_⟩) (by assumption) ?_
              · intro W0 hSw
                (try dsimp only at hSw)
                go_simp
              simp only [List.set_cons_zero, List.set_cons_succ]
              refine Tr.take_at 12 46 (.int .i64 0) rfl rfl (by kernel_rfl) (by kernel_rfl) (by kernel_rfl) (fun _ _ _ h => h) (Or.inl ⟨by rfl, ?_⟩) (by assumption) ?_
              · intro W0 hSw
                (try dsimp only at hSw)
                go_simp
              simp only [List.set_cons_zero, List.set_cons_succ]
              refine wpAnyH_ready (rs := [14]) (by kernel_rfl) (by simp) ?_
              refine AllReadyH.cons rfl (fun K hK => ?_) AllReadyH.nil
              refine Tr.wanted_plain rfl ?_
              refine store_mid0 rfl 37 _ _ rfl (wc0.heap.size) 0 #[.map mk', .map mu'] (by rfl) (by rfl) (by have h := there_blk KA13.out; exact h) Tryz.sizeTr (by simp [Value.oneCell']) ?_
              have xK := blk_puts2 (.map mk') (.map mu') KA13.out
              have xB := bsets HBW.out HL13.out (#[.map mk', .map mu'] : Array Value).toList 0
              have xHTN := (show TreeIs (World.setCells (wc2) (wc0.heap.size) 0 (#[.map mk', .map mu'] : Array Value).toList) (.agg #[.map mk', .map mu']) (nodesW (l.take (k + 1))) mk' mu' nk' fk' from (HTN.out.setBlk KA13.out (maps_no _ _) 0 (.map mk')).setBlk (KA13.out.set_ 0 (.map mk')) (cs := #[.map mk', .map none]) (maps_no _ _) 1 (.map mu'))
              obtain ⟨wS14, hwS⟩ : ∃ wS, World.setCells wc2 (wc0.heap.size) 0 (#[.map mk', .map mu'] : Array Value).toList = wS := ⟨_, rfl⟩
              rw [hwS] at xK xB xHTN ⊢
              replace HBW := Lib.hid xB
              replace KA13 := Lib.hid xK
              replace HTN := Lib.hid xHTN
              clear hwS xK xB xHTN
              refine hK.out _ _ ?_ (fun hHeld => ?_)
              · (try dsimp only)
                exact ⟨(K9.out.belowS HBW.out).cellV (i := 0) rfl, (K9.out.belowS HBW.out).cellV (i := 1) rfl, (((bstep HB.out HBW.out).cell (p := ⟨b, off + k * 8, none⟩) HBL.out).trans HC.out.1.1)⟩
              clear hK K
              refine Tr.take_at 15 14 (.int .i64 0) rfl rfl (by kernel_rfl) (by kernel_rfl) (by kernel_rfl) (fun _ _ _ h => h) (Or.inl ⟨by rfl, ?_⟩) (by assumption) ?_
              · intro W0 hSw
                (try dsimp only at hSw)
                go_simp
              simp only [List.set_cons_zero, List.set_cons_succ]
              refine wpAnyH_done (by kernel_rfl) ?_ _
              refine NoPanic.normal ?_
              go_wp2_with fail
              go_meet
              exact ⟨_, mk', mu', nk', fk', rfl, rfl, HL13.out, KA13.out, HTN.out, HBW.out⟩
          ·
            go_simp
            have KA13 := Lib.hid (show Blk (wr.alloc (.cells #[.map none, .map none] 37)).drew (wr.heap.size) 37 #[.map none, .map none] from Blk.new wr.drew 37 #[.map none, .map none])
            have HL13 := Lib.hid (show wr.heap.size ≤ wr.heap.size from HBW.out.size)
            have hbA : Below wr.drew.heap.size wr.drew ((wr.alloc (.cells #[.map none, .map none] 37)).drew) := bal (bre wr.drew) (.cells #[.map none, .map none] 37)
            replace HBW := Lib.hid (bstep HBW.out hbA)
            clear hbA
            refine hK.out _ _ ?_ (fun hHeld => ?_)
            · (try dsimp only)
              exact ⟨(K9.out.belowS HBW.out).cellV (i := 0) rfl, (K9.out.belowS HBW.out).cellV (i := 1) rfl, (((bstep HB.out HBW.out).cell (p := ⟨b, off + k * 8, none⟩) HBL.out).trans HC.out.1.1)⟩
            clear hK K
            refine wpAnyH_ready (rs := [2]) (by kernel_rfl) (by simp) ?_
            refine AllReadyH.cons rfl (fun K hK => ?_) AllReadyH.nil
            go_simp
            refine (id_b (k : Int) _ (by omega)).mono ?_
            rintro e wc0 ⟨rfl, hbA⟩
            replace HBW := Lib.hid (bstep HBW.out hbA)
            replace KA13 := Lib.hid (KA13.out.belowS hbA)
            clear hbA
            go_simp
            refine hK.out _ _ ?_ (fun hHeld => ?_)
            · (try dsimp only)
              exact ⟨(K9.out.belowS HBW.out).cellV (i := 0) rfl, (K9.out.belowS HBW.out).cellV (i := 1) rfl, (((bstep HB.out HBW.out).cell (p := ⟨b, off + k * 8, none⟩) HBL.out).trans HC.out.1.1)⟩
            clear hK K
            refine wpAnyH_ready (rs := [8]) (by kernel_rfl) (by simp) ?_
            refine AllReadyH.cons rfl (fun K hK => ?_) AllReadyH.nil
            go_simp
            refine (id_b d.P _ (by have := HPB.out; omega)).mono ?_
            rintro e wc1 ⟨rfl, hbA⟩
            replace HBW := Lib.hid (bstep HBW.out hbA)
            replace KA13 := Lib.hid (KA13.out.belowS hbA)
            clear hbA
            go_simp
            refine hK.out _ _ ?_ (fun hHeld => ?_)
            · (try dsimp only)
              exact ⟨(K9.out.belowS HBW.out).cellV (i := 0) rfl, (K9.out.belowS HBW.out).cellV (i := 1) rfl, (((bstep HB.out HBW.out).cell (p := ⟨b, off + k * 8, none⟩) HBL.out).trans HC.out.1.1)⟩
            clear hK K
            refine wpAnyH_ready (rs := [9]) (by kernel_rfl) (by simp) ?_
            refine AllReadyH.cons rfl (fun K hK => ?_) AllReadyH.nil
            go_simp
            refine (tadd_any (.agg #[.map mk, .map mu]) (nodesW (l.take k)) mk mu nk fk (idW k) (idW d.P) _ (idW_bd (by omega)) (idW_bd (by have := HPB.out; omega)) (HMD.out.tree.below HBW.out)).mono ?_
            rintro e wc2 ⟨⟨v', mk', mu', nk', fk', rfl, ht'⟩, hbA⟩
            have e9 : addN (nodesW (l.take k)) (idW k) (idW d.P) = nodesW (l.take (k + 1)) := by
              unfold addN
              rw [HADD.out, if_pos rfl, HTK.out, nodesW_snoc, HKL.out]
            rw [HADD.out]
            rw [e9] at ht'
            have hsv := ht'.shape
            subst hsv
            have HTN := Lib.hid ht'
            clear ht' e9
            replace HBW := Lib.hid (bstep HBW.out hbA)
            replace KA13 := Lib.hid (KA13.out.belowS hbA)
            clear hbA
            go_simp
            refine hK.out _ _ ?_ (fun hHeld => ?_)
            · (try dsimp only)
              exact ⟨(K9.out.belowS HBW.out).cellV (i := 0) rfl, (K9.out.belowS HBW.out).cellV (i := 1) rfl, (((bstep HB.out HBW.out).cell (p := ⟨b, off + k * 8, none⟩) HBL.out).trans HC.out.1.1)⟩
            clear hK K
            refine Tr.take_at 10 34 (.tuple #[.agg #[.map mk', .map mu'], .int .i64 0]) rfl rfl (by kernel_rfl) (by kernel_rfl) (by kernel_rfl) (fun _ _ _ h => h) (Or.inl ⟨by rfl, ?_⟩) (by assumption) ?_
            · intro W0 hSw
              (try dsimp only at hSw)
              go_simp
            simp only [List.set_cons_zero, List.set_cons_succ]
            refine Tr.take_at 11 45 (.agg #[.map mk', .map mu']) rfl rfl (by kernel_rfl) (by kernel_rfl) (by kernel_rfl) (fun _ _ _ h => h) (Or.inl ⟨by rfl, ?_⟩) (by assumption) ?_
            · intro W0 hSw
              (try dsimp only at hSw)
              go_simp
            simp only [List.set_cons_zero, List.set_cons_succ]
            refine Tr.take_at 12 46 (.int .i64 0) rfl rfl (by kernel_rfl) (by kernel_rfl) (by kernel_rfl) (fun _ _ _ h => h) (Or.inl ⟨by rfl, ?_⟩) (by assumption) ?_
            · intro W0 hSw
              (try dsimp only at hSw)
              go_simp
            simp only [List.set_cons_zero, List.set_cons_succ]
            refine wpAnyH_ready (rs := [14]) (by kernel_rfl) (by simp) ?_
            refine AllReadyH.cons rfl (fun K hK => ?_) AllReadyH.nil
            refine Tr.wanted_plain rfl ?_
            refine store_mid0 rfl 37 _ _ rfl (wr.heap.size) 0 #[.map mk', .map mu'] (by rfl) (by rfl) (by have h := there_blk KA13.out; exact h) Tryz.sizeTr (by simp [Value.oneCell']) ?_
            have xK := blk_puts2 (.map mk') (.map mu') KA13.out
            have xB := bsets HBW.out HL13.out (#[.map mk', .map mu'] : Array Value).toList 0
            have xHTN := (show TreeIs (World.setCells (wc2) (wr.heap.size) 0 (#[.map mk', .map mu'] : Array Value).toList) (.agg #[.map mk', .map mu']) (nodesW (l.take (k + 1))) mk' mu' nk' fk' from (HTN.out.setBlk KA13.out (maps_no _ _) 0 (.map mk')).setBlk (KA13.out.set_ 0 (.map mk')) (cs := #[.map mk', .map none]) (maps_no _ _) 1 (.map mu'))
            obtain ⟨wS14, hwS⟩ : ∃ wS, World.setCells wc2 (wr.heap.size) 0 (#[.map mk', .map mu'] : Array Value).toList = wS := ⟨_, rfl⟩
            rw [hwS] at xK xB xHTN ⊢
            replace HBW := Lib.hid xB
            replace KA13 := Lib.hid xK
            replace HTN := Lib.hid xHTN
            clear hwS xK xB xHTN
            refine hK.out _ _ ?_ (fun hHeld => ?_)
            · (try dsimp only)
              exact ⟨(K9.out.belowS HBW.out).cellV (i := 0) rfl, (K9.out.belowS HBW.out).cellV (i := 1) rfl, (((bstep HB.out HBW.out).cell (p := ⟨b, off + k * 8, none⟩) HBL.out).trans HC.out.1.1)⟩
            clear hK K
            refine Tr.take_at 15 14 (.int .i64 0) rfl rfl (by kernel_rfl) (by kernel_rfl) (by kernel_rfl) (fun _ _ _ h => h) (Or.inl ⟨by rfl, ?_⟩) (by assumption) ?_
            · intro W0 hSw
              (try dsimp only at hSw)
              go_simp
            simp only [List.set_cons_zero, List.set_cons_succ]
            refine wpAnyH_done (by kernel_rfl) ?_ _
            refine NoPanic.normal ?_
            go_wp2_with fail
            go_meet
            exact ⟨_, mk', mu', nk', fk', rfl, rfl, HL13.out, KA13.out, HTN.out, HBW.out⟩
      obtain ⟨g13, mk', mu', nk', fk', rfl, rfl, hg13, hk13, ht13, hbc⟩ := hcut
      have HG13 := Lib.hid (show w2.heap.size < g13 by have := K10.out.lt; omega)
      have K13 := Lib.hid hk13
      have HTN := Lib.hid ht13
      replace HB := Lib.hid (bstep HB.out hbc)
      replace K6 := Lib.hid (K6.out.belowS hbc)
      replace K7 := Lib.hid (K7.out.belowS hbc)
      replace K9 := Lib.hid (K9.out.belowS hbc)
      replace K10 := Lib.hid (K10.out.belowS hbc)
      replace HMD := Lib.hid (HMD.out.below hbc)
      clear hbc hg13 hk13 ht13
      go_upto_region 9 with fail
      go_cut [15, 16] from 103 (fun s15 s16 wx => ∃ (g : Nat) (mp' : Option Nat) (bs' : Bxs), s15 = .pointer (some ⟨g, 0, none⟩) ∧ s16 = .int .i64 0 ∧ wc.heap.size ≤ g ∧ Blk wx g 40 #[.map mp'] ∧ PlaceIs wx (.agg #[.map mp']) (k + 1 + 1) bs' ∧ SceneIs wx bs' RW RH (l.take (k + 1)) ∧ Below wc.heap.size wc wx)
      case first =>
        as_aux_lemma =>
          have HBW := Lib.hid (show Below wc.heap.size wc wc.drew from (bre wc).drew)
          refine wp_region_noPanic ?_
          refine wp_region_held_drew (S := (fun w' => w'.cell? ⟨w2.heap.size, 0, none⟩ = some (.map mp) ∧ w'.cell? ⟨b, off + k * 8 + 1, none⟩ = some (.int .i64 d.X) ∧ w'.cell? ⟨b, off + k * 8 + 2, none⟩ = some (.int .i64 d.Y) ∧ w'.cell? ⟨b, off + k * 8 + 3, none⟩ = some (.int .i64 d.W) ∧ w'.cell? ⟨b, off + k * 8 + 4, none⟩ = some (.int .i64 d.H) ∧ w'.cell? ⟨b, off + k * 8 + 5, none⟩ = some (.bool d.M) ∧ w'.cell? ⟨b, off + k * 8 + 6, none⟩ = some (.bool d.S) ∧ w'.cell? ⟨b, off + k * 8 + 7, none⟩ = some (.slice d.A d.n d.c))) (by kernel_rfl) ?_ (fun hHeld => ?_)
          · (try dsimp only)
            exact ⟨(K10.out.belowS HBW.out).cellV (i := 0) rfl, (((bstep HB.out HBW.out).cell (p := ⟨b, off + k * 8 + 1, none⟩) HBL.out).trans HC.out.1.2.1), (((bstep HB.out HBW.out).cell (p := ⟨b, off + k * 8 + 2, none⟩) HBL.out).trans HC.out.1.2.2.1), (((bstep HB.out HBW.out).cell (p := ⟨b, off + k * 8 + 3, none⟩) HBL.out).trans HC.out.1.2.2.2), (((bstep HB.out HBW.out).cell (p := ⟨b, off + k * 8 + 4, none⟩) HBL.out).trans HC.out.2.1), (((bstep HB.out HBW.out).cell (p := ⟨b, off + k * 8 + 5, none⟩) HBL.out).trans HC.out.2.2.1), (((bstep HB.out HBW.out).cell (p := ⟨b, off + k * 8 + 6, none⟩) HBL.out).trans HC.out.2.2.2.1), (((bstep HB.out HBW.out).cell (p := ⟨b, off + k * 8 + 7, none⟩) HBL.out).trans HC.out.2.2.2.2)⟩
          refine Tr.take_at 0 48 (.agg #[.map mp]) rfl rfl (by kernel_rfl) (by kernel_rfl) (by kernel_rfl) (fun _ _ _ h => h) (Or.inl ⟨by rfl, ?_⟩) (by assumption) ?_
          · intro W0 hSw
            (try dsimp only at hSw)
            go_simp
          simp only [List.set_cons_zero, List.set_cons_succ]
          refine Tr.take_at 1 49 (.int .i64 k) rfl rfl (by kernel_rfl) (by kernel_rfl) (by kernel_rfl) (fun _ _ _ h => h) (Or.inl ⟨by rfl, ?_⟩) (by assumption) ?_
          · intro W0 hSw
            (try dsimp only at hSw)
            go_simp
          simp only [List.set_cons_zero, List.set_cons_succ]
          refine Tr.take_at 3 51 (.slice (some ⟨b, off, none⟩) n c) rfl rfl (by kernel_rfl) (by kernel_rfl) (by kernel_rfl) (fun _ _ _ h => h) (Or.inl ⟨by rfl, ?_⟩) (by assumption) ?_
          · intro W0 hSw
            (try dsimp only at hSw)
            go_simp
          simp only [List.set_cons_zero, List.set_cons_succ]
          refine Tr.take_at 4 52 (.int .i64 k) rfl rfl (by kernel_rfl) (by kernel_rfl) (by kernel_rfl) (fun _ _ _ h => h) (Or.inl ⟨by rfl, ?_⟩) (by assumption) ?_
          · intro W0 hSw
            (try dsimp only at hSw)
            go_simp
          simp only [List.set_cons_zero, List.set_cons_succ]
          refine Tr.take_at 5 53 (.pointer (some ⟨b, off + k * 8, none⟩)) rfl rfl (by kernel_rfl) (by kernel_rfl) (by kernel_rfl) (fun _ _ _ h => h) (Or.inl ⟨by rfl, ?_⟩) (by assumption) ?_
          · intro W0 hSw
            (try dsimp only at hSw)
            go_simp
          simp only [List.set_cons_zero, List.set_cons_succ]
          refine Tr.take_at 6 54 (.pointer (some ⟨b, off + k * 8 + 1, none⟩)) rfl rfl (by kernel_rfl) (by kernel_rfl) (by kernel_rfl) (fun _ _ _ h => h) (Or.inl ⟨by rfl, ?_⟩) (by assumption) ?_
          · intro W0 hSw
            (try dsimp only at hSw)
            go_simp
          simp only [List.set_cons_zero, List.set_cons_succ]
          refine Tr.take_at 7 55 (.int .i64 d.X) rfl rfl (by kernel_rfl) (by kernel_rfl) (by kernel_rfl) (fun _ _ _ h => h) (Or.inl ⟨by rfl, ?_⟩) (by assumption) ?_
          · intro W0 hSw
            (try dsimp only at hSw)
            go_simp
          simp only [List.set_cons_zero, List.set_cons_succ]
          refine Tr.take_at 8 56 (.slice (some ⟨b, off, none⟩) n c) rfl rfl (by kernel_rfl) (by kernel_rfl) (by kernel_rfl) (fun _ _ _ h => h) (Or.inl ⟨by rfl, ?_⟩) (by assumption) ?_
          · intro W0 hSw
            (try dsimp only at hSw)
            go_simp
          simp only [List.set_cons_zero, List.set_cons_succ]
          refine Tr.take_at 9 57 (.int .i64 k) rfl rfl (by kernel_rfl) (by kernel_rfl) (by kernel_rfl) (fun _ _ _ h => h) (Or.inl ⟨by rfl, ?_⟩) (by assumption) ?_
          · intro W0 hSw
            (try dsimp only at hSw)
            go_simp
          simp only [List.set_cons_zero, List.set_cons_succ]
          refine Tr.take_at 10 58 (.pointer (some ⟨b, off + k * 8, none⟩)) rfl rfl (by kernel_rfl) (by kernel_rfl) (by kernel_rfl) (fun _ _ _ h => h) (Or.inl ⟨by rfl, ?_⟩) (by assumption) ?_
          · intro W0 hSw
            (try dsimp only at hSw)
            go_simp
          simp only [List.set_cons_zero, List.set_cons_succ]
          refine Tr.take_at 11 59 (.pointer (some ⟨b, off + k * 8 + 2, none⟩)) rfl rfl (by kernel_rfl) (by kernel_rfl) (by kernel_rfl) (fun _ _ _ h => h) (Or.inl ⟨by rfl, ?_⟩) (by assumption) ?_
          · intro W0 hSw
            (try dsimp only at hSw)
            go_simp
          simp only [List.set_cons_zero, List.set_cons_succ]
          refine Tr.take_at 12 60 (.int .i64 d.Y) rfl rfl (by kernel_rfl) (by kernel_rfl) (by kernel_rfl) (fun _ _ _ h => h) (Or.inl ⟨by rfl, ?_⟩) (by assumption) ?_
          · intro W0 hSw
            (try dsimp only at hSw)
            go_simp
          simp only [List.set_cons_zero, List.set_cons_succ]
          refine Tr.take_at 13 61 (.slice (some ⟨b, off, none⟩) n c) rfl rfl (by kernel_rfl) (by kernel_rfl) (by kernel_rfl) (fun _ _ _ h => h) (Or.inl ⟨by rfl, ?_⟩) (by assumption) ?_
          · intro W0 hSw
            (try dsimp only at hSw)
            go_simp
          simp only [List.set_cons_zero, List.set_cons_succ]
          refine Tr.take_at 14 62 (.int .i64 k) rfl rfl (by kernel_rfl) (by kernel_rfl) (by kernel_rfl) (fun _ _ _ h => h) (Or.inl ⟨by rfl, ?_⟩) (by assumption) ?_
          · intro W0 hSw
            (try dsimp only at hSw)
            go_simp
          simp only [List.set_cons_zero, List.set_cons_succ]
          refine Tr.take_at 15 63 (.pointer (some ⟨b, off + k * 8, none⟩)) rfl rfl (by kernel_rfl) (by kernel_rfl) (by kernel_rfl) (fun _ _ _ h => h) (Or.inl ⟨by rfl, ?_⟩) (by assumption) ?_
          · intro W0 hSw
            (try dsimp only at hSw)
            go_simp
          simp only [List.set_cons_zero, List.set_cons_succ]
          refine Tr.take_at 16 64 (.pointer (some ⟨b, off + k * 8 + 3, none⟩)) rfl rfl (by kernel_rfl) (by kernel_rfl) (by kernel_rfl) (fun _ _ _ h => h) (Or.inl ⟨by rfl, ?_⟩) (by assumption) ?_
          · intro W0 hSw
            (try dsimp only at hSw)
            go_simp
          simp only [List.set_cons_zero, List.set_cons_succ]
          refine Tr.take_at 17 65 (.int .i64 d.W) rfl rfl (by kernel_rfl) (by kernel_rfl) (by kernel_rfl) (fun _ _ _ h => h) (Or.inl ⟨by rfl, ?_⟩) (by assumption) ?_
          · intro W0 hSw
            (try dsimp only at hSw)
            go_simp
          simp only [List.set_cons_zero, List.set_cons_succ]
          refine Tr.take_at 18 66 (.slice (some ⟨b, off, none⟩) n c) rfl rfl (by kernel_rfl) (by kernel_rfl) (by kernel_rfl) (fun _ _ _ h => h) (Or.inl ⟨by rfl, ?_⟩) (by assumption) ?_
          · intro W0 hSw
            (try dsimp only at hSw)
            go_simp
          simp only [List.set_cons_zero, List.set_cons_succ]
          refine Tr.take_at 19 67 (.int .i64 k) rfl rfl (by kernel_rfl) (by kernel_rfl) (by kernel_rfl) (fun _ _ _ h => h) (Or.inl ⟨by rfl, ?_⟩) (by assumption) ?_
          · intro W0 hSw
            (try dsimp only at hSw)
            go_simp
          simp only [List.set_cons_zero, List.set_cons_succ]
          refine Tr.take_at 20 68 (.pointer (some ⟨b, off + k * 8, none⟩)) rfl rfl (by kernel_rfl) (by kernel_rfl) (by kernel_rfl) (fun _ _ _ h => h) (Or.inl ⟨by rfl, ?_⟩) (by assumption) ?_
          · intro W0 hSw
            (try dsimp only at hSw)
            go_simp
          simp only [List.set_cons_zero, List.set_cons_succ]
          refine Tr.take_at 21 69 (.pointer (some ⟨b, off + k * 8 + 4, none⟩)) rfl rfl (by kernel_rfl) (by kernel_rfl) (by kernel_rfl) (fun _ _ _ h => h) (Or.inl ⟨by rfl, ?_⟩) (by assumption) ?_
          · intro W0 hSw
            (try dsimp only at hSw)
            go_simp
          simp only [List.set_cons_zero, List.set_cons_succ]
          refine Tr.take_at 22 70 (.int .i64 d.H) rfl rfl (by kernel_rfl) (by kernel_rfl) (by kernel_rfl) (fun _ _ _ h => h) (Or.inl ⟨by rfl, ?_⟩) (by assumption) ?_
          · intro W0 hSw
            (try dsimp only at hSw)
            go_simp
          simp only [List.set_cons_zero, List.set_cons_succ]
          refine Tr.take_at 23 71 (.slice (some ⟨b, off, none⟩) n c) rfl rfl (by kernel_rfl) (by kernel_rfl) (by kernel_rfl) (fun _ _ _ h => h) (Or.inl ⟨by rfl, ?_⟩) (by assumption) ?_
          · intro W0 hSw
            (try dsimp only at hSw)
            go_simp
          simp only [List.set_cons_zero, List.set_cons_succ]
          refine Tr.take_at 24 72 (.int .i64 k) rfl rfl (by kernel_rfl) (by kernel_rfl) (by kernel_rfl) (fun _ _ _ h => h) (Or.inl ⟨by rfl, ?_⟩) (by assumption) ?_
          · intro W0 hSw
            (try dsimp only at hSw)
            go_simp
          simp only [List.set_cons_zero, List.set_cons_succ]
          refine Tr.take_at 25 73 (.pointer (some ⟨b, off + k * 8, none⟩)) rfl rfl (by kernel_rfl) (by kernel_rfl) (by kernel_rfl) (fun _ _ _ h => h) (Or.inl ⟨by rfl, ?_⟩) (by assumption) ?_
          · intro W0 hSw
            (try dsimp only at hSw)
            go_simp
          simp only [List.set_cons_zero, List.set_cons_succ]
          refine Tr.take_at 26 74 (.pointer (some ⟨b, off + k * 8 + 5, none⟩)) rfl rfl (by kernel_rfl) (by kernel_rfl) (by kernel_rfl) (fun _ _ _ h => h) (Or.inl ⟨by rfl, ?_⟩) (by assumption) ?_
          · intro W0 hSw
            (try dsimp only at hSw)
            go_simp
          simp only [List.set_cons_zero, List.set_cons_succ]
          refine Tr.take_at 27 75 (.bool d.M) rfl rfl (by kernel_rfl) (by kernel_rfl) (by kernel_rfl) (fun _ _ _ h => h) (Or.inl ⟨by rfl, ?_⟩) (by assumption) ?_
          · intro W0 hSw
            (try dsimp only at hSw)
            go_simp
          simp only [List.set_cons_zero, List.set_cons_succ]
          refine Tr.take_at 28 76 (.slice (some ⟨b, off, none⟩) n c) rfl rfl (by kernel_rfl) (by kernel_rfl) (by kernel_rfl) (fun _ _ _ h => h) (Or.inl ⟨by rfl, ?_⟩) (by assumption) ?_
          · intro W0 hSw
            (try dsimp only at hSw)
            go_simp
          simp only [List.set_cons_zero, List.set_cons_succ]
          refine Tr.take_at 29 77 (.int .i64 k) rfl rfl (by kernel_rfl) (by kernel_rfl) (by kernel_rfl) (fun _ _ _ h => h) (Or.inl ⟨by rfl, ?_⟩) (by assumption) ?_
          · intro W0 hSw
            (try dsimp only at hSw)
            go_simp
          simp only [List.set_cons_zero, List.set_cons_succ]
          refine Tr.take_at 30 78 (.pointer (some ⟨b, off + k * 8, none⟩)) rfl rfl (by kernel_rfl) (by kernel_rfl) (by kernel_rfl) (fun _ _ _ h => h) (Or.inl ⟨by rfl, ?_⟩) (by assumption) ?_
          · intro W0 hSw
            (try dsimp only at hSw)
            go_simp
          simp only [List.set_cons_zero, List.set_cons_succ]
          refine Tr.take_at 31 79 (.pointer (some ⟨b, off + k * 8 + 6, none⟩)) rfl rfl (by kernel_rfl) (by kernel_rfl) (by kernel_rfl) (fun _ _ _ h => h) (Or.inl ⟨by rfl, ?_⟩) (by assumption) ?_
          · intro W0 hSw
            (try dsimp only at hSw)
            go_simp
          simp only [List.set_cons_zero, List.set_cons_succ]
          refine Tr.take_at 32 80 (.bool d.S) rfl rfl (by kernel_rfl) (by kernel_rfl) (by kernel_rfl) (fun _ _ _ h => h) (Or.inl ⟨by rfl, ?_⟩) (by assumption) ?_
          · intro W0 hSw
            (try dsimp only at hSw)
            go_simp
          simp only [List.set_cons_zero, List.set_cons_succ]
          refine Tr.take_at 33 81 (.slice (some ⟨b, off, none⟩) n c) rfl rfl (by kernel_rfl) (by kernel_rfl) (by kernel_rfl) (fun _ _ _ h => h) (Or.inl ⟨by rfl, ?_⟩) (by assumption) ?_
          · intro W0 hSw
            (try dsimp only at hSw)
            go_simp
          simp only [List.set_cons_zero, List.set_cons_succ]
          refine Tr.take_at 34 82 (.int .i64 k) rfl rfl (by kernel_rfl) (by kernel_rfl) (by kernel_rfl) (fun _ _ _ h => h) (Or.inl ⟨by rfl, ?_⟩) (by assumption) ?_
          · intro W0 hSw
            (try dsimp only at hSw)
            go_simp
          simp only [List.set_cons_zero, List.set_cons_succ]
          refine Tr.take_at 35 83 (.pointer (some ⟨b, off + k * 8, none⟩)) rfl rfl (by kernel_rfl) (by kernel_rfl) (by kernel_rfl) (fun _ _ _ h => h) (Or.inl ⟨by rfl, ?_⟩) (by assumption) ?_
          · intro W0 hSw
            (try dsimp only at hSw)
            go_simp
          simp only [List.set_cons_zero, List.set_cons_succ]
          refine Tr.take_at 36 84 (.pointer (some ⟨b, off + k * 8 + 7, none⟩)) rfl rfl (by kernel_rfl) (by kernel_rfl) (by kernel_rfl) (fun _ _ _ h => h) (Or.inl ⟨by rfl, ?_⟩) (by assumption) ?_
          · intro W0 hSw
            (try dsimp only at hSw)
            go_simp
          simp only [List.set_cons_zero, List.set_cons_succ]
          refine Tr.take_at 37 85 (.slice d.A d.n d.c) rfl rfl (by kernel_rfl) (by kernel_rfl) (by kernel_rfl) (fun _ _ _ h => h) (Or.inl ⟨by rfl, ?_⟩) (by assumption) ?_
          · intro W0 hSw
            (try dsimp only at hSw)
            go_simp
          simp only [List.set_cons_zero, List.set_cons_succ]
          refine wpAnyH_ready (rs := [2, 44]) (by kernel_rfl) (by simp) ?_
          refine AllReadyH.cons rfl (fun K hK => ?_) (AllReadyH.cons rfl (fun K hK => ?_) AllReadyH.nil)
          ·
            go_simp
            refine (id_b (k : Int) _ (by omega)).mono ?_
            rintro e wc0 ⟨rfl, hbA⟩
            replace HBW := Lib.hid (bstep HBW.out hbA)
            clear hbA
            go_simp
            refine hK.out _ _ ?_ (fun hHeld => ?_)
            · (try dsimp only)
              exact ⟨(K10.out.belowS HBW.out).cellV (i := 0) rfl, (((bstep HB.out HBW.out).cell (p := ⟨b, off + k * 8 + 1, none⟩) HBL.out).trans HC.out.1.2.1), (((bstep HB.out HBW.out).cell (p := ⟨b, off + k * 8 + 2, none⟩) HBL.out).trans HC.out.1.2.2.1), (((bstep HB.out HBW.out).cell (p := ⟨b, off + k * 8 + 3, none⟩) HBL.out).trans HC.out.1.2.2.2), (((bstep HB.out HBW.out).cell (p := ⟨b, off + k * 8 + 4, none⟩) HBL.out).trans HC.out.2.1), (((bstep HB.out HBW.out).cell (p := ⟨b, off + k * 8 + 5, none⟩) HBL.out).trans HC.out.2.2.1), (((bstep HB.out HBW.out).cell (p := ⟨b, off + k * 8 + 6, none⟩) HBL.out).trans HC.out.2.2.2.1), (((bstep HB.out HBW.out).cell (p := ⟨b, off + k * 8 + 7, none⟩) HBL.out).trans HC.out.2.2.2.2)⟩
            clear hK K
            refine wpAnyH_ready (rs := [38, 44]) (by kernel_rfl) (by simp) ?_
            refine AllReadyH.cons rfl (fun K hK => ?_) (AllReadyH.cons rfl (fun K hK => ?_) AllReadyH.nil)
            ·
              go_simp
              refine (of_any d.A d.n d.c d.sh _ (by have := HSHP.out.1; have := HD.out.few; omega) (HSHP.out.below (bstep HB.out HBW.out)) (fun r hr => by have := HD.out.sh r hr; omega)).mono ?_
              rintro e wc1 ⟨out, Ao, co, rfl, hr, hc, hp, hl', hbA⟩
              have hp2 : ∀ x y, InR out x y ↔ InR d.sh x y := fun x y => (hp x y).trans (sh_cnt HD.out x y)
              have HOF := Lib.hid (box_of (d := d) (co := co) HD.out hr hc hp2 hl')
              have HNO := Lib.hid (show d.S = false → out.length = 0 from fun hS => by
                rw [no_places hc (fun x y hxy => by
                  have h1 := (hp2 x y).1 hxy
                  rw [HD.out.s hS] at h1
                  obtain ⟨r, hr, _⟩ := h1
                  cases hr)]
                rfl)
              clear hr hc hp hp2 hl'
              replace HBW := Lib.hid (bstep HBW.out hbA)
              clear hbA
              go_simp
              refine hK.out _ _ ?_ (fun hHeld => ?_)
              · (try dsimp only)
                exact ⟨(K10.out.belowS HBW.out).cellV (i := 0) rfl, (((bstep HB.out HBW.out).cell (p := ⟨b, off + k * 8 + 1, none⟩) HBL.out).trans HC.out.1.2.1), (((bstep HB.out HBW.out).cell (p := ⟨b, off + k * 8 + 2, none⟩) HBL.out).trans HC.out.1.2.2.1), (((bstep HB.out HBW.out).cell (p := ⟨b, off + k * 8 + 3, none⟩) HBL.out).trans HC.out.1.2.2.2), (((bstep HB.out HBW.out).cell (p := ⟨b, off + k * 8 + 4, none⟩) HBL.out).trans HC.out.2.1), (((bstep HB.out HBW.out).cell (p := ⟨b, off + k * 8 + 5, none⟩) HBL.out).trans HC.out.2.2.1), (((bstep HB.out HBW.out).cell (p := ⟨b, off + k * 8 + 6, none⟩) HBL.out).trans HC.out.2.2.2.1), (((bstep HB.out HBW.out).cell (p := ⟨b, off + k * 8 + 7, none⟩) HBL.out).trans HC.out.2.2.2.2)⟩
              clear hK K
              refine Tr.take_at 39 87 (.agg #[.int .i64 d.X, .int .i64 d.Y, .int .i64 d.W, .int .i64 d.H, .bool d.M, .int .i64 0, .int .i64 0, .bool d.S, .slice Ao out.length co]) rfl rfl (by kernel_rfl) (by kernel_rfl) (by kernel_rfl) (fun _ _ _ h => h) (Or.inl ⟨by rfl, ?_⟩) (by assumption) ?_
              · intro W0 hSw
                apply y_build
                as_aux_lemma => kernel_rfl
              simp only [List.set_cons_zero, List.set_cons_succ]
              refine wpAnyH_ready (rs := [40, 44]) (by kernel_rfl) (by simp) ?_
              refine AllReadyH.cons rfl (fun K hK => ?_) (AllReadyH.cons rfl (fun K hK => ?_) AllReadyH.nil)
              ·
                go_simp
                have hsc := HMD.out.scene.below HBW.out
                have hset := setC_W hsc (by rw [HKL.out]; omega) HD.out HOF.out ⟨rfl, rfl⟩ HNO.out
                have hfr := hsc.fresh
                rw [HKL.out] at hset hfr
                have hpl := HMD.out.place
                rw [HKL.out] at hpl
                refine (pset_any (.agg #[.map mp]) (k + 1) bs (idW k) (⟨d.X, d.Y, d.W, d.H, d.M, 0, 0, d.S, Ao, out.length, co⟩ : BX) _ (idW_bd (by omega)) (by omega) (hpl.below HBW.out) (fun h => by omega)).mono ?_
                rintro e wc2 ⟨pv', rfl, hp', hbA⟩
                have e1 : setN bs (k + 1) (idW k) (⟨d.X, d.Y, d.W, d.H, d.M, 0, 0, d.S, Ao, out.length, co⟩ : BX) = k + 1 + 1 := by unfold setN; rw [hset, if_pos rfl, hfr]; rfl
                have e2 : setB bs (k + 1) (idW k) (⟨d.X, d.Y, d.W, d.H, d.M, 0, 0, d.S, Ao, out.length, co⟩ : BX) = fun j => if j = idW k then some (⟨d.X, d.Y, d.W, d.H, d.M, 0, 0, d.S, Ao, out.length, co⟩ : BX) else bs j := by unfold setB; rw [hset, if_pos rfl]
                rw [hset]
                rw [e1, e2] at hp'
                have hsn := (hsc.below hbA).snoc (HOF.out.below hbA)
                rw [HKL.out, ← HTK.out] at hsn
                have HSN := Lib.hid hsn
                have HPN := Lib.hid hp'
                obtain ⟨mp', rfl, _⟩ := hp'
                clear hsc hset hfr e1 e2 hsn
                replace HBW := Lib.hid (bstep HBW.out hbA)
                replace HOF := Lib.hid (HOF.out.below hbA)
                clear hbA
                go_simp
                refine hK.out _ _ ?_ (fun hHeld => ?_)
                · (try dsimp only)
                  exact ⟨(K10.out.belowS HBW.out).cellV (i := 0) rfl, (((bstep HB.out HBW.out).cell (p := ⟨b, off + k * 8 + 1, none⟩) HBL.out).trans HC.out.1.2.1), (((bstep HB.out HBW.out).cell (p := ⟨b, off + k * 8 + 2, none⟩) HBL.out).trans HC.out.1.2.2.1), (((bstep HB.out HBW.out).cell (p := ⟨b, off + k * 8 + 3, none⟩) HBL.out).trans HC.out.1.2.2.2), (((bstep HB.out HBW.out).cell (p := ⟨b, off + k * 8 + 4, none⟩) HBL.out).trans HC.out.2.1), (((bstep HB.out HBW.out).cell (p := ⟨b, off + k * 8 + 5, none⟩) HBL.out).trans HC.out.2.2.1), (((bstep HB.out HBW.out).cell (p := ⟨b, off + k * 8 + 6, none⟩) HBL.out).trans HC.out.2.2.2.1), (((bstep HB.out HBW.out).cell (p := ⟨b, off + k * 8 + 7, none⟩) HBL.out).trans HC.out.2.2.2.2)⟩
                clear hK K
                refine Tr.take_at 41 47 (.tuple #[.agg #[.map mp'], .int .i64 0]) rfl rfl (by kernel_rfl) (by kernel_rfl) (by kernel_rfl) (fun _ _ _ h => h) (Or.inl ⟨by rfl, ?_⟩) (by assumption) ?_
                · intro W0 hSw
                  (try dsimp only at hSw)
                  go_simp
                simp only [List.set_cons_zero, List.set_cons_succ]
                refine Tr.take_at 42 89 (.agg #[.map mp']) rfl rfl (by kernel_rfl) (by kernel_rfl) (by kernel_rfl) (fun _ _ _ h => h) (Or.inl ⟨by rfl, ?_⟩) (by assumption) ?_
                · intro W0 hSw
                  (try dsimp only at hSw)
                  go_simp
                simp only [List.set_cons_zero, List.set_cons_succ]
                refine Tr.take_at 43 90 (.int .i64 0) rfl rfl (by kernel_rfl) (by kernel_rfl) (by kernel_rfl) (fun _ _ _ h => h) (Or.inl ⟨by rfl, ?_⟩) (by assumption) ?_
                · intro W0 hSw
                  (try dsimp only at hSw)
                  go_simp
                simp only [List.set_cons_zero, List.set_cons_succ]
                refine wpAnyH_ready (rs := [44]) (by kernel_rfl) (by simp) ?_
                refine AllReadyH.cons rfl (fun K hK => ?_) AllReadyH.nil
                go_simp
                have KA44 := Lib.hid (show Blk (wc2.alloc (.cells #[.map none] 40)) (wc2.heap.size) 40 #[.map none] from Blk.new wc2 40 #[.map none])
                have HL44 := Lib.hid (show wc.heap.size ≤ wc2.heap.size from HBW.out.size)
                have hbA : Below wc2.heap.size wc2 ((wc2.alloc (.cells #[.map none] 40))) := bal (bre wc2) (.cells #[.map none] 40)
                replace HBW := Lib.hid (bstep HBW.out hbA)
                replace HOF := Lib.hid (HOF.out.below hbA)
                replace HSN := Lib.hid (HSN.out.below hbA)
                replace HPN := Lib.hid (HPN.out.below hbA)
                clear hbA
                refine hK.out _ _ ?_ (fun hHeld => ?_)
                · (try dsimp only)
                  exact ⟨(K10.out.belowS HBW.out).cellV (i := 0) rfl, (((bstep HB.out HBW.out).cell (p := ⟨b, off + k * 8 + 1, none⟩) HBL.out).trans HC.out.1.2.1), (((bstep HB.out HBW.out).cell (p := ⟨b, off + k * 8 + 2, none⟩) HBL.out).trans HC.out.1.2.2.1), (((bstep HB.out HBW.out).cell (p := ⟨b, off + k * 8 + 3, none⟩) HBL.out).trans HC.out.1.2.2.2), (((bstep HB.out HBW.out).cell (p := ⟨b, off + k * 8 + 4, none⟩) HBL.out).trans HC.out.2.1), (((bstep HB.out HBW.out).cell (p := ⟨b, off + k * 8 + 5, none⟩) HBL.out).trans HC.out.2.2.1), (((bstep HB.out HBW.out).cell (p := ⟨b, off + k * 8 + 6, none⟩) HBL.out).trans HC.out.2.2.2.1), (((bstep HB.out HBW.out).cell (p := ⟨b, off + k * 8 + 7, none⟩) HBL.out).trans HC.out.2.2.2.2)⟩
                clear hK K
                refine wpAnyH_ready (rs := [45]) (by kernel_rfl) (by simp) ?_
                refine AllReadyH.cons rfl (fun K hK => ?_) AllReadyH.nil
                refine Tr.wanted_plain rfl ?_
                refine store_mid0 rfl 40 _ _ rfl (wc2.heap.size) 0 #[.map mp'] (by rfl) (by rfl) (by have h := there_blk KA44.out; exact h) Tryz.sizePl (by simp [Value.oneCell']) ?_
                have xK := blk_puts1 (.map mp') KA44.out
                have xB := bsets HBW.out HL44.out (#[.map mp'] : Array Value).toList 0
                have xHOF := (show BoxOf (World.setCells (wc2.alloc (.cells #[.map none] 40)) (wc2.heap.size) 0 (#[.map mp'] : Array Value).toList) d _ from HOF.out.keepG (grown_setCell _ ⟨wc2.heap.size, 0, none⟩ (.map mp')) KA44.out.noInt1)
                have xHPN := (show PlaceIs (World.setCells (wc2.alloc (.cells #[.map none] 40)) (wc2.heap.size) 0 (#[.map mp'] : Array Value).toList) (.agg #[.map mp']) (k + 1 + 1) _ from HPN.out.setBlk KA44.out 0 (.map mp'))
                have xHSN := (show SceneIs (World.setCells (wc2.alloc (.cells #[.map none] 40)) (wc2.heap.size) 0 (#[.map mp'] : Array Value).toList) _ RW RH (l.take (k + 1)) from HSN.out.keepG (grown_setCell _ ⟨wc2.heap.size, 0, none⟩ (.map mp')) KA44.out.noInt1)
                obtain ⟨wS45, hwS⟩ : ∃ wS, World.setCells (wc2.alloc (.cells #[.map none] 40)) (wc2.heap.size) 0 (#[.map mp'] : Array Value).toList = wS := ⟨_, rfl⟩
                rw [hwS] at xK xB xHOF xHPN xHSN ⊢
                replace HBW := Lib.hid xB
                replace KA44 := Lib.hid xK
                replace HOF := Lib.hid xHOF
                replace HPN := Lib.hid xHPN
                replace HSN := Lib.hid xHSN
                clear hwS xK xB xHOF xHPN xHSN
                refine hK.out _ _ ?_ (fun hHeld => ?_)
                · (try dsimp only)
                  exact ⟨(K10.out.belowS HBW.out).cellV (i := 0) rfl, (((bstep HB.out HBW.out).cell (p := ⟨b, off + k * 8 + 1, none⟩) HBL.out).trans HC.out.1.2.1), (((bstep HB.out HBW.out).cell (p := ⟨b, off + k * 8 + 2, none⟩) HBL.out).trans HC.out.1.2.2.1), (((bstep HB.out HBW.out).cell (p := ⟨b, off + k * 8 + 3, none⟩) HBL.out).trans HC.out.1.2.2.2), (((bstep HB.out HBW.out).cell (p := ⟨b, off + k * 8 + 4, none⟩) HBL.out).trans HC.out.2.1), (((bstep HB.out HBW.out).cell (p := ⟨b, off + k * 8 + 5, none⟩) HBL.out).trans HC.out.2.2.1), (((bstep HB.out HBW.out).cell (p := ⟨b, off + k * 8 + 6, none⟩) HBL.out).trans HC.out.2.2.2.1), (((bstep HB.out HBW.out).cell (p := ⟨b, off + k * 8 + 7, none⟩) HBL.out).trans HC.out.2.2.2.2)⟩
                clear hK K
                refine Tr.take_at 46 16 (.int .i64 0) rfl rfl (by kernel_rfl) (by kernel_rfl) (by kernel_rfl) (fun _ _ _ h => h) (Or.inl ⟨by rfl, ?_⟩) (by assumption) ?_
                · intro W0 hSw
                  (try dsimp only at hSw)
                  go_simp
                simp only [List.set_cons_zero, List.set_cons_succ]
                refine wpAnyH_done (by kernel_rfl) ?_ _
                refine NoPanic.normal ?_
                go_wp2_with fail
                go_meet
                exact ⟨_, mp', _, rfl, rfl, HL44.out, KA44.out, HPN.out, HSN.out, HBW.out⟩
              ·
                go_simp
                have KA44 := Lib.hid (show Blk (wc1.alloc (.cells #[.map none] 40)) (wc1.heap.size) 40 #[.map none] from Blk.new wc1 40 #[.map none])
                have HL44 := Lib.hid (show wc.heap.size ≤ wc1.heap.size from HBW.out.size)
                have hbA : Below wc1.heap.size wc1 ((wc1.alloc (.cells #[.map none] 40))) := bal (bre wc1) (.cells #[.map none] 40)
                replace HBW := Lib.hid (bstep HBW.out hbA)
                replace HOF := Lib.hid (HOF.out.below hbA)
                clear hbA
                refine hK.out _ _ ?_ (fun hHeld => ?_)
                · (try dsimp only)
                  exact ⟨(K10.out.belowS HBW.out).cellV (i := 0) rfl, (((bstep HB.out HBW.out).cell (p := ⟨b, off + k * 8 + 1, none⟩) HBL.out).trans HC.out.1.2.1), (((bstep HB.out HBW.out).cell (p := ⟨b, off + k * 8 + 2, none⟩) HBL.out).trans HC.out.1.2.2.1), (((bstep HB.out HBW.out).cell (p := ⟨b, off + k * 8 + 3, none⟩) HBL.out).trans HC.out.1.2.2.2), (((bstep HB.out HBW.out).cell (p := ⟨b, off + k * 8 + 4, none⟩) HBL.out).trans HC.out.2.1), (((bstep HB.out HBW.out).cell (p := ⟨b, off + k * 8 + 5, none⟩) HBL.out).trans HC.out.2.2.1), (((bstep HB.out HBW.out).cell (p := ⟨b, off + k * 8 + 6, none⟩) HBL.out).trans HC.out.2.2.2.1), (((bstep HB.out HBW.out).cell (p := ⟨b, off + k * 8 + 7, none⟩) HBL.out).trans HC.out.2.2.2.2)⟩
                clear hK K
                refine wpAnyH_ready (rs := [40]) (by kernel_rfl) (by simp) ?_
                refine AllReadyH.cons rfl (fun K hK => ?_) AllReadyH.nil
                go_simp
                have hsc := HMD.out.scene.below HBW.out
                have hset := setC_W hsc (by rw [HKL.out]; omega) HD.out HOF.out ⟨rfl, rfl⟩ HNO.out
                have hfr := hsc.fresh
                rw [HKL.out] at hset hfr
                have hpl := HMD.out.place
                rw [HKL.out] at hpl
                refine (pset_any (.agg #[.map mp]) (k + 1) bs (idW k) (⟨d.X, d.Y, d.W, d.H, d.M, 0, 0, d.S, Ao, out.length, co⟩ : BX) _ (idW_bd (by omega)) (by omega) (hpl.below HBW.out) (fun h => by omega)).mono ?_
                rintro e wc2 ⟨pv', rfl, hp', hbA⟩
                have e1 : setN bs (k + 1) (idW k) (⟨d.X, d.Y, d.W, d.H, d.M, 0, 0, d.S, Ao, out.length, co⟩ : BX) = k + 1 + 1 := by unfold setN; rw [hset, if_pos rfl, hfr]; rfl
                have e2 : setB bs (k + 1) (idW k) (⟨d.X, d.Y, d.W, d.H, d.M, 0, 0, d.S, Ao, out.length, co⟩ : BX) = fun j => if j = idW k then some (⟨d.X, d.Y, d.W, d.H, d.M, 0, 0, d.S, Ao, out.length, co⟩ : BX) else bs j := by unfold setB; rw [hset, if_pos rfl]
                rw [hset]
                rw [e1, e2] at hp'
                have hsn := (hsc.below hbA).snoc (HOF.out.below hbA)
                rw [HKL.out, ← HTK.out] at hsn
                have HSN := Lib.hid hsn
                have HPN := Lib.hid hp'
                obtain ⟨mp', rfl, _⟩ := hp'
                clear hsc hset hfr e1 e2 hsn
                replace HBW := Lib.hid (bstep HBW.out hbA)
                replace KA44 := Lib.hid (KA44.out.belowS hbA)
                replace HOF := Lib.hid (HOF.out.below hbA)
                clear hbA
                go_simp
                refine hK.out _ _ ?_ (fun hHeld => ?_)
                · (try dsimp only)
                  exact ⟨(K10.out.belowS HBW.out).cellV (i := 0) rfl, (((bstep HB.out HBW.out).cell (p := ⟨b, off + k * 8 + 1, none⟩) HBL.out).trans HC.out.1.2.1), (((bstep HB.out HBW.out).cell (p := ⟨b, off + k * 8 + 2, none⟩) HBL.out).trans HC.out.1.2.2.1), (((bstep HB.out HBW.out).cell (p := ⟨b, off + k * 8 + 3, none⟩) HBL.out).trans HC.out.1.2.2.2), (((bstep HB.out HBW.out).cell (p := ⟨b, off + k * 8 + 4, none⟩) HBL.out).trans HC.out.2.1), (((bstep HB.out HBW.out).cell (p := ⟨b, off + k * 8 + 5, none⟩) HBL.out).trans HC.out.2.2.1), (((bstep HB.out HBW.out).cell (p := ⟨b, off + k * 8 + 6, none⟩) HBL.out).trans HC.out.2.2.2.1), (((bstep HB.out HBW.out).cell (p := ⟨b, off + k * 8 + 7, none⟩) HBL.out).trans HC.out.2.2.2.2)⟩
                clear hK K
                refine Tr.take_at 41 47 (.tuple #[.agg #[.map mp'], .int .i64 0]) rfl rfl (by kernel_rfl) (by kernel_rfl) (by kernel_rfl) (fun _ _ _ h => h) (Or.inl ⟨by rfl, ?_⟩) (by assumption) ?_
                · intro W0 hSw
                  (try dsimp only at hSw)
                  go_simp
                simp only [List.set_cons_zero, List.set_cons_succ]
                refine Tr.take_at 42 89 (.agg #[.map mp']) rfl rfl (by kernel_rfl) (by kernel_rfl) (by kernel_rfl) (fun _ _ _ h => h) (Or.inl ⟨by rfl, ?_⟩) (by assumption) ?_
                · intro W0 hSw
                  (try dsimp only at hSw)
                  go_simp
                simp only [List.set_cons_zero, List.set_cons_succ]
                refine Tr.take_at 43 90 (.int .i64 0) rfl rfl (by kernel_rfl) (by kernel_rfl) (by kernel_rfl) (fun _ _ _ h => h) (Or.inl ⟨by rfl, ?_⟩) (by assumption) ?_
                · intro W0 hSw
                  (try dsimp only at hSw)
                  go_simp
                simp only [List.set_cons_zero, List.set_cons_succ]
                refine wpAnyH_ready (rs := [45]) (by kernel_rfl) (by simp) ?_
                refine AllReadyH.cons rfl (fun K hK => ?_) AllReadyH.nil
                refine Tr.wanted_plain rfl ?_
                refine store_mid0 rfl 40 _ _ rfl (wc1.heap.size) 0 #[.map mp'] (by rfl) (by rfl) (by have h := there_blk KA44.out; exact h) Tryz.sizePl (by simp [Value.oneCell']) ?_
                have xK := blk_puts1 (.map mp') KA44.out
                have xB := bsets HBW.out HL44.out (#[.map mp'] : Array Value).toList 0
                have xHOF := (show BoxOf (World.setCells (wc2) (wc1.heap.size) 0 (#[.map mp'] : Array Value).toList) d _ from HOF.out.keepG (grown_setCell _ ⟨wc1.heap.size, 0, none⟩ (.map mp')) KA44.out.noInt1)
                have xHPN := (show PlaceIs (World.setCells (wc2) (wc1.heap.size) 0 (#[.map mp'] : Array Value).toList) (.agg #[.map mp']) (k + 1 + 1) _ from HPN.out.setBlk KA44.out 0 (.map mp'))
                have xHSN := (show SceneIs (World.setCells (wc2) (wc1.heap.size) 0 (#[.map mp'] : Array Value).toList) _ RW RH (l.take (k + 1)) from HSN.out.keepG (grown_setCell _ ⟨wc1.heap.size, 0, none⟩ (.map mp')) KA44.out.noInt1)
                obtain ⟨wS45, hwS⟩ : ∃ wS, World.setCells wc2 (wc1.heap.size) 0 (#[.map mp'] : Array Value).toList = wS := ⟨_, rfl⟩
                rw [hwS] at xK xB xHOF xHPN xHSN ⊢
                replace HBW := Lib.hid xB
                replace KA44 := Lib.hid xK
                replace HOF := Lib.hid xHOF
                replace HPN := Lib.hid xHPN
                replace HSN := Lib.hid xHSN
                clear hwS xK xB xHOF xHPN xHSN
                refine hK.out _ _ ?_ (fun hHeld => ?_)
                · (try dsimp only)
                  exact ⟨(K10.out.belowS HBW.out).cellV (i := 0) rfl, (((bstep HB.out HBW.out).cell (p := ⟨b, off + k * 8 + 1, none⟩) HBL.out).trans HC.out.1.2.1), (((bstep HB.out HBW.out).cell (p := ⟨b, off + k * 8 + 2, none⟩) HBL.out).trans HC.out.1.2.2.1), (((bstep HB.out HBW.out).cell (p := ⟨b, off + k * 8 + 3, none⟩) HBL.out).trans HC.out.1.2.2.2), (((bstep HB.out HBW.out).cell (p := ⟨b, off + k * 8 + 4, none⟩) HBL.out).trans HC.out.2.1), (((bstep HB.out HBW.out).cell (p := ⟨b, off + k * 8 + 5, none⟩) HBL.out).trans HC.out.2.2.1), (((bstep HB.out HBW.out).cell (p := ⟨b, off + k * 8 + 6, none⟩) HBL.out).trans HC.out.2.2.2.1), (((bstep HB.out HBW.out).cell (p := ⟨b, off + k * 8 + 7, none⟩) HBL.out).trans HC.out.2.2.2.2)⟩
                clear hK K
                refine Tr.take_at 46 16 (.int .i64 0) rfl rfl (by kernel_rfl) (by kernel_rfl) (by kernel_rfl) (fun _ _ _ h => h) (Or.inl ⟨by rfl, ?_⟩) (by assumption) ?_
                · intro W0 hSw
                  (try dsimp only at hSw)
                  go_simp
                simp only [List.set_cons_zero, List.set_cons_succ]
                refine wpAnyH_done (by kernel_rfl) ?_ _
                refine NoPanic.normal ?_
                go_wp2_with fail
                go_meet
                exact ⟨_, mp', _, rfl, rfl, HL44.out, KA44.out, HPN.out, HSN.out, HBW.out⟩
            ·
              go_simp
              have KA44 := Lib.hid (show Blk (wc0.alloc (.cells #[.map none] 40)) (wc0.heap.size) 40 #[.map none] from Blk.new wc0 40 #[.map none])
              have HL44 := Lib.hid (show wc.heap.size ≤ wc0.heap.size from HBW.out.size)
              have hbA : Below wc0.heap.size wc0 ((wc0.alloc (.cells #[.map none] 40))) := bal (bre wc0) (.cells #[.map none] 40)
              replace HBW := Lib.hid (bstep HBW.out hbA)
              clear hbA
              refine hK.out _ _ ?_ (fun hHeld => ?_)
              · (try dsimp only)
                exact ⟨(K10.out.belowS HBW.out).cellV (i := 0) rfl, (((bstep HB.out HBW.out).cell (p := ⟨b, off + k * 8 + 1, none⟩) HBL.out).trans HC.out.1.2.1), (((bstep HB.out HBW.out).cell (p := ⟨b, off + k * 8 + 2, none⟩) HBL.out).trans HC.out.1.2.2.1), (((bstep HB.out HBW.out).cell (p := ⟨b, off + k * 8 + 3, none⟩) HBL.out).trans HC.out.1.2.2.2), (((bstep HB.out HBW.out).cell (p := ⟨b, off + k * 8 + 4, none⟩) HBL.out).trans HC.out.2.1), (((bstep HB.out HBW.out).cell (p := ⟨b, off + k * 8 + 5, none⟩) HBL.out).trans HC.out.2.2.1), (((bstep HB.out HBW.out).cell (p := ⟨b, off + k * 8 + 6, none⟩) HBL.out).trans HC.out.2.2.2.1), (((bstep HB.out HBW.out).cell (p := ⟨b, off + k * 8 + 7, none⟩) HBL.out).trans HC.out.2.2.2.2)⟩
              clear hK K
              refine wpAnyH_ready (rs := [38]) (by kernel_rfl) (by simp) ?_
              refine AllReadyH.cons rfl (fun K hK => ?_) AllReadyH.nil
              go_simp
              refine (of_any d.A d.n d.c d.sh _ (by have := HSHP.out.1; have := HD.out.few; omega) (HSHP.out.below (bstep HB.out HBW.out)) (fun r hr => by have := HD.out.sh r hr; omega)).mono ?_
              rintro e wc1 ⟨out, Ao, co, rfl, hr, hc, hp, hl', hbA⟩
              have hp2 : ∀ x y, InR out x y ↔ InR d.sh x y := fun x y => (hp x y).trans (sh_cnt HD.out x y)
              have HOF := Lib.hid (box_of (d := d) (co := co) HD.out hr hc hp2 hl')
              have HNO := Lib.hid (show d.S = false → out.length = 0 from fun hS => by
                rw [no_places hc (fun x y hxy => by
                  have h1 := (hp2 x y).1 hxy
                  rw [HD.out.s hS] at h1
                  obtain ⟨r, hr, _⟩ := h1
                  cases hr)]
                rfl)
              clear hr hc hp hp2 hl'
              replace HBW := Lib.hid (bstep HBW.out hbA)
              replace KA44 := Lib.hid (KA44.out.belowS hbA)
              clear hbA
              go_simp
              refine hK.out _ _ ?_ (fun hHeld => ?_)
              · (try dsimp only)
                exact ⟨(K10.out.belowS HBW.out).cellV (i := 0) rfl, (((bstep HB.out HBW.out).cell (p := ⟨b, off + k * 8 + 1, none⟩) HBL.out).trans HC.out.1.2.1), (((bstep HB.out HBW.out).cell (p := ⟨b, off + k * 8 + 2, none⟩) HBL.out).trans HC.out.1.2.2.1), (((bstep HB.out HBW.out).cell (p := ⟨b, off + k * 8 + 3, none⟩) HBL.out).trans HC.out.1.2.2.2), (((bstep HB.out HBW.out).cell (p := ⟨b, off + k * 8 + 4, none⟩) HBL.out).trans HC.out.2.1), (((bstep HB.out HBW.out).cell (p := ⟨b, off + k * 8 + 5, none⟩) HBL.out).trans HC.out.2.2.1), (((bstep HB.out HBW.out).cell (p := ⟨b, off + k * 8 + 6, none⟩) HBL.out).trans HC.out.2.2.2.1), (((bstep HB.out HBW.out).cell (p := ⟨b, off + k * 8 + 7, none⟩) HBL.out).trans HC.out.2.2.2.2)⟩
              clear hK K
              refine Tr.take_at 39 87 (.agg #[.int .i64 d.X, .int .i64 d.Y, .int .i64 d.W, .int .i64 d.H, .bool d.M, .int .i64 0, .int .i64 0, .bool d.S, .slice Ao out.length co]) rfl rfl (by kernel_rfl) (by kernel_rfl) (by kernel_rfl) (fun _ _ _ h => h) (Or.inl ⟨by rfl, ?_⟩) (by assumption) ?_
              · intro W0 hSw
                apply y_build
                as_aux_lemma => kernel_rfl
              simp only [List.set_cons_zero, List.set_cons_succ]
              refine wpAnyH_ready (rs := [40]) (by kernel_rfl) (by simp) ?_
              refine AllReadyH.cons rfl (fun K hK => ?_) AllReadyH.nil
              go_simp
              have hsc := HMD.out.scene.below HBW.out
              have hset := setC_W hsc (by rw [HKL.out]; omega) HD.out HOF.out ⟨rfl, rfl⟩ HNO.out
              have hfr := hsc.fresh
              rw [HKL.out] at hset hfr
              have hpl := HMD.out.place
              rw [HKL.out] at hpl
              refine (pset_any (.agg #[.map mp]) (k + 1) bs (idW k) (⟨d.X, d.Y, d.W, d.H, d.M, 0, 0, d.S, Ao, out.length, co⟩ : BX) _ (idW_bd (by omega)) (by omega) (hpl.below HBW.out) (fun h => by omega)).mono ?_
              rintro e wc2 ⟨pv', rfl, hp', hbA⟩
              have e1 : setN bs (k + 1) (idW k) (⟨d.X, d.Y, d.W, d.H, d.M, 0, 0, d.S, Ao, out.length, co⟩ : BX) = k + 1 + 1 := by unfold setN; rw [hset, if_pos rfl, hfr]; rfl
              have e2 : setB bs (k + 1) (idW k) (⟨d.X, d.Y, d.W, d.H, d.M, 0, 0, d.S, Ao, out.length, co⟩ : BX) = fun j => if j = idW k then some (⟨d.X, d.Y, d.W, d.H, d.M, 0, 0, d.S, Ao, out.length, co⟩ : BX) else bs j := by unfold setB; rw [hset, if_pos rfl]
              rw [hset]
              rw [e1, e2] at hp'
              have hsn := (hsc.below hbA).snoc (HOF.out.below hbA)
              rw [HKL.out, ← HTK.out] at hsn
              have HSN := Lib.hid hsn
              have HPN := Lib.hid hp'
              obtain ⟨mp', rfl, _⟩ := hp'
              clear hsc hset hfr e1 e2 hsn
              replace HBW := Lib.hid (bstep HBW.out hbA)
              replace KA44 := Lib.hid (KA44.out.belowS hbA)
              replace HOF := Lib.hid (HOF.out.below hbA)
              clear hbA
              go_simp
              refine hK.out _ _ ?_ (fun hHeld => ?_)
              · (try dsimp only)
                exact ⟨(K10.out.belowS HBW.out).cellV (i := 0) rfl, (((bstep HB.out HBW.out).cell (p := ⟨b, off + k * 8 + 1, none⟩) HBL.out).trans HC.out.1.2.1), (((bstep HB.out HBW.out).cell (p := ⟨b, off + k * 8 + 2, none⟩) HBL.out).trans HC.out.1.2.2.1), (((bstep HB.out HBW.out).cell (p := ⟨b, off + k * 8 + 3, none⟩) HBL.out).trans HC.out.1.2.2.2), (((bstep HB.out HBW.out).cell (p := ⟨b, off + k * 8 + 4, none⟩) HBL.out).trans HC.out.2.1), (((bstep HB.out HBW.out).cell (p := ⟨b, off + k * 8 + 5, none⟩) HBL.out).trans HC.out.2.2.1), (((bstep HB.out HBW.out).cell (p := ⟨b, off + k * 8 + 6, none⟩) HBL.out).trans HC.out.2.2.2.1), (((bstep HB.out HBW.out).cell (p := ⟨b, off + k * 8 + 7, none⟩) HBL.out).trans HC.out.2.2.2.2)⟩
              clear hK K
              refine Tr.take_at 41 47 (.tuple #[.agg #[.map mp'], .int .i64 0]) rfl rfl (by kernel_rfl) (by kernel_rfl) (by kernel_rfl) (fun _ _ _ h => h) (Or.inl ⟨by rfl, ?_⟩) (by assumption) ?_
              · intro W0 hSw
                (try dsimp only at hSw)
                go_simp
              simp only [List.set_cons_zero, List.set_cons_succ]
              refine Tr.take_at 42 89 (.agg #[.map mp']) rfl rfl (by kernel_rfl) (by kernel_rfl) (by kernel_rfl) (fun _ _ _ h => h) (Or.inl ⟨by rfl, ?_⟩) (by assumption) ?_
              · intro W0 hSw
                (try dsimp only at hSw)
                go_simp
              simp only [List.set_cons_zero, List.set_cons_succ]
              refine Tr.take_at 43 90 (.int .i64 0) rfl rfl (by kernel_rfl) (by kernel_rfl) (by kernel_rfl) (fun _ _ _ h => h) (Or.inl ⟨by rfl, ?_⟩) (by assumption) ?_
              · intro W0 hSw
                (try dsimp only at hSw)
                go_simp
              simp only [List.set_cons_zero, List.set_cons_succ]
              refine wpAnyH_ready (rs := [45]) (by kernel_rfl) (by simp) ?_
              refine AllReadyH.cons rfl (fun K hK => ?_) AllReadyH.nil
              refine Tr.wanted_plain rfl ?_
              refine store_mid0 rfl 40 _ _ rfl (wc0.heap.size) 0 #[.map mp'] (by rfl) (by rfl) (by have h := there_blk KA44.out; exact h) Tryz.sizePl (by simp [Value.oneCell']) ?_
              have xK := blk_puts1 (.map mp') KA44.out
              have xB := bsets HBW.out HL44.out (#[.map mp'] : Array Value).toList 0
              have xHOF := (show BoxOf (World.setCells (wc2) (wc0.heap.size) 0 (#[.map mp'] : Array Value).toList) d _ from HOF.out.keepG (grown_setCell _ ⟨wc0.heap.size, 0, none⟩ (.map mp')) KA44.out.noInt1)
              have xHPN := (show PlaceIs (World.setCells (wc2) (wc0.heap.size) 0 (#[.map mp'] : Array Value).toList) (.agg #[.map mp']) (k + 1 + 1) _ from HPN.out.setBlk KA44.out 0 (.map mp'))
              have xHSN := (show SceneIs (World.setCells (wc2) (wc0.heap.size) 0 (#[.map mp'] : Array Value).toList) _ RW RH (l.take (k + 1)) from HSN.out.keepG (grown_setCell _ ⟨wc0.heap.size, 0, none⟩ (.map mp')) KA44.out.noInt1)
              obtain ⟨wS45, hwS⟩ : ∃ wS, World.setCells wc2 (wc0.heap.size) 0 (#[.map mp'] : Array Value).toList = wS := ⟨_, rfl⟩
              rw [hwS] at xK xB xHOF xHPN xHSN ⊢
              replace HBW := Lib.hid xB
              replace KA44 := Lib.hid xK
              replace HOF := Lib.hid xHOF
              replace HPN := Lib.hid xHPN
              replace HSN := Lib.hid xHSN
              clear hwS xK xB xHOF xHPN xHSN
              refine hK.out _ _ ?_ (fun hHeld => ?_)
              · (try dsimp only)
                exact ⟨(K10.out.belowS HBW.out).cellV (i := 0) rfl, (((bstep HB.out HBW.out).cell (p := ⟨b, off + k * 8 + 1, none⟩) HBL.out).trans HC.out.1.2.1), (((bstep HB.out HBW.out).cell (p := ⟨b, off + k * 8 + 2, none⟩) HBL.out).trans HC.out.1.2.2.1), (((bstep HB.out HBW.out).cell (p := ⟨b, off + k * 8 + 3, none⟩) HBL.out).trans HC.out.1.2.2.2), (((bstep HB.out HBW.out).cell (p := ⟨b, off + k * 8 + 4, none⟩) HBL.out).trans HC.out.2.1), (((bstep HB.out HBW.out).cell (p := ⟨b, off + k * 8 + 5, none⟩) HBL.out).trans HC.out.2.2.1), (((bstep HB.out HBW.out).cell (p := ⟨b, off + k * 8 + 6, none⟩) HBL.out).trans HC.out.2.2.2.1), (((bstep HB.out HBW.out).cell (p := ⟨b, off + k * 8 + 7, none⟩) HBL.out).trans HC.out.2.2.2.2)⟩
              clear hK K
              refine Tr.take_at 46 16 (.int .i64 0) rfl rfl (by kernel_rfl) (by kernel_rfl) (by kernel_rfl) (fun _ _ _ h => h) (Or.inl ⟨by rfl, ?_⟩) (by assumption) ?_
              · intro W0 hSw
                (try dsimp only at hSw)
                go_simp
              simp only [List.set_cons_zero, List.set_cons_succ]
              refine wpAnyH_done (by kernel_rfl) ?_ _
              refine NoPanic.normal ?_
              go_wp2_with fail
              go_meet
              exact ⟨_, mp', _, rfl, rfl, HL44.out, KA44.out, HPN.out, HSN.out, HBW.out⟩
          ·
            go_simp
            have KA44 := Lib.hid (show Blk (wc.alloc (.cells #[.map none] 40)).drew (wc.heap.size) 40 #[.map none] from Blk.new wc.drew 40 #[.map none])
            have HL44 := Lib.hid (show wc.heap.size ≤ wc.heap.size from HBW.out.size)
            have hbA : Below wc.drew.heap.size wc.drew ((wc.alloc (.cells #[.map none] 40)).drew) := bal (bre wc.drew) (.cells #[.map none] 40)
            replace HBW := Lib.hid (bstep HBW.out hbA)
            clear hbA
            refine hK.out _ _ ?_ (fun hHeld => ?_)
            · (try dsimp only)
              exact ⟨(K10.out.belowS HBW.out).cellV (i := 0) rfl, (((bstep HB.out HBW.out).cell (p := ⟨b, off + k * 8 + 1, none⟩) HBL.out).trans HC.out.1.2.1), (((bstep HB.out HBW.out).cell (p := ⟨b, off + k * 8 + 2, none⟩) HBL.out).trans HC.out.1.2.2.1), (((bstep HB.out HBW.out).cell (p := ⟨b, off + k * 8 + 3, none⟩) HBL.out).trans HC.out.1.2.2.2), (((bstep HB.out HBW.out).cell (p := ⟨b, off + k * 8 + 4, none⟩) HBL.out).trans HC.out.2.1), (((bstep HB.out HBW.out).cell (p := ⟨b, off + k * 8 + 5, none⟩) HBL.out).trans HC.out.2.2.1), (((bstep HB.out HBW.out).cell (p := ⟨b, off + k * 8 + 6, none⟩) HBL.out).trans HC.out.2.2.2.1), (((bstep HB.out HBW.out).cell (p := ⟨b, off + k * 8 + 7, none⟩) HBL.out).trans HC.out.2.2.2.2)⟩
            clear hK K
            refine wpAnyH_ready (rs := [2]) (by kernel_rfl) (by simp) ?_
            refine AllReadyH.cons rfl (fun K hK => ?_) AllReadyH.nil
            go_simp
            refine (id_b (k : Int) _ (by omega)).mono ?_
            rintro e wc0 ⟨rfl, hbA⟩
            replace HBW := Lib.hid (bstep HBW.out hbA)
            replace KA44 := Lib.hid (KA44.out.belowS hbA)
            clear hbA
            go_simp
            refine hK.out _ _ ?_ (fun hHeld => ?_)
            · (try dsimp only)
              exact ⟨(K10.out.belowS HBW.out).cellV (i := 0) rfl, (((bstep HB.out HBW.out).cell (p := ⟨b, off + k * 8 + 1, none⟩) HBL.out).trans HC.out.1.2.1), (((bstep HB.out HBW.out).cell (p := ⟨b, off + k * 8 + 2, none⟩) HBL.out).trans HC.out.1.2.2.1), (((bstep HB.out HBW.out).cell (p := ⟨b, off + k * 8 + 3, none⟩) HBL.out).trans HC.out.1.2.2.2), (((bstep HB.out HBW.out).cell (p := ⟨b, off + k * 8 + 4, none⟩) HBL.out).trans HC.out.2.1), (((bstep HB.out HBW.out).cell (p := ⟨b, off + k * 8 + 5, none⟩) HBL.out).trans HC.out.2.2.1), (((bstep HB.out HBW.out).cell (p := ⟨b, off + k * 8 + 6, none⟩) HBL.out).trans HC.out.2.2.2.1), (((bstep HB.out HBW.out).cell (p := ⟨b, off + k * 8 + 7, none⟩) HBL.out).trans HC.out.2.2.2.2)⟩
            clear hK K
            refine wpAnyH_ready (rs := [38]) (by kernel_rfl) (by simp) ?_
            refine AllReadyH.cons rfl (fun K hK => ?_) AllReadyH.nil
            go_simp
            refine (of_any d.A d.n d.c d.sh _ (by have := HSHP.out.1; have := HD.out.few; omega) (HSHP.out.below (bstep HB.out HBW.out)) (fun r hr => by have := HD.out.sh r hr; omega)).mono ?_
            rintro e wc1 ⟨out, Ao, co, rfl, hr, hc, hp, hl', hbA⟩
            have hp2 : ∀ x y, InR out x y ↔ InR d.sh x y := fun x y => (hp x y).trans (sh_cnt HD.out x y)
            have HOF := Lib.hid (box_of (d := d) (co := co) HD.out hr hc hp2 hl')
            have HNO := Lib.hid (show d.S = false → out.length = 0 from fun hS => by
              rw [no_places hc (fun x y hxy => by
                have h1 := (hp2 x y).1 hxy
                rw [HD.out.s hS] at h1
                obtain ⟨r, hr, _⟩ := h1
                cases hr)]
              rfl)
            clear hr hc hp hp2 hl'
            replace HBW := Lib.hid (bstep HBW.out hbA)
            replace KA44 := Lib.hid (KA44.out.belowS hbA)
            clear hbA
            go_simp
            refine hK.out _ _ ?_ (fun hHeld => ?_)
            · (try dsimp only)
              exact ⟨(K10.out.belowS HBW.out).cellV (i := 0) rfl, (((bstep HB.out HBW.out).cell (p := ⟨b, off + k * 8 + 1, none⟩) HBL.out).trans HC.out.1.2.1), (((bstep HB.out HBW.out).cell (p := ⟨b, off + k * 8 + 2, none⟩) HBL.out).trans HC.out.1.2.2.1), (((bstep HB.out HBW.out).cell (p := ⟨b, off + k * 8 + 3, none⟩) HBL.out).trans HC.out.1.2.2.2), (((bstep HB.out HBW.out).cell (p := ⟨b, off + k * 8 + 4, none⟩) HBL.out).trans HC.out.2.1), (((bstep HB.out HBW.out).cell (p := ⟨b, off + k * 8 + 5, none⟩) HBL.out).trans HC.out.2.2.1), (((bstep HB.out HBW.out).cell (p := ⟨b, off + k * 8 + 6, none⟩) HBL.out).trans HC.out.2.2.2.1), (((bstep HB.out HBW.out).cell (p := ⟨b, off + k * 8 + 7, none⟩) HBL.out).trans HC.out.2.2.2.2)⟩
            clear hK K
            refine Tr.take_at 39 87 (.agg #[.int .i64 d.X, .int .i64 d.Y, .int .i64 d.W, .int .i64 d.H, .bool d.M, .int .i64 0, .int .i64 0, .bool d.S, .slice Ao out.length co]) rfl rfl (by kernel_rfl) (by kernel_rfl) (by kernel_rfl) (fun _ _ _ h => h) (Or.inl ⟨by rfl, ?_⟩) (by assumption) ?_
            · intro W0 hSw
              apply y_build
              as_aux_lemma => kernel_rfl
            simp only [List.set_cons_zero, List.set_cons_succ]
            refine wpAnyH_ready (rs := [40]) (by kernel_rfl) (by simp) ?_
            refine AllReadyH.cons rfl (fun K hK => ?_) AllReadyH.nil
            go_simp
            have hsc := HMD.out.scene.below HBW.out
            have hset := setC_W hsc (by rw [HKL.out]; omega) HD.out HOF.out ⟨rfl, rfl⟩ HNO.out
            have hfr := hsc.fresh
            rw [HKL.out] at hset hfr
            have hpl := HMD.out.place
            rw [HKL.out] at hpl
            refine (pset_any (.agg #[.map mp]) (k + 1) bs (idW k) (⟨d.X, d.Y, d.W, d.H, d.M, 0, 0, d.S, Ao, out.length, co⟩ : BX) _ (idW_bd (by omega)) (by omega) (hpl.below HBW.out) (fun h => by omega)).mono ?_
            rintro e wc2 ⟨pv', rfl, hp', hbA⟩
            have e1 : setN bs (k + 1) (idW k) (⟨d.X, d.Y, d.W, d.H, d.M, 0, 0, d.S, Ao, out.length, co⟩ : BX) = k + 1 + 1 := by unfold setN; rw [hset, if_pos rfl, hfr]; rfl
            have e2 : setB bs (k + 1) (idW k) (⟨d.X, d.Y, d.W, d.H, d.M, 0, 0, d.S, Ao, out.length, co⟩ : BX) = fun j => if j = idW k then some (⟨d.X, d.Y, d.W, d.H, d.M, 0, 0, d.S, Ao, out.length, co⟩ : BX) else bs j := by unfold setB; rw [hset, if_pos rfl]
            rw [hset]
            rw [e1, e2] at hp'
            have hsn := (hsc.below hbA).snoc (HOF.out.below hbA)
            rw [HKL.out, ← HTK.out] at hsn
            have HSN := Lib.hid hsn
            have HPN := Lib.hid hp'
            obtain ⟨mp', rfl, _⟩ := hp'
            clear hsc hset hfr e1 e2 hsn
            replace HBW := Lib.hid (bstep HBW.out hbA)
            replace KA44 := Lib.hid (KA44.out.belowS hbA)
            replace HOF := Lib.hid (HOF.out.below hbA)
            clear hbA
            go_simp
            refine hK.out _ _ ?_ (fun hHeld => ?_)
            · (try dsimp only)
              exact ⟨(K10.out.belowS HBW.out).cellV (i := 0) rfl, (((bstep HB.out HBW.out).cell (p := ⟨b, off + k * 8 + 1, none⟩) HBL.out).trans HC.out.1.2.1), (((bstep HB.out HBW.out).cell (p := ⟨b, off + k * 8 + 2, none⟩) HBL.out).trans HC.out.1.2.2.1), (((bstep HB.out HBW.out).cell (p := ⟨b, off + k * 8 + 3, none⟩) HBL.out).trans HC.out.1.2.2.2), (((bstep HB.out HBW.out).cell (p := ⟨b, off + k * 8 + 4, none⟩) HBL.out).trans HC.out.2.1), (((bstep HB.out HBW.out).cell (p := ⟨b, off + k * 8 + 5, none⟩) HBL.out).trans HC.out.2.2.1), (((bstep HB.out HBW.out).cell (p := ⟨b, off + k * 8 + 6, none⟩) HBL.out).trans HC.out.2.2.2.1), (((bstep HB.out HBW.out).cell (p := ⟨b, off + k * 8 + 7, none⟩) HBL.out).trans HC.out.2.2.2.2)⟩
            clear hK K
            refine Tr.take_at 41 47 (.tuple #[.agg #[.map mp'], .int .i64 0]) rfl rfl (by kernel_rfl) (by kernel_rfl) (by kernel_rfl) (fun _ _ _ h => h) (Or.inl ⟨by rfl, ?_⟩) (by assumption) ?_
            · intro W0 hSw
              (try dsimp only at hSw)
              go_simp
            simp only [List.set_cons_zero, List.set_cons_succ]
            refine Tr.take_at 42 89 (.agg #[.map mp']) rfl rfl (by kernel_rfl) (by kernel_rfl) (by kernel_rfl) (fun _ _ _ h => h) (Or.inl ⟨by rfl, ?_⟩) (by assumption) ?_
            · intro W0 hSw
              (try dsimp only at hSw)
              go_simp
            simp only [List.set_cons_zero, List.set_cons_succ]
            refine Tr.take_at 43 90 (.int .i64 0) rfl rfl (by kernel_rfl) (by kernel_rfl) (by kernel_rfl) (fun _ _ _ h => h) (Or.inl ⟨by rfl, ?_⟩) (by assumption) ?_
            · intro W0 hSw
              (try dsimp only at hSw)
              go_simp
            simp only [List.set_cons_zero, List.set_cons_succ]
            refine wpAnyH_ready (rs := [45]) (by kernel_rfl) (by simp) ?_
            refine AllReadyH.cons rfl (fun K hK => ?_) AllReadyH.nil
            refine Tr.wanted_plain rfl ?_
            refine store_mid0 rfl 40 _ _ rfl (wc.heap.size) 0 #[.map mp'] (by rfl) (by rfl) (by have h := there_blk KA44.out; exact h) Tryz.sizePl (by simp [Value.oneCell']) ?_
            have xK := blk_puts1 (.map mp') KA44.out
            have xB := bsets HBW.out HL44.out (#[.map mp'] : Array Value).toList 0
            have xHOF := (show BoxOf (World.setCells (wc2) (wc.heap.size) 0 (#[.map mp'] : Array Value).toList) d _ from HOF.out.keepG (grown_setCell _ ⟨wc.heap.size, 0, none⟩ (.map mp')) KA44.out.noInt1)
            have xHPN := (show PlaceIs (World.setCells (wc2) (wc.heap.size) 0 (#[.map mp'] : Array Value).toList) (.agg #[.map mp']) (k + 1 + 1) _ from HPN.out.setBlk KA44.out 0 (.map mp'))
            have xHSN := (show SceneIs (World.setCells (wc2) (wc.heap.size) 0 (#[.map mp'] : Array Value).toList) _ RW RH (l.take (k + 1)) from HSN.out.keepG (grown_setCell _ ⟨wc.heap.size, 0, none⟩ (.map mp')) KA44.out.noInt1)
            obtain ⟨wS45, hwS⟩ : ∃ wS, World.setCells wc2 (wc.heap.size) 0 (#[.map mp'] : Array Value).toList = wS := ⟨_, rfl⟩
            rw [hwS] at xK xB xHOF xHPN xHSN ⊢
            replace HBW := Lib.hid xB
            replace KA44 := Lib.hid xK
            replace HOF := Lib.hid xHOF
            replace HPN := Lib.hid xHPN
            replace HSN := Lib.hid xHSN
            clear hwS xK xB xHOF xHPN xHSN
            refine hK.out _ _ ?_ (fun hHeld => ?_)
            · (try dsimp only)
              exact ⟨(K10.out.belowS HBW.out).cellV (i := 0) rfl, (((bstep HB.out HBW.out).cell (p := ⟨b, off + k * 8 + 1, none⟩) HBL.out).trans HC.out.1.2.1), (((bstep HB.out HBW.out).cell (p := ⟨b, off + k * 8 + 2, none⟩) HBL.out).trans HC.out.1.2.2.1), (((bstep HB.out HBW.out).cell (p := ⟨b, off + k * 8 + 3, none⟩) HBL.out).trans HC.out.1.2.2.2), (((bstep HB.out HBW.out).cell (p := ⟨b, off + k * 8 + 4, none⟩) HBL.out).trans HC.out.2.1), (((bstep HB.out HBW.out).cell (p := ⟨b, off + k * 8 + 5, none⟩) HBL.out).trans HC.out.2.2.1), (((bstep HB.out HBW.out).cell (p := ⟨b, off + k * 8 + 6, none⟩) HBL.out).trans HC.out.2.2.2.1), (((bstep HB.out HBW.out).cell (p := ⟨b, off + k * 8 + 7, none⟩) HBL.out).trans HC.out.2.2.2.2)⟩
            clear hK K
            refine Tr.take_at 46 16 (.int .i64 0) rfl rfl (by kernel_rfl) (by kernel_rfl) (by kernel_rfl) (fun _ _ _ h => h) (Or.inl ⟨by rfl, ?_⟩) (by assumption) ?_
            · intro W0 hSw
              (try dsimp only at hSw)
              go_simp
            simp only [List.set_cons_zero, List.set_cons_succ]
            refine wpAnyH_done (by kernel_rfl) ?_ _
            refine NoPanic.normal ?_
            go_wp2_with fail
            go_meet
            exact ⟨_, mp', _, rfl, rfl, HL44.out, KA44.out, HPN.out, HSN.out, HBW.out⟩
      obtain ⟨g15, mp', bs', rfl, rfl, hg15, hk15, hp15, hs15, hbc⟩ := hcut
      have HG15 := Lib.hid (show g13 < g15 by have := K13.out.lt; omega)
      have K15 := Lib.hid hk15
      have HPN := Lib.hid hp15
      have HSN := Lib.hid hs15
      replace HB := Lib.hid (bstep HB.out hbc)
      replace K6 := Lib.hid (K6.out.belowS hbc)
      replace K7 := Lib.hid (K7.out.belowS hbc)
      replace K9 := Lib.hid (K9.out.belowS hbc)
      replace K10 := Lib.hid (K10.out.belowS hbc)
      replace HMD := Lib.hid (HMD.out.below hbc)
      replace K13 := Lib.hid (K13.out.belowS hbc)
      replace HTN := Lib.hid (HTN.out.below hbc)
      clear hbc hg15 hk15 hp15 hs15
      have HLT' := HLT.out
      have HG13' := HG13.out
      have HG15' := HG15.out
      have q9a := K9.out.cellV (i := 0) (v := .map mk) rfl
      have q9b := K9.out.cellV (i := 1) (v := .map mu) rfl
      have q10 := K10.out.cellV (i := 0) (v := .map mp) rfl
      have q13a := K13.out.cellV (i := 0) (v := .map mk') rfl
      have q13b := K13.out.cellV (i := 1) (v := .map mu') rfl
      have q15 := K15.out.cellV (i := 0) (v := .map mp') rfl
      have f9a := K9.out.frozen 0
      have f9b := K9.out.frozen 1
      have f10 := K10.out.frozen 0
      have l9 := K9.out.lt
      have l10 := K10.out.lt
      have ne1 : w1.heap.size ≠ w2.heap.size := by omega
      have ne2 : g13 ≠ w1.heap.size := by omega
      have ne3 : g15 ≠ w1.heap.size := by omega
      have ne4 : g13 ≠ w2.heap.size := by omega
      have ne5 : g15 ≠ w2.heap.size := by omega
      go_upto_region 12 with fail
      have l6 := K6.out.lt
      have ne6 : w1.heap.size ≠ w.heap.size := by omega
      have ne7 : w2.heap.size ≠ w.heap.size := by omega
      have ne8 : w1.heap.size ≠ w.heap.size + 1 := by omega
      have ne9 : w2.heap.size ≠ w.heap.size + 1 := by omega
      go_region
      have tk6 := (((K6.out.far (p := ⟨w1.heap.size, 0, none⟩) (by show _ ≠ _; simp only; omega) (.map mk')).far (p := ⟨w1.heap.size, 1, none⟩) (by show _ ≠ _; simp only; omega) (.map mu')).far (p := ⟨w2.heap.size, 0, none⟩) (by show _ ≠ _; simp only; omega) (.map mp')).drewT
      have tk7 := (((K7.out.far (p := ⟨w1.heap.size, 0, none⟩) (by show _ ≠ _; simp only; omega) (.map mk')).far (p := ⟨w1.heap.size, 1, none⟩) (by show _ ≠ _; simp only; omega) (.map mu')).far (p := ⟨w2.heap.size, 0, none⟩) (by show _ ≠ _; simp only; omega) (.map mp')).drewT
      have tk9 := (((K9.out.set_ 0 (.map mk')).set_ 1 (.map mu')).far (p := ⟨w2.heap.size, 0, none⟩) (by show _ ≠ _; simp only; omega) (.map mp')).drewT
      have tk10a := (K10.out.far (p := ⟨w1.heap.size, 0, none⟩) (by show _ ≠ _; simp only; omega) (.map mk')).far (p := ⟨w1.heap.size, 1, none⟩) (by show _ ≠ _; simp only; omega) (.map mu')
      have tk10 := (tk10a.set_ 0 (.map mp')).drewT
      have hkl2 : (l.take (k + 1)).length = k + 1 := by rw [List.length_take, HLN.out]; omega
      have tm0 : MadeAt _ mk' mu' mp' nk' fk' bs' RW RH (l.take (k + 1)) := ⟨HTN.out, by rw [hkl2]; exact HPN.out, HSN.out⟩
      have tha := (((tm0.set2 K9.out 0 (.map mk')).set2 (show Blk _ _ _ #[.map mk', .map mu] from K9.out.set_ 0 (.map mk')) 1 (.map mu')).set1 tk10a 0 (.map mp')).below (bre _).drew
      have thb := (bset (p := ⟨w2.heap.size, 0, none⟩) (bset (p := ⟨w1.heap.size, 1, none⟩) (bset (p := ⟨w1.heap.size, 0, none⟩) HB.out (by show w.heap.size ≤ w1.heap.size; omega) (.map mk')) (by show w.heap.size ≤ w1.heap.size; omega) (.map mu')) (by show w.heap.size ≤ w2.heap.size; omega) (.map mp')).drew
      clear tm0 tk10a
      go_wp2_with fail
      go_roundw
      case rel => exact ⟨k + 1, mk', mu', mp', nk', fk', bs', by go_num, by omega, ⟨tk6, tk7, tk9, tk10⟩, tha, thb⟩
      case measure => simp [intOf]; omega
    · obtain rfl : k = n := by omega
      have k1 : ¬ (k : Int) < (k : Int) := by omega
      go_upto_region 13 with fail
      have HLT' := HLT.out
      have q0 := K9.out.cellV (i := 0) (v := .map mk) rfl
      have q1 := K9.out.cellV (i := 1) (v := .map mu) rfl
      have q2 := K10.out.cellV (i := 0) (v := .map mp) rfl
      have s0 := K6.out.cellV (i := 0) (v := .map none) rfl
      have s1 := K6.out.cellV (i := 1) (v := .map none) rfl
      have s2 := K7.out.cellV (i := 0) (v := .map none) rfl
      have f0 := K6.out.frozen 0
      have f1 := K6.out.frozen 1
      have f2 := K7.out.frozen 0
      have l0 := K6.out.lt
      have l1 := K7.out.lt
      have ne1 : w2.heap.size ≠ w.heap.size := by omega
      have ne2 : w2.heap.size ≠ w.heap.size + 1 := by omega
      have ne3 : w1.heap.size ≠ w.heap.size := by omega
      have ne4 : w1.heap.size ≠ w.heap.size + 1 := by omega
      go_region
      have tk6 := (((K6.out.set_ 0 (.map mk)).set_ 1 (.map mu)).far (p := ⟨w.heap.size + 1, 0, none⟩) (by show _ ≠ _; simp only; omega) (.map mp)).drewT
      have tk7a := (K7.out.far (p := ⟨w.heap.size, 0, none⟩) (by show _ ≠ _; simp only; omega) (.map mk)).far (p := ⟨w.heap.size, 1, none⟩) (by show _ ≠ _; simp only; omega) (.map mu)
      have tk7 := (tk7a.set_ 0 (.map mp)).drewT
      have tha := (((HMD.out.set2 K6.out 0 (.map mk)).set2 (show Blk _ _ _ #[.map mk, .map none] from K6.out.set_ 0 (.map mk)) 1 (.map mu)).set1 tk7a 0 (.map mp)).below (bre _).drew
      have thb := (bset (p := ⟨w.heap.size + 1, 0, none⟩) (bset (p := ⟨w.heap.size, 1, none⟩) (bset (p := ⟨w.heap.size, 0, none⟩) HB.out (by show w.heap.size ≤ w.heap.size; omega) (.map mk)) (by show w.heap.size ≤ w.heap.size; omega) (.map mu)) (by show w.heap.size ≤ w.heap.size + 1; omega) (.map mp)).drew
      clear q0 q1 q2 s0 s1 s2 f0 f1 f2 l0 l1 tk7a
      obtain ⟨W9, hW9⟩ : ∃ W9, (((wr.setCell ⟨w.heap.size, 0, none⟩ (.map mk)).setCell ⟨w.heap.size, 1, none⟩ (.map mu)).setCell ⟨w.heap.size + 1, 0, none⟩ (.map mp)).drew = W9 := ⟨_, rfl⟩
      rw [hW9] at tk6 tk7 tha thb ⊢
      have r0 := tk6.cellV (i := 0) (v := .map mk) rfl
      have r1 := tk6.cellV (i := 1) (v := .map mu) rfl
      have r2 := tk7.cellV (i := 0) (v := .map mp) rfl
      rw [List.take_of_length_le (by rw [HLN.out]; exact Nat.le_refl _)] at tha
      have HA9 := Lib.hid tha
      have HB9 := Lib.hid thb
      clear tk6 tk7 tha thb hW9
      repeat (first | go_values | go_skip | go_guarded | go_step | go_upon)
      exact bodyPost_ret (v := .tuple #[.agg #[.map mk, .map mu], .agg #[.map mp], .bool true]) (by simp [results, Tryz.results22, go_sem, r0, r1, r2]) rfl ⟨mk, mu, mp, nk, fk, bs, rfl, HA9.out, HB9.out⟩
end Go.Proofs.YtdaedkolpfkdjaaGreat
end
