/-
  The walk of a tree's Below.
  What shows of a window and of all below it, for all windows; the blocks with which the view is begun; what stays where a block without numbers changes.
  The walk of view.Of.
-/
import Derived.Test.YtdaedkolpfkdjaaGreatZT17
import Derived.Test.YtdaedkolpfkdjaaGreatZT21
import Derived.Test.YtdaedkolpfkdjaaGreatZT22
section
namespace Go.Proofs.YtdaedkolpfkdjaaGreat
open Go.RowKit Go.Maps Go.Shelf

/-- the walk's own value: its captured variables. -/
def walkF (bo bt bw : Nat) : Value := .func (.func 153) #[] #[.pointer (some ⟨bo, 0, none⟩), .pointer (some ⟨bt, 0, none⟩), .pointer (some ⟨bw, 0, none⟩)]
/-- what is collected so far. -/
structure AtB (w0 : World) (bo : Nat) (out : List Int) (x : World) : Prop where
  box : ∃ v, Blk x bo 43 #[v] ∧ x.ownsRow w0.heap.size 48 1 v out.length (U32 out)
  grown : w0.grownBy x (some bo)
theorem kids_ok {ns : Nodes} (hk : okN ns) {id k : Int} (h : k ∈ kidsOf ns id) : 0 ≤ k ∧ k ≤ 4294967295 := (hk _ (kids_mem.1 h)).1
theorem take_flat {l : List Int} {f : Int → List Int} {k : Nat} {x : Int} (h : l[k]? = some x) : (l.take (k + 1)).flatMap f = (l.take k).flatMap f ++ f x := by
  have hk := (List.getElem?_eq_some_iff.1 h)
  obtain ⟨h1, h2⟩ := hk
  rw [List.take_succ_eq_append_getElem h1, List.flatMap_append, h2]
  simp
theorem take_flat_len (l : List Int) (f : Int → List Int) (k : Nat) : ((l.take k).flatMap f).length ≤ (l.flatMap f).length := by
  have h : l.flatMap f = (l.take k).flatMap f ++ (l.drop k).flatMap f := by
    rw [← List.flatMap_append, List.take_append_drop]
  rw [h, List.length_append]
  omega

set_option maxRecDepth 100000 in
set_option maxHeartbeats 4000000 in
theorem below1_any (ns : Nodes) (mk mu : Option Nat) (nk : Nat) (fk : Int → Option Value) (W w0 : World) (bo bt bw : Nat) (hT : TreeIs W (.agg #[.map mk, .map mu]) ns mk mu nk fk) (hok : TreeOk ns) (hB : Below W.heap.size W w0) (hbo : W.heap.size ≤ bo) (hbo' : bo < w0.heap.size)
    (h1 : Blk w0 bt 37 #[.map mk, .map mu]) (h2 : Blk w0 bw 176 #[walkF bo bt bw]) (n1 : bt ≠ bo) (n2 : bw ≠ bo) :
    ∀ id, (0 ≤ id ∧ id ≤ 4294967295) → ∀ (pre : List Int) (x : World), pre.length + (belowAt ns id).length ≤ 2000 → AtB w0 bo pre x →
      Calls Tryz.prog 153 #[.int .u32 id, .pointer (some ⟨bo, 0, none⟩), .pointer (some ⟨bt, 0, none⟩), .pointer (some ⟨bw, 0, none⟩)] x fun e x' => e = .returned (.tuple #[]) ∧ AtB w0 bo (pre ++ belowAt ns id) x' := by
  obtain ⟨i0, hi0, hz0, hz1, hz2⟩ := info_parts Tryz.infoU
  have HT := Lib.hid hT
  have HB := Lib.hid hB
  have HH1 := Lib.hid h1
  have HH2 := Lib.hid h2
  have HOK := Lib.hid hok
  clear hT hB h1 h2
  refine below_ind hok ?_
  intro id ih hid pre x hlen hx
  have IH := Lib.hid ih
  obtain ⟨⟨v, hbx, hown⟩, hgx⟩ := hx
  obtain ⟨A, c, rfl, hc⟩ := own_form hown
  have hst := below_step HOK.out id
  have HST := Lib.hid hst
  have hkn := kids_len HT.out.few id
  rw [hst] at hlen
  simp only [List.length_cons] at hlen
  have HL := Lib.hid hlen
  have hpl : pre.length ≤ 2000 := by omega
  have HWF := Lib.hid (u32_wf hid)
  have HX := Lib.hid hgx
  have HO := Lib.hid hown
  have HBX := Lib.hid hbx
  have hs0 := hgx.size
  have HS0 := Lib.hid hs0
  have hge := own_ge hown
  have HGE := Lib.hid hge
  have q0 := hbx.cellV (i := 0) (v := .slice A pre.length c) rfl
  have f0 := hbx.frozen 0
  have hxl := hbx.lt
  clear ih hown hgx hbx hst hlen hge
  go_enter Tryz.func153, Tryz.ntmps153
  go_upto_region 1 with (at_builtin; refine wpList_append_own _ rfl _ _ 43 rfl w0.heap.size 48 i0 _ 1 4 Tryz.underlying43 hi0 hz0 hz1 hz2 rfl (by decide) _ _ _ rfl (HO.out.alloc _) ⟨x.heap.size, 0, none⟩ 1 1 [.int .u32 id] rfl rfl (cell_one_new _ _ _) (by simp [Value.oneCell']) (by simp only [maxLen]; omega) (by omega) (by simp; omega) ?_; intro v' w4 hown' hgrow _; obtain ⟨A', c', rfl, _⟩ := own_form hown'; have HO4 := Lib.hid hown'; have HG4 := Lib.hid hgrow; have b4 := (HBX.out.alloc (.cells #[.int .u32 id] 48)).grown hgrow (by intro e; have := HGE.out _ e.symm; omega); have f4 := b4.frozen 0; have l4 := b4.lt; have q4 := b4.cellV (i := 0) (v := .slice A pre.length c) rfl; have B4 := Lib.hid b4; clear hown' hgrow b4)
  have hp1 : (pre.length + 1) = (pre ++ [id]).length := by simp
  obtain ⟨X, hX⟩ : ∃ X, w4.setCell ⟨bo, 0, none⟩ (.slice A' (pre.length + 1) c') = X := ⟨_, rfl⟩
  have hgw : w0.grownBy X (some bo) := by
    rw [← hX]
    exact ((HX.out.andThen (World.grownBy_alloc x (.cells #[.int .u32 id] 48) none) (fun j hj => by cases hj)).andThen HG4.out (fun j hj => .inl (HGE.out j hj))).andThen (grown_setCell w4 ⟨bo, 0, none⟩ _) (fun j hj => .inr hj)
  have hbX : Blk X bo 43 #[.slice A' (pre.length + 1) c'] := by
    rw [← hX]
    exact B4.out.set_ 0 _
  have hoX : X.ownsRow w0.heap.size 48 1 (.slice A' (pre.length + 1) c') (pre ++ [id]).length (U32 (pre ++ [id])) := by
    rw [← hX]
    have := own_far HO4.out (p := ⟨bo, 0, none⟩) hbo' (.slice A' (pre.length + 1) c')
    simpa [U32] using this
  have HAT := Lib.hid (show AtB w0 bo (pre ++ [id]) X from ⟨⟨_, hbX, hoX⟩, hgw⟩)
  have HTX := Lib.hid (HT.out.below (HB.out.grown hgw HB.out.size (fun q e => by cases e; exact hbo)))
  have HG := Lib.hid hgw
  rw [hX]
  clear hgw hbX hoX hX
  obtain ⟨Ak, cK, hKe, hKc, hKr⟩ := HT.out.each id
  have HKE := Lib.hid hKe
  have HKR := Lib.hid hKr
  have b1 := HH1.out.grown HG.out (fun e => n1 (Option.some.inj e))
  have c1 := b1.cellV (i := 0) (v := .map mk) rfl
  clear hKe hKr b1
  go_wp2_with (at_lookup; refine opt_look rfl _ _ 34 rfl 48 43 .u32 Tryz.underlying48 Tryz.underlying34 (.slice none 0 0) (Tryz.zeroIDs _) mk nk fk rfl HTX.out.kids id rfl HWF.out ?_; rw [HKE.out]; go_frame)
  obtain ⟨n, hn⟩ : ∃ n, (kidsOf ns id).length = n := ⟨_, rfl⟩
  rw [hn] at HKR hKc hkn ⊢
  have HN := Lib.hid hn
  clear hn
  go_loopw [16, 6] (fun i _ wr => ∃ k : Nat, i = .int .i64 k ∧ k ≤ n ∧ AtB w0 bo (pre ++ id :: ((kidsOf ns id).take k).flatMap (belowAt ns)) wr) (fun i _ _ => n - (intOf i).toNat)
  case atStart => exact ⟨0, rfl, by omega, by simpa using HAT.out⟩
  case round =>
    obtain ⟨k, rfl, hk, hat⟩ := hrel
    have HA := Lib.hid hat
    have hsz := hat.grown.size
    by_cases hlt : k < n
    · obtain ⟨kid, hkid⟩ : ∃ kid, (kidsOf ns id)[k]? = some kid := ⟨_, List.getElem?_eq_getElem (by rw [HN.out]; exact hlt)⟩
      have HBW := Lib.hid (HB.out.grown hat.grown HB.out.size (fun q e => by cases e; exact hbo))
      obtain ⟨b, off, rfl, hbl, hcl⟩ := (HKR.out.below HBW.out).2 (by omega)
      have hcell := hcl k _ (U32_at hkid)
      have b2 := HH2.out.grown hat.grown (fun e => n2 (Option.some.inj e))
      have c2 : wr.cell? ⟨bw, 0, none⟩ = some (.func (.func 153) #[] #[.pointer (some ⟨bo, 0, none⟩), .pointer (some ⟨bt, 0, none⟩), .pointer (some ⟨bw, 0, none⟩)]) := b2.cellV (i := 0) rfl
      have k1 : (k : Int) < (n : Int) := by omega
      have k0 : (0 : Int) ≤ (k : Int) := by omega
      have HM := Lib.hid (List.mem_of_getElem? hkid)
      have htf := take_flat (f := belowAt ns) hkid
      have hfl := take_flat_len (kidsOf ns id) (belowAt ns) (k + 1)
      rw [htf, List.length_append] at hfl
      have HTF := Lib.hid htf
      have HFL := Lib.hid hfl
      clear hkid hcl b2 htf hfl hat
      go_wp2_with fail
      with_reducible refine (IH.out kid HM.out (kids_ok HT.out.ok HM.out) (pre ++ id :: ((kidsOf ns id).take k).flatMap (belowAt ns)) wr (by have h1 := HL.out; have h2 := HFL.out; simp only [List.length_append, List.length_cons]; omega) HA.out).mono ?_
      rintro e w5 ⟨rfl, hat5⟩
      have HA5 := Lib.hid hat5
      clear hat5
      go_wp2_with fail
      go_roundw
      case rel =>
        refine ⟨k + 1, by go_num, by omega, ?_⟩
        have := HA5.out
        rw [List.append_assoc, List.cons_append, ← HTF.out] at this
        exact this
      case measure => simp [intOf]; omega
    · obtain rfl : k = n := by omega
      go_wp2_with fail
      go_end0
      refine ⟨rfl, ?_⟩
      have := HA.out
      rw [List.take_of_length_le (by rw [HN.out]; exact Nat.le_refl _)] at this
      rw [HST.out]
      exact this

set_option maxRecDepth 100000 in
set_option maxHeartbeats 4000000 in
theorem below_any (v : Value) (ns : Nodes) (mk mu : Option Nat) (nk : Nat) (fk : Int → Option Value) (id : Int) (w : World) (hid : 0 ≤ id ∧ id ≤ 4294967295) (h : TreeIs w v ns mk mu nk fk) (hok : TreeOk ns) :
    Calls Tryz.prog 92 #[v, .int .u32 id] w fun e w' => ∃ u, e = .returned u ∧ w'.ownsRow w.heap.size 48 1 u (belowN ns id).length (U32 (belowN ns id)) ∧ Below w.heap.size w w' := by
  have hv := h.shape
  subst hv
  have HT := Lib.hid h
  have HB0 := Lib.hid (bal (bre w) (.cells #[.map mk, .map mu] 37))
  have H0 := Lib.hid (Blk.new w 37 #[.map mk, .map mu])
  have hfew := h.few
  have HOK := Lib.hid hok
  clear h
  cases hi : hasN ns id
  · have HI := Lib.hid hi
    have hbl : belowN ns id = [] := by unfold belowN; rw [hi]; rfl
    rw [hbl]
    clear hi
    go_enter Tryz.func92, Tryz.ntmps92
    go_wp2_with fail
    with_reducible refine (has_any _ ns mk mu nk fk _ _ hid (HT.out.below HB0.out)).mono ?_
    rintro e w1 ⟨rfl, hb1⟩
    rw [HI.out]
    have HB1 := Lib.hid hb1
    clear hb1
    go_wp2_with fail
    go_ret
    exact ⟨_, rfl, World.ownsRow_nil _ _ _ _, bstep HB0.out HB1.out⟩
  · have HI := Lib.hid hi
    have hbl : belowN ns id = belowAt ns id := by unfold belowN; rw [hi]; rfl
    have hlen := below_len HOK.out hi
    rw [hbl]
    clear hi
    go_enter Tryz.func92, Tryz.ntmps92
    go_wp2_with fail
    with_reducible refine (has_any _ ns mk mu nk fk _ _ hid (HT.out.below HB0.out)).mono ?_
    rintro e w1 ⟨rfl, hb1⟩
    rw [HI.out]
    have HB1 := Lib.hid (bstep HB0.out hb1)
    have H1 := Lib.hid (H0.out.belowS hb1)
    have hsz : w.heap.size < w1.heap.size := H1.out.lt
    clear hb1
    go_wp2_with fail
    have HH1 := Lib.hid ((H1.out.alloc (.cells #[.slice none 0 0] 43)).alloc (.cells #[.func (.func 153) #[] #[.pointer (some ⟨w1.heap.size, 0, none⟩), .pointer (some ⟨w.heap.size, 0, none⟩), .pointer (some ⟨w1.heap.size + 1, 0, none⟩)]] 176))
    have HH2 := Lib.hid (blk_new2 w1 (.cells #[.slice none 0 0] 43) 176 #[walkF w1.heap.size w.heap.size (w1.heap.size + 1)])
    have HH0 := Lib.hid ((Blk.new w1 43 #[.slice none 0 0]).alloc (.cells #[walkF w1.heap.size w.heap.size (w1.heap.size + 1)] 176))
    have HBW := Lib.hid (bal (bal HB1.out (.cells #[.slice none 0 0] 43)) (.cells #[walkF w1.heap.size w.heap.size (w1.heap.size + 1)] 176))
    have hat := below1_any ns mk mu nk fk w ((w1.alloc (.cells #[.slice none 0 0] 43)).alloc (.cells #[walkF w1.heap.size w.heap.size (w1.heap.size + 1)] 176)) w1.heap.size w.heap.size (w1.heap.size + 1) HT.out HOK.out HBW.out (by omega) (by simp; omega) HH1.out HH2.out (by omega) (by omega) id hid [] _ (by simp; omega) ⟨⟨_, HH0.out, World.ownsRow_nil _ _ _ _⟩, ⟨rfl, rfl, rfl, Nat.le_refl _, fun _ _ _ => rfl⟩⟩
    unfold walkF at hat
    refine hat.mono ?_
    rintro e w5 ⟨rfl, ⟨⟨u, hbu, hou⟩, hgu⟩⟩
    rw [List.nil_append] at hou
    obtain ⟨A, c, rfl, hc⟩ := own_form hou
    have q5 := hbu.cellV (i := 0) (v := .slice A (belowAt ns id).length c) rfl
    have HOU := Lib.hid hou
    have HGU := Lib.hid hgu
    have HB5 := Lib.hid (HBW.out.grown hgu HBW.out.size (fun q e => by cases e; omega))
    clear hat hou hgu hbu
    go_wp2_with fail
    go_ret
    exact ⟨_, rfl, own_lower HOU.out (by simp; omega), HB5.out⟩

end Go.Proofs.YtdaedkolpfkdjaaGreat
end

section
namespace Go.Proofs.YtdaedkolpfkdjaaGreat
open Go.RowKit Go.Maps Go.Shelf

theorem hand_any {wB w0 : World} {bp bt bh bv mv : Nat} {mp mk mu : Option Nat} {n nk : Nat} {fk : Int → Option Value} {ns : Nodes} {bs : Bxs} {bx : Int → Option VB} {RW RH : Int}
    (C : VCtx wB w0 bp bt bh bv mv mp mk mu n nk fk ns bs bx RW RH) : ∀ (f : Nat) (id : Int) (v1 v2 : Value) (pl lf : List RC) (es : List (Int × Places)) (x : World), (belowAt ns id).length ≤ f → es.length + f * 1100000 ≤ 10000000000000 → hasN ns id = true → orgOk ns bs id = true → RegAt x v1 pl → RegAt x v2 lf → InRoot RW RH pl → InRoot RW RH lf → HandAt w0 mv ns bs es x →
      Calls Tryz.prog 86 #[.int .u32 id, v1, v2, .pointer (some ⟨bp, 0, none⟩), .pointer (some ⟨bt, 0, none⟩), .pointer (some ⟨bh, 0, none⟩), .pointer (some ⟨bv, 0, none⟩)] x fun e x' => e = .returned (.tuple #[]) ∧ HandAt w0 mv ns bs (es ++ handF ns bx (f) id (inB pl) (inB lf)) x' ∧ x.grownBy x' (some mv)
  | 0, id, _, _, _, _, _, _, hl, _, _, _, _, _, _, _, _ => by rw [below_step C.tok] at hl; simp at hl
  | f + 1, id, v1, v2, pl, lf, es, x, hl, hw, hh, ho, h1, h2, hp1, hp2, hat => hand_step C f (hand_any C f) id v1 v2 pl lf es x hl hw hh ho h1 h2 hp1 hp2 hat
theorem start6 (w : World) (t0 t1 t4 t5 t6 : TypeId) (c0 c1 c4 c5 c6 : Array Value) {N : World} (hN : (((((w.alloc (.cells c0 t0)).alloc (.cells c1 t1)).alloc (.cells c4 t4)).alloc (.map #[] 0)).alloc (.cells c5 t5)).alloc (.cells c6 t6) = N) :
    (Blk N w.heap.size t0 c0 ∧ Blk N (w.heap.size + 1) t1 c1 ∧ Blk N (w.heap.size + 1 + 1) t4 c4) ∧ MapIs Tryz.prog 48 .u32 N (w.heap.size + 1 + 1 + 1) 0 (fun _ => none) ∧ (Blk N (w.heap.size + 1 + 1 + 1 + 1) t5 c5 ∧ Blk N (w.heap.size + 1 + 1 + 1 + 1 + 1) t6 c6) ∧ Below w.heap.size w N ∧ N.heap.size = w.heap.size + 6 := by
  obtain ⟨w1, h1⟩ : ∃ w1, w.alloc (.cells c0 t0) = w1 := ⟨_, rfl⟩
  have a0 := Blk.new w t0 c0
  have z0 := World.size_alloc w (.cells c0 t0)
  have q0 := bal (bre w) (.cells c0 t0)
  rw [h1] at hN a0 z0 q0
  obtain ⟨w2, h2⟩ : ∃ w2, w1.alloc (.cells c1 t1) = w2 := ⟨_, rfl⟩
  have a1 := Blk.new w1 t1 c1
  have z1 := World.size_alloc w1 (.cells c1 t1)
  replace a0 := a0.alloc (.cells c1 t1)
  replace q0 := bal q0 (.cells c1 t1)
  rw [z0] at a1
  rw [h2] at hN a0 a1 z1 q0
  obtain ⟨w3, h3⟩ : ∃ w3, w2.alloc (.cells c4 t4) = w3 := ⟨_, rfl⟩
  have a4 := Blk.new w2 t4 c4
  have z2 := World.size_alloc w2 (.cells c4 t4)
  replace a0 := a0.alloc (.cells c4 t4)
  replace a1 := a1.alloc (.cells c4 t4)
  replace q0 := bal q0 (.cells c4 t4)
  rw [z1, z0] at a4
  rw [h3] at hN a0 a1 a4 z2 q0
  obtain ⟨w4, h4⟩ : ∃ w4, w3.alloc (.map #[] 0) = w4 := ⟨_, rfl⟩
  have m := MapIs.made (P := Tryz.prog) (k := 48) (q := .u32) w3
  have z3 := World.size_alloc w3 (.map #[] 0)
  replace a0 := a0.alloc (.map #[] 0)
  replace a1 := a1.alloc (.map #[] 0)
  replace a4 := a4.alloc (.map #[] 0)
  replace q0 := bal q0 (.map #[] 0)
  rw [z2, z1, z0] at m
  rw [h4] at hN a0 a1 a4 m z3 q0
  obtain ⟨w5, h5⟩ : ∃ w5, w4.alloc (.cells c5 t5) = w5 := ⟨_, rfl⟩
  have a5 := Blk.new w4 t5 c5
  have z4 := World.size_alloc w4 (.cells c5 t5)
  replace a0 := a0.alloc (.cells c5 t5)
  replace a1 := a1.alloc (.cells c5 t5)
  replace a4 := a4.alloc (.cells c5 t5)
  replace m := m.alloc (.cells c5 t5)
  replace q0 := bal q0 (.cells c5 t5)
  rw [z3, z2, z1, z0] at a5
  rw [h5] at hN a0 a1 a4 a5 m z4 q0
  have a6 := Blk.new w5 t6 c6
  have z5 := World.size_alloc w5 (.cells c6 t6)
  replace a0 := a0.alloc (.cells c6 t6)
  replace a1 := a1.alloc (.cells c6 t6)
  replace a4 := a4.alloc (.cells c6 t6)
  replace a5 := a5.alloc (.cells c6 t6)
  replace m := m.alloc (.cells c6 t6)
  replace q0 := bal q0 (.cells c6 t6)
  rw [z4, z3, z2, z1, z0] at a6
  rw [hN] at a0 a1 a4 a5 a6 m z5 q0
  exact ⟨⟨a0, a1, a4⟩, m, ⟨a5, a6⟩, q0, by omega⟩
/-- a block in which there is no number. -/
def NoInt (W : World) (g : Nat) : Prop := ∀ o k i, W.cell? ⟨g, o, none⟩ ≠ some (.int k i)
section
variable {W W' : World} {g : Nat}
theorem Blk.noInt {t : TypeId} {A : Option Addr} {n c : Nat} {m : Option Nat} (h : Blk W g t #[.slice A n c, .map m]) : NoInt W g := fun o k i e => by
  rw [h.cell] at e
  match o, e with
  | 0, e => simp at e
  | 1, e => simp at e
  | o + 2, e => simp at e
theorem RdR.keepG {A : Option Addr} {n : Nat} {rs : List RC} (h : RdR W A n rs) (hg : W.grownBy W' (some g)) (hno : NoInt W g) : RdR W' A n rs :=
  ⟨h.1, fun hn => by
    obtain ⟨b, off, e, hb, hc⟩ := h.2 hn
    obtain ⟨r, hr'⟩ : ∃ r, rs[0]? = some r := ⟨_, List.getElem?_eq_getElem (by rw [h.1]; exact hn)⟩
    have hne : b ≠ g := fun e' => by
      subst e'
      exact hno _ _ _ (hc 0 r hr').1
    have hk : ∀ o v, W.cell? ⟨b, o, none⟩ = some v → W'.cell? ⟨b, o, none⟩ = some v := fun o v hv => (World.cell?_of_block (hg.block b hb (fun e => hne (Option.some.inj e)))).trans hv
    exact ⟨b, off, e, Nat.lt_of_lt_of_le hb hg.size, fun i r hi => by
      obtain ⟨c0, c1, c2, c3⟩ := hc i r hi
      exact ⟨hk _ _ c0, hk _ _ c1, hk _ _ c2, hk _ _ c3⟩⟩⟩
theorem RegAt.keepG {v : Value} {l : List RC} (h : RegAt W v l) (hg : W.grownBy W' (some g)) (hno : NoInt W g) : RegAt W' v l := by
  obtain ⟨A, c, e, h1, h2⟩ := h
  exact ⟨A, c, e, h1.keepG hg hno, h2⟩
theorem Rd.keepG {A : Option Addr} {n : Nat} {l : List Int} (h : Rd W A n (U32 l)) (hg : W.grownBy W' (some g)) (hno : NoInt W g) : Rd W' A n (U32 l) :=
  ⟨h.1, fun hn => by
    obtain ⟨b, off, e, hb, hc⟩ := h.2 hn
    have hlen : l.length = n := by have := h.1; simpa [U32] using this
    obtain ⟨i, hi⟩ : ∃ i, l[0]? = some i := ⟨_, List.getElem?_eq_getElem (by omega)⟩
    have hne : b ≠ g := fun e' => by
      subst e'
      exact hno _ _ _ (hc 0 _ (U32_at hi))
    exact ⟨b, off, e, Nat.lt_of_lt_of_le hb hg.size, fun k v hk => (World.cell?_of_block (hg.block b hb (fun e => hne (Option.some.inj e)))).trans (hc k v hk)⟩⟩
end

end Go.Proofs.YtdaedkolpfkdjaaGreat
end

section
namespace Go.Proofs.YtdaedkolpfkdjaaGreat
open Go.RowKit Go.Maps Go.Shelf

def rectP (RW RH : Int) : Places := fun x y => inB [⟨0, 0, RW, RH⟩] x y
/-- what the view's order has, some windows on. -/
theorem take_filter {l : List Int} {k : Nat} {i : Int} (h : l[k]? = some i) (p : Int → Bool) : (l.take (k + 1)).filter p = (l.take k).filter p ++ (if p i then [i] else []) := by
  rw [List.take_add_one, h, List.filter_append]
  cases hp : p i <;> simp [hp]
set_option maxRecDepth 1000000 in
set_option maxHeartbeats 8000000 in
theorem viewOf_any (mp mk mu : Option Nat) (n nk : Nat) (fk : Int → Option Value) (ns : Nodes) (bs : Bxs) (bx : Int → Option VB) (RW RH : Nat) (w : World)
    (hT : TreeIs w (.agg #[.map mk, .map mu]) ns mk mu nk fk) (hP : PlaceIs w (.agg #[.map mp]) n bs) (tok : TreeOk ns) (rel : BxRel w bs bx) (sides : ∀ k b, bs k = some b → (1 ≤ b.W ∧ b.W ≤ 128) ∧ 1 ≤ b.H ∧ b.H ≤ 128) (nearb : nearB bs)
    (near : ∀ k, (-900000 ≤ orgX ns bs k ∧ orgX ns bs k ≤ 900000) ∧ -900000 ≤ orgY ns bs k ∧ orgY ns bs k ≤ 900000) (hR : (1 ≤ RW ∧ RW ≤ 128) ∧ 1 ≤ RH ∧ RH ≤ 128) (hroot : bs 1 = some (rootBX RW RH)) :
    Calls Tryz.prog 25 #[.agg #[.map mk, .map mu], .agg #[.map mp]] w fun e w' => ∃ v A n c mv nm f, e = .returned v ∧ ViewIs w' v A n c mv nm f (ordW ns bx 1) (esN ns bx (rectP RW RH)) (fun i => (orgX ns bs i, orgY ns bs i)) RW RH ∧ Below w.heap.size w w' := by
  obtain ⟨i0, hi0, hz0, hz1, hz2⟩ := info_parts Tryz.infoU
  have HT := Lib.hid hT
  have HP := Lib.hid hP
  have HTOK := Lib.hid tok
  have HREL := Lib.hid rel
  have HSD := Lib.hid sides
  have HNB := Lib.hid nearb
  have HNR := Lib.hid near
  have HRR := Lib.hid hR
  have HRT := Lib.hid hroot
  clear hT hP tok rel sides nearb near hR hroot
  have hmm := @run_makeMap Tryz.prog
  go_enter Tryz.func25, Tryz.ntmps25
  go_wp2_with fail
  obtain ⟨N1, hN1⟩ : ∃ N1, (((((w.alloc (.cells #[.map mk, .map mu] 37)).alloc (.cells #[.map mp] 40)).alloc (.cells #[.slice none 0 0, .map none] 52)).alloc (.map #[] 0)).alloc (.cells #[.slice none 0 0, .map (some (w.heap.size + 1 + 1 + 1))] 52)).alloc (.cells #[.func (.func 86) #[] #[.pointer (some ⟨w.heap.size + 1, 0, none⟩), .pointer (some ⟨w.heap.size, 0, none⟩), .pointer (some ⟨w.heap.size + 1 + 1 + 1 + 1 + 1, 0, none⟩), .pointer (some ⟨w.heap.size + 1 + 1 + 1 + 1, 0, none⟩)]] 177) = N1 := ⟨_, rfl⟩
  obtain ⟨⟨a2, a3, a4⟩, am, ⟨a5, a6⟩, ab, az⟩ := start6 w _ _ _ _ _ _ _ _ _ _ hN1
  rw [hN1]
  clear hmm hN1
  have K2 := Lib.hid a2
  have K3 := Lib.hid a3
  have K4 := Lib.hid a4
  have HM := Lib.hid am
  have K5 := Lib.hid a5
  have K6 := Lib.hid a6
  have HB := Lib.hid ab
  have HZ := Lib.hid az
  clear a2 a3 a4 am a5 a6 ab az
  have hbox := box_any (.agg #[.map mp]) n bs 1 N1 (by decide) (HP.out.below HB.out)
  rw [HRT.out] at hbox
  refine (show Calls Tryz.prog 60 #[.agg #[.map mp], .int .u32 1] N1 (fun e w' => e = .returned (.tuple #[.agg #[.int .i64 0, .int .i64 0, .int .i64 RW, .int .i64 RH, .bool true, .int .i64 1, .int .i64 1, .bool false, .slice none 0 0], .bool true]) ∧ Below N1.heap.size N1 w') from hbox).mono ?_
  rintro e w2 ⟨rfl, hb2⟩
  have HS2 := Lib.hid hb2.size
  replace K2 := Lib.hid (K2.out.belowS hb2)
  replace K3 := Lib.hid (K3.out.belowS hb2)
  replace K4 := Lib.hid (K4.out.belowS hb2)
  replace HM := Lib.hid (HM.out.below hb2)
  replace K5 := Lib.hid (K5.out.belowS hb2)
  replace K6 := Lib.hid (K6.out.belowS hb2)
  replace HB := Lib.hid (bstep HB.out hb2)
  clear hbox hb2
  have e3 := (K3.out.alloc (.cells #[.int .i64 0, .int .i64 0, .int .i64 RW, .int .i64 RH, .bool true, .int .i64 1, .int .i64 1, .bool false, .slice none 0 0] 133)).cellV (i := 0) (v := .map mp) rfl
  go_upto_region 6 with fail
  clear e3
  have hba : Below w2.heap.size w2 (w2.alloc (.cells #[.int .i64 0, .int .i64 0, .int .i64 RW, .int .i64 RH, .bool true, .int .i64 1, .int .i64 1, .bool false, .slice none 0 0] 133)) := bal (bre w2) _
  have xK2 := K2.out.belowS hba
  have xK3 := K3.out.belowS hba
  have xK4 := K4.out.belowS hba
  have xHM := HM.out.below hba
  have xK5 := K5.out.belowS hba
  have xK6 := K6.out.belowS hba
  have xHB := bstep HB.out hba
  have xK7 := Blk.new w2 133 #[.int .i64 0, .int .i64 0, .int .i64 RW, .int .i64 RH, .bool true, .int .i64 1, .int .i64 1, .bool false, .slice none 0 0]
  obtain ⟨X3, hX3⟩ : ∃ X3, w2.alloc (.cells #[.int .i64 0, .int .i64 0, .int .i64 RW, .int .i64 RH, .bool true, .int .i64 1, .int .i64 1, .bool false, .slice none 0 0] 133) = X3 := ⟨_, rfl⟩
  rw [hX3] at hba xK2 xK3 xK4 xHM xK5 xK6 xHB xK7 ⊢
  replace K2 := Lib.hid xK2
  replace K3 := Lib.hid xK3
  replace K4 := Lib.hid xK4
  replace HM := Lib.hid xHM
  replace K5 := Lib.hid xK5
  replace K6 := Lib.hid xK6
  replace HB := Lib.hid xHB
  have K7 := Lib.hid xK7
  have HSX3 := Lib.hid hba.size
  clear hX3 hba xK2 xK3 xK4 xHM xK5 xK6 xHB xK7
  clear K7
  have d3 := K3.out.cellV (i := 0) (v := .map mp) rfl
  go_wp2_with fail
  have h129 : (upto 0 (128 : Int).toNat).length * (upto 0 (128 : Int).toNat).length ≤ 100000 := by rw [upto_len]; decide
  refine (areaZ_any (.agg #[.map mp]) n bs 1 (rootBX RW RH) [] (upto 0 (128 : Int).toNat) (upto 0 (128 : Int).toNat) _ (by decide) (HP.out.below HB.out) HRT.out (by have := HRR.out; show (1 ≤ (RW : Int) ∧ (RW : Int) ≤ 1000000) ∧ 1 ≤ (RH : Int) ∧ (RH : Int) ≤ 1000000; omega) (reg_nil _ 0) (inRoot_edges (rect_pos (by have := HRR.out; show 1 ≤ (RW : Int) ∧ 1 ≤ (RH : Int); omega)) (by decide) (rect_in (by have := HRR.out; show (RW : Int) ≤ 128 ∧ (RH : Int) ≤ 128; omega))) h129).mono ?_
  rintro e w4 ⟨v4, out, rfl, hr4, hi4, hb4⟩
  have HIN := Lib.hid (show inB out = rectP RW RH from by
    funext a b
    rw [hi4]
    show (_ && (!false || _)) = _
    simp [rectP, rootBX])
  have HR4 := Lib.hid hr4
  obtain ⟨A4, c4, rfl, _⟩ := hr4
  have HS4 := Lib.hid hb4.size
  replace K2 := Lib.hid (K2.out.belowS hb4)
  replace K3 := Lib.hid (K3.out.belowS hb4)
  replace K4 := Lib.hid (K4.out.belowS hb4)
  replace HM := Lib.hid (HM.out.below hb4)
  replace K5 := Lib.hid (K5.out.belowS hb4)
  replace K6 := Lib.hid (K6.out.belowS hb4)
  replace HB := Lib.hid (bstep HB.out hb4)
  clear hb4 hi4 d3
  go_upto_region 7 with fail
  have hba : Below w4.heap.size w4 (w4.alloc (.cells #[.slice A4 out.length c4] 57)) := bal (bre w4) _
  have xK2 := K2.out.belowS hba
  have xK3 := K3.out.belowS hba
  have xK4 := K4.out.belowS hba
  have xHM := HM.out.below hba
  have xK5 := K5.out.belowS hba
  have xK6 := K6.out.belowS hba
  have xHB := bstep HB.out hba
  have xHR4 := HR4.out.below hba
  have xK9 := Blk.new w4 57 #[.slice A4 out.length c4]
  obtain ⟨W0, hW0⟩ : ∃ W0, w4.alloc (.cells #[.slice A4 out.length c4] 57) = W0 := ⟨_, rfl⟩
  rw [hW0] at hba xK2 xK3 xK4 xHM xK5 xK6 xHB xHR4 xK9 ⊢
  replace K2 := Lib.hid xK2
  replace K3 := Lib.hid xK3
  replace K4 := Lib.hid xK4
  replace HM := Lib.hid xHM
  replace K5 := Lib.hid xK5
  replace K6 := Lib.hid xK6
  replace HB := Lib.hid xHB
  replace HR4 := Lib.hid xHR4
  have K9 := Lib.hid xK9
  have HSW0 := Lib.hid hba.size
  clear hW0 hba xK2 xK3 xK4 xHM xK5 xK6 xHB xHR4 xK9
  have d6 := K6.out.cellV (i := 0) (v := .func (.func 86) #[] #[.pointer (some ⟨w.heap.size + 1, 0, none⟩), .pointer (some ⟨w.heap.size, 0, none⟩), .pointer (some ⟨w.heap.size + 1 + 1 + 1 + 1 + 1, 0, none⟩), .pointer (some ⟨w.heap.size + 1 + 1 + 1 + 1, 0, none⟩)]) rfl
  have d9 := K9.out.cellV (i := 0) (v := .slice A4 out.length c4) rfl
  have HLT := Lib.hid (show w.heap.size + 6 ≤ W0.heap.size by have := HZ.out; have := HS2.out; have := HSX3.out; have := HS4.out; have := HSW0.out; omega)
  have hbl := below_len HTOK.out (hasN_root ns)
  have hfew := HT.out.few
  have C : VCtx w W0 (w.heap.size + 1) w.heap.size (w.heap.size + 1 + 1 + 1 + 1 + 1) (w.heap.size + 1 + 1 + 1 + 1) (w.heap.size + 1 + 1 + 1) mp mk mu n nk fk ns bs bx RW RH := {
    hB := HB.out
    hm := by omega
    hm0 := by have := HLT.out; omega
    k3 := K3.out
    k4 := K2.out
    k5 := K6.out
    k6 := K5.out
    n3 := by omega
    n4 := by omega
    n5 := by omega
    n6 := by omega
    place := HP.out
    tree := HT.out
    tok := HTOK.out
    rel := HREL.out
    sides := HSD.out
    nearb := HNB.out
    near := fun k => by have := HNR.out k; omega
    side := by have := HRR.out; omega }
  have HC := Lib.hid C
  have hroot : InRoot RW RH out := fun a b hab => by
    have h1 := (inB_iff _ _ _).2 hab
    rw [HIN.out] at h1
    exact (inB_rect _ _ _ _).1 h1
  have ho1 : orgOk ns bs 1 = true := by
    unfold orgOk
    rw [hasN_root, path_root HTOK.out]
    simp [allB, HRT.out]
  have hat0 : HandAt W0 (w.heap.size + 1 + 1 + 1) ns bs [] W0 := ⟨⟨rfl, rfl, rfl, Nat.le_refl _, fun _ _ _ => rfl⟩, by have := HLT.out; omega, 0, _, by simp, HM.out, fun _ _ => rfl, fun i e he => by simp [lastE] at he⟩
  have hh := hand_any C (belowAt ns 1).length 1 _ _ out out [] W0 (Nat.le_refl _) (by simp only [List.length_nil]; omega) (hasN_root ns) ho1 HR4.out HR4.out hroot hroot hat0
  have HH := Lib.hid hh
  clear C hroot ho1 hat0 hh hbl
  go_wp2_with fail
  refine HH.out.mono ?_
  rintro e w5 ⟨rfl, hat5, hg5⟩
  rw [List.nil_append, HIN.out, show handF ns bx (belowAt ns 1).length 1 (rectP RW RH) (rectP RW RH) = esN ns bx (rectP RW RH) from rfl] at hat5
  have HAT5 := Lib.hid hat5
  have HG5 := Lib.hid hg5
  clear d6 d9 HH hat5
  replace K2 := Lib.hid (K2.out.grown hg5 (fun e => by have := Option.some.inj e; omega))
  replace K4 := Lib.hid (K4.out.grown hg5 (fun e => by have := Option.some.inj e; omega))
  replace K5 := Lib.hid (K5.out.grown hg5 (fun e => by have := Option.some.inj e; omega))
  replace HB := Lib.hid (HB.out.grown hg5 HB.out.size (fun q e => by have := Option.some.inj e; omega))
  clear hg5 K3 K6 HM K9 HR4
  have d2 := K2.out.cellV (i := 0) (v := .map mk) rfl
  have d2' := K2.out.cellV (i := 1) (v := .map mu) rfl
  go_wp2_with fail
  refine (below_any (.agg #[.map mk, .map mu]) ns mk mu nk fk 1 _ (by decide) (HT.out.below HB.out) HTOK.out).mono ?_
  rintro e w6 ⟨u6, rfl, ho6, hb6⟩
  obtain ⟨A6, c6, rfl, hc6⟩ := own_form ho6
  have HR6 := Lib.hid (Rd.of_own ho6)
  have HAT6 := Lib.hid (HAT5.out.below hb6)
  have HS6 := Lib.hid hb6.size
  have HS5 := Lib.hid HG5.out.size
  obtain ⟨nb, hnb⟩ : ∃ nb, (belowN ns 1).length = nb := ⟨_, rfl⟩
  have hr6 := HR6.out
  rw [hnb] at hr6 hc6 ⊢
  replace HR6 := Lib.hid hr6
  have HNB6 := Lib.hid hnb
  have hnb1 : nb ≤ 1001 := by
    have := below_len HTOK.out (hasN_root ns)
    rw [← hnb]
    unfold belowN
    rw [if_pos (hasN_root ns)]
    omega
  replace K4 := Lib.hid (K4.out.belowS hb6)
  replace K5 := Lib.hid (K5.out.belowS hb6)
  replace HB := Lib.hid (bstep HB.out hb6)
  clear hb6 ho6 hr6 hnb d2 d2' K2 HG5 HAT5
  have HL6 := Lib.hid (show w.heap.size + 6 ≤ w6.heap.size by have := HLT.out; have := HS5.out; have := HS6.out; omega)
  go_wp2_with fail
  obtain ⟨es, hes⟩ : ∃ es, esN ns bx (rectP RW RH) = es := ⟨_, rfl⟩
  have hat := HAT6.out
  rw [hes] at hat
  have HES := Lib.hid hes
  replace HAT6 := Lib.hid hat
  obtain ⟨nm, fm, hnm, hmm, hf1, hf2⟩ := hat.map
  have HMM := Lib.hid hmm
  have HF1 := Lib.hid hf1
  have HF2 := Lib.hid hf2
  clear hat hes hmm hf1 hf2
  go_loopw [32] (fun i wr => ∃ (k : Nat) (Ao : Option Addr) (co : Nat), i = .int .i64 k ∧ k ≤ nb ∧ Blk wr (w.heap.size + 1 + 1 + 1 + 1) 52 #[.slice Ao (((belowN ns 1).take k).filter (fun i => (lastE es i).isSome)).length co, .map (some (w.heap.size + 1 + 1 + 1))] ∧ wr.ownsRow w6.heap.size 48 1 (.slice Ao (((belowN ns 1).take k).filter (fun i => (lastE es i).isSome)).length co) (((belowN ns 1).take k).filter (fun i => (lastE es i).isSome)).length (U32 (((belowN ns 1).take k).filter (fun i => (lastE es i).isSome))) ∧ w6.grownBy wr (some (w.heap.size + 1 + 1 + 1 + 1))) (fun i _ => nb - (intOf i).toNat)
  case atStart => exact ⟨0, none, 0, rfl, by omega, K5.out, World.ownsRow_nil _ _ _ _, ⟨rfl, rfl, rfl, Nat.le_refl _, fun _ _ _ => rfl⟩⟩
  case round =>
    obtain ⟨k, Ao, co, rfl, hk, hbv, hown, hg⟩ := hrel
    have HGR := Lib.hid hg
    have HBV := Lib.hid hbv
    have HOW := Lib.hid hown
    by_cases hlt : k < nb
    · obtain ⟨i, hx⟩ : ∃ i, (belowN ns 1)[k]? = some i := ⟨_, List.getElem?_eq_getElem (by rw [HNB6.out]; exact hlt)⟩
      have HTF := Lib.hid (take_filter hx (fun i => (lastE es i).isSome))
      have him := List.mem_of_getElem? hx
      have hid : 0 ≤ i ∧ i ≤ 4294967295 := by
        unfold belowN at him
        rw [if_pos (hasN_root ns), below_root HTOK.out] at him
        rcases hasN_iff.1 him with e | ⟨p, hp⟩
        · rw [e]; decide
        · exact (HT.out.ok _ (upOf_some hp)).1
      have HWF := Lib.hid (u32_wf hid)
      obtain ⟨b, off, rfl, hb, hcl⟩ := (HR6.out.keepG hg K5.out.noInt).2 (by omega)
      have c0 := hcl k _ (U32_at hx)
      have k1 : (k : Int) < (nb : Int) := by omega
      have k0 : (0 : Int) ≤ (k : Int) := by omega
      have d51 := hbv.cellV (i := 1) (v := .map (some (w.heap.size + 1 + 1 + 1))) rfl
      have HMR := Lib.hid (HMM.out.kept hg (fun e => by have := Option.some.inj e; omega))
      obtain ⟨ordk, hok⟩ : ∃ ordk, ((belowN ns 1).take k).filter (fun i => (lastE es i).isSome) = ordk := ⟨_, rfl⟩
      have hol : ordk.length ≤ nb := by
        rw [← hok, ← HNB6.out]
        exact Nat.le_trans (List.length_filter_le _ _) (by rw [List.length_take]; omega)
      have h1 := HBV.out
      have h2 := HOW.out
      have h3 := HTF.out
      rw [hok] at h1 h2 h3
      replace HBV := Lib.hid h1
      replace HOW := Lib.hid h2
      replace HTF := Lib.hid h3
      have OLL := Lib.hid hol
      clear hok h1 h2 h3 hol hbv hown hg hcl hx him
      cases hle : lastE es i with
      | none =>
        have hfi := HF1.out i hle
        have HG := Lib.hid (show (fm i).getD (shV 0 0 none 0 0) = .agg #[.int .i64 0, .int .i64 0, .slice none 0 0] by rw [hfi]; rfl)
        have HS := Lib.hid (show (fm i).isSome = false by rw [hfi]; rfl)
        have HLE := Lib.hid hle
        clear hfi hle
        go_wp2_with (at_lookup; refine map_look_ok rfl _ _ 50 rfl 48 188 .u32 Tryz.underlying48 Tryz.underlying50 (shV 0 0 none 0 0) (Tryz.zeroShown _) (w.heap.size + 1 + 1 + 1) nm fm rfl HMR.out i rfl HWF.out ?_; rw [HG.out, HS.out])
        go_roundw
        case rel =>
          refine ⟨k + 1, Ao, co, by go_num, by omega, ?_⟩
          rw [HTF.out, HLE.out]
          simp only [Option.isSome, Bool.false_eq_true, if_false, List.append_nil]
          exact ⟨HBV.out.alloc _, HOW.out.alloc _, HGR.out.andThen (World.grownBy_alloc _ _ none) (fun j hj => by cases hj)⟩
        case measure => simp [intOf]; omega
      | some e9 =>
        obtain ⟨Ar, cr, outr, hfi, _, _⟩ := HF2.out i e9 hle
        have HG := Lib.hid (show (fm i).getD (shV 0 0 none 0 0) = .agg #[.int .i64 (orgX ns bs i), .int .i64 (orgY ns bs i), .slice Ar outr.length cr] by rw [hfi]; rfl)
        have HS := Lib.hid (show (fm i).isSome = true by rw [hfi]; rfl)
        have HLE := Lib.hid hle
        clear hfi hle
        go_upto_region 13 with (at_lookup; refine map_look_ok rfl _ _ 50 rfl 48 188 .u32 Tryz.underlying48 Tryz.underlying50 (shV 0 0 none 0 0) (Tryz.zeroShown _) (w.heap.size + 1 + 1 + 1) nm fm rfl HMR.out i rfl HWF.out ?_; rw [HG.out, HS.out])
        have xB := HBV.out.alloc (.cells #[.int .i64 (orgX ns bs i), .int .i64 (orgY ns bs i), .slice Ar outr.length cr] 188)
        have xO := HOW.out.alloc (.cells #[.int .i64 (orgX ns bs i), .int .i64 (orgY ns bs i), .slice Ar outr.length cr] 188)
        have xG := HGR.out.andThen (World.grownBy_alloc wr (.cells #[.int .i64 (orgX ns bs i), .int .i64 (orgY ns bs i), .slice Ar outr.length cr] 188) none) (fun j hj => by cases hj)
        obtain ⟨X9, hX9⟩ : ∃ X9, wr.alloc (.cells #[.int .i64 (orgX ns bs i), .int .i64 (orgY ns bs i), .slice Ar outr.length cr] 188) = X9 := ⟨_, rfl⟩
        rw [hX9] at xB xO xG ⊢
        replace HBV := Lib.hid xB
        replace HOW := Lib.hid xO
        replace HGR := Lib.hid xG
        have HGS := Lib.hid xG.size
        clear xB xO xG hX9 d51 c0
        have q0 := HBV.out.cellV (i := 0) (v := .slice Ao ordk.length co) rfl
        have OL := OLL.out
        go_wp2_with (at_builtin; refine wpList_append_own _ rfl _ _ 43 rfl w6.heap.size 48 i0 _ 1 4 Tryz.underlying43 hi0 hz0 hz1 hz2 rfl (by decide) _ _ _ rfl (HOW.out.alloc _) ⟨X9.heap.size, 0, none⟩ 1 1 [.int .u32 i] rfl rfl (cell_one_new _ _ _) (by simp [Value.oneCell']) (by simp only [maxLen]; omega) (by omega) (by have := HGS.out; simp; omega) ?_; intro v' w8 hown' hgrow _; obtain ⟨A8, c8, rfl, _⟩ := own_form hown'; have HO8 := Lib.hid hown'; have HG8 := Lib.hid hgrow; have b8 := (HBV.out.alloc (.cells #[.int .u32 i] 48)).grown hgrow (by intro e; have := own_ge HOW.out _ e.symm; have := HL6.out; omega); have f8 := b8.frozen 0; have l8 := b8.lt; have q8 := b8.cellV (i := 0) (v := .slice Ao ordk.length co) rfl; have B8 := Lib.hid b8; clear hown' hgrow b8)
        go_roundw
        case rel =>
          refine ⟨k + 1, A8, c8, by go_num, by omega, ?_⟩
          rw [HTF.out, HLE.out]
          simp only [Option.isSome, if_true]
          have e1 : (ordk ++ [i]).length = ordk.length + 1 := by simp
          refine ⟨by rw [e1]; exact B8.out.set_ 0 _, ?_, ?_⟩
          · have h8 := own_far HO8.out (p := ⟨(w.heap.size + 1 + 1 + 1 + 1), 0, none⟩) (by show (w.heap.size + 1 + 1 + 1 + 1) < w6.heap.size; have := HL6.out; omega) (.slice A8 (ordk.length + 1) c8)
            simpa [U32] using h8
          · exact ((HGR.out.andThen (World.grownBy_alloc _ _ none) (fun j hj => by cases hj)).andThen HG8.out (fun j hj => .inl (own_ge HOW.out j hj))).andThen (grown_setCell w8 ⟨(w.heap.size + 1 + 1 + 1 + 1), 0, none⟩ _) (fun j hj => .inr hj)
        case measure => simp [intOf]; omega
    · obtain rfl : k = nb := by omega
      have k1 : ¬ (k : Int) < (k : Int) := by omega
      have hk2 : ((belowN ns 1).take k).filter (fun i => (lastE es i).isSome) = ordW ns bx 1 := by
        rw [List.take_of_length_le (by rw [HNB6.out]; exact Nat.le_refl _), ← HES.out]
        exact ord_look HTOK.out _
      have hml : (ordW ns bx 1).length ≤ k := by
        rw [← hk2, ← HNB6.out]
        exact Nat.le_trans (List.length_filter_le _ _) (by rw [List.length_take]; omega)
      rw [hk2] at hbv hown
      obtain ⟨m, hm⟩ : ∃ m, (ordW ns bx 1).length = m := ⟨_, rfl⟩
      rw [hm] at hbv hown hml
      have HML := Lib.hid hml
      have HOWN := Lib.hid hown
      have HCAP := Lib.hid (show m ≤ co by
        obtain ⟨A', c', e, h⟩ := own_form hown
        cases e
        exact h)
      have hr4 := K4.out.grown hg (fun e => by have := Option.some.inj e; omega)
      have q40 := hr4.cellV (i := 0) (v := .slice none 0 0) rfl
      have q41 := hr4.cellV (i := 1) (v := .map none) rfl
      have f40 := hr4.frozen 0
      have f41 := hr4.frozen 1
      have l4 := hr4.lt
      have b50 := hbv.cellV (i := 0) rfl
      have b51 := hbv.cellV (i := 1) rfl
      have HK4 := Lib.hid hr4
      clear hbv hown hg hr4 hk2 hml
      go_wp2_with fail
      have hk9 : Blk ((wr.setCell ⟨(w.heap.size + 1 + 1), 0, none⟩ (.slice Ao m co)).setCell ⟨(w.heap.size + 1 + 1), 1, none⟩ (.map (some (w.heap.size + 1 + 1 + 1)))) (w.heap.size + 1 + 1) 52 #[.slice Ao m co, .map (some (w.heap.size + 1 + 1 + 1))] := (HK4.out.set_ 0 (.slice Ao m co)).set_ 1 (.map (some (w.heap.size + 1 + 1 + 1)))
      have G2 := (grown_setCell wr ⟨(w.heap.size + 1 + 1), 0, none⟩ (.slice Ao m co)).andThen (grown_setCell (wr.setCell ⟨(w.heap.size + 1 + 1), 0, none⟩ (.slice Ao m co)) ⟨(w.heap.size + 1 + 1), 1, none⟩ (.map (some (w.heap.size + 1 + 1 + 1)))) (fun j hj => .inr hj)
      have hOF := own_far (own_far HOWN.out (p := ⟨(w.heap.size + 1 + 1), 0, none⟩) (by show (w.heap.size + 1 + 1) < w6.heap.size; have := HL6.out; omega) (.slice Ao m co)) (p := ⟨(w.heap.size + 1 + 1), 1, none⟩) (by show (w.heap.size + 1 + 1) < w6.heap.size; have := HL6.out; omega) (.map (some (w.heap.size + 1 + 1 + 1)))
      have hMF := ((HMM.out.kept HGR.out (fun e => by have := Option.some.inj e; omega)).setCell (a := ⟨(w.heap.size + 1 + 1), 0, none⟩) (by show (w.heap.size + 1 + 1 + 1) ≠ (w.heap.size + 1 + 1); omega) (.slice Ao m co)).setCell (a := ⟨(w.heap.size + 1 + 1), 1, none⟩) (by show (w.heap.size + 1 + 1 + 1) ≠ (w.heap.size + 1 + 1); omega) (.map (some (w.heap.size + 1 + 1 + 1)))
      have hBF := (HB.out.grown HGR.out HB.out.size (fun q e => by have := Option.some.inj e; omega)).grown G2 (Nat.le_trans HB.out.size HGR.out.size) (fun q e => by have := Option.some.inj e; dsimp only at this; omega)
      obtain ⟨wF, hwF⟩ : ∃ wF, (wr.setCell ⟨(w.heap.size + 1 + 1), 0, none⟩ (.slice Ao m co)).setCell ⟨(w.heap.size + 1 + 1), 1, none⟩ (.map (some (w.heap.size + 1 + 1 + 1))) = wF := ⟨_, rfl⟩
      rw [hwF] at hk9 G2 hOF hMF hBF ⊢
      have r0 := hk9.cellV (i := 0) (v := .slice Ao m co) rfl
      have r1 := hk9.cellV (i := 1) (v := .map (some (w.heap.size + 1 + 1 + 1))) rfl
      have hidk : ∀ i, hasN ns i = true → 0 ≤ i ∧ i ≤ 4294967295 := fun i h => by
        rcases hasN_iff.1 h with e | ⟨p, hp⟩
        · rw [e]; decide
        · exact (HT.out.ok _ (upOf_some hp)).1
      refine bodyPost_ret (v := .agg #[.slice Ao m co, .map (some (w.heap.size + 1 + 1 + 1))]) (by simp [results, Tryz.results25, go_sem, r0, r1]) rfl ⟨_, rfl, ⟨Ao, m, co, some (w.heap.size + 1 + 1 + 1), nm, fm, ?_⟩, hBF⟩
      rw [HES.out]
      exact {
        shape := rfl
        order := Rd.of_own hOF
        few := by have := HML.out; omega
        cap := HCAP.out
        ids := fun i hi => by
          rw [ord_mem HTOK.out, Bool.and_eq_true] at hi
          exact hidk i hi.1
        map := .inr ⟨_, rfl, hMF⟩
        non := HF1.out
        told := fun i e he => by
          obtain ⟨A9, c9, o9, e1, e2, e3⟩ := HF2.out i e he
          exact ⟨A9, c9, o9, e1, (e2.keepG HGR.out K5.out.noInt).keepG G2 HK4.out.noInt, e3⟩
        near := HNR.out
        small := fun i x y hs => by
          rw [← HES.out, show_at HTOK.out, Bool.and_eq_true] at hs
          exact (inB_rect _ _ _ _).1 hs.1
        side := by have := HRR.out; omega }
  

end Go.Proofs.YtdaedkolpfkdjaaGreat
end
