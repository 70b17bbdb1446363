/-
  The walk of a tree's Below.
  What shows of a window and of all below it, for all windows; the blocks with which the view is begun; what stays where a block without numbers changes.
-/
import Derived.Test.YtdaedkolpfkdjaaGreatZV17
import Derived.Test.YtdaedkolpfkdjaaGreatZV21
import Derived.Test.YtdaedkolpfkdjaaGreatZV22
section
namespace Go.Proofs.YtdaedkolpfkdjaaGreat
open Go.RowKit Go.Maps Go.Shelf

/-- the walk's own value: its captured variables. -/
def walkF (bo bt bw : Nat) : Value := .func (.func 153) #[] #[.pointer (some ⟨bo, 0, none⟩), .pointer (some ⟨bt, 0, none⟩), .pointer (some ⟨bw, 0, none⟩)]
/-- what is collected so far. -/
structure AtB (w0 : World) (bo : Nat) (out : List Int) (x : World) : Prop where
  box : ∃ v, Blk x bo 43 #[v] ∧ x.ownsRow w0.heap.size 48 1 v out.length (U32 out)
  grown : w0.grownBy x (some bo)
theorem kids_ok {ns : Nodes} (hk : okN ns) {id k : Int} (h : k ∈ kidsOf ns id) : 0 ≤ k ∧ k ≤ 4294967295 := (hk _ (kids_mem.1 h)).1
theorem take_flat {l : List Int} {f : Int → List Int} {k : Nat} {x : Int} (h : l[k]? = some x) : (l.take (k + 1)).flatMap f = (l.take k).flatMap f ++ f x := by
  have hk := (List.getElem?_eq_some_iff.1 h)
  obtain ⟨h1, h2⟩ := hk
  rw [List.take_succ_eq_append_getElem h1, List.flatMap_append, h2]
  simp
theorem take_flat_len (l : List Int) (f : Int → List Int) (k : Nat) : ((l.take k).flatMap f).length ≤ (l.flatMap f).length := by
  have h : l.flatMap f = (l.take k).flatMap f ++ (l.drop k).flatMap f := by
    rw [← List.flatMap_append, List.take_append_drop]
  rw [h, List.length_append]
  omega

set_option maxRecDepth 100000 in
set_option maxHeartbeats 4000000 in
theorem below1_any (ns : Nodes) (mk mu : Option Nat) (nk : Nat) (fk : Int → Option Value) (W w0 : World) (bo bt bw : Nat) (hT : TreeIs W (.agg #[.map mk, .map mu]) ns mk mu nk fk) (hok : TreeOk ns) (hB : Below W.heap.size W w0) (hbo : W.heap.size ≤ bo) (hbo' : bo < w0.heap.size)
    (h1 : Blk w0 bt 37 #[.map mk, .map mu]) (h2 : Blk w0 bw 176 #[walkF bo bt bw]) (n1 : bt ≠ bo) (n2 : bw ≠ bo) :
    ∀ id, (0 ≤ id ∧ id ≤ 4294967295) → ∀ (pre : List Int) (x : World), pre.length + (belowAt ns id).length ≤ 2000 → AtB w0 bo pre x →
      Calls Tryz.prog 153 #[.int .u32 id, .pointer (some ⟨bo, 0, none⟩), .pointer (some ⟨bt, 0, none⟩), .pointer (some ⟨bw, 0, none⟩)] x fun e x' => e = .returned (.tuple #[]) ∧ AtB w0 bo (pre ++ belowAt ns id) x' := by
  obtain ⟨i0, hi0, hz0, hz1, hz2⟩ := info_parts Tryz.infoU
  have HT := Lib.hid hT
  have HB := Lib.hid hB
  have HH1 := Lib.hid h1
  have HH2 := Lib.hid h2
  have HOK := Lib.hid hok
  clear hT hB h1 h2
  refine below_ind hok ?_
  intro id ih hid pre x hlen hx
  have IH := Lib.hid ih
  obtain ⟨⟨v, hbx, hown⟩, hgx⟩ := hx
  obtain ⟨A, c, rfl, hc⟩ := own_form hown
  have hst := below_step HOK.out id
  have HST := Lib.hid hst
  have hkn := kids_len HT.out.few id
  rw [hst] at hlen
  simp only [List.length_cons] at hlen
  have HL := Lib.hid hlen
  have hpl : pre.length ≤ 2000 := by omega
  have HWF := Lib.hid (u32_wf hid)
  have HX := Lib.hid hgx
  have HO := Lib.hid hown
  have HBX := Lib.hid hbx
  have hs0 := hgx.size
  have HS0 := Lib.hid hs0
  have hge := own_ge hown
  have HGE := Lib.hid hge
  have q0 := hbx.cellV (i := 0) (v := .slice A pre.length c) rfl
  have f0 := hbx.frozen 0
  have hxl := hbx.lt
  clear ih hown hgx hbx hst hlen hge
  go_enter Tryz.func153, Tryz.ntmps153
  go_upto_region 1 with (at_builtin; refine wpList_append_own _ rfl _ _ 43 rfl w0.heap.size 48 i0 _ 1 4 Tryz.underlying43 hi0 hz0 hz1 hz2 rfl (by decide) _ _ _ rfl (HO.out.alloc _) ⟨x.heap.size, 0, none⟩ 1 1 [.int .u32 id] rfl rfl (cell_one_new _ _ _) (by simp [Value.oneCell']) (by simp only [maxLen]; omega) (by omega) (by simp; omega) ?_; intro v' w4 hown' hgrow _; obtain ⟨A', c', rfl, _⟩ := own_form hown'; have HO4 := Lib.hid hown'; have HG4 := Lib.hid hgrow; have b4 := (HBX.out.alloc (.cells #[.int .u32 id] 48)).grown hgrow (by intro e; have := HGE.out _ e.symm; omega); have f4 := b4.frozen 0; have l4 := b4.lt; have q4 := b4.cellV (i := 0) (v := .slice A pre.length c) rfl; have B4 := Lib.hid b4; clear hown' hgrow b4)
  have hp1 : (pre.length + 1) = (pre ++ [id]).length := by simp
  obtain ⟨X, hX⟩ : ∃ X, w4.setCell ⟨bo, 0, none⟩ (.slice A' (pre.length + 1) c') = X := ⟨_, rfl⟩
  have hgw : w0.grownBy X (some bo) := by
    rw [← hX]
    exact ((HX.out.andThen (World.grownBy_alloc x (.cells #[.int .u32 id] 48) none) (fun j hj => by cases hj)).andThen HG4.out (fun j hj => .inl (HGE.out j hj))).andThen (grown_setCell w4 ⟨bo, 0, none⟩ _) (fun j hj => .inr hj)
  have hbX : Blk X bo 43 #[.slice A' (pre.length + 1) c'] := by
    rw [← hX]
    exact B4.out.set_ 0 _
  have hoX : X.ownsRow w0.heap.size 48 1 (.slice A' (pre.length + 1) c') (pre ++ [id]).length (U32 (pre ++ [id])) := by
    rw [← hX]
    have := own_far HO4.out (p := ⟨bo, 0, none⟩) hbo' (.slice A' (pre.length + 1) c')
    simpa [U32] using this
  have HAT := Lib.hid (show AtB w0 bo (pre ++ [id]) X from ⟨⟨_, hbX, hoX⟩, hgw⟩)
  have HTX := Lib.hid (HT.out.below (HB.out.grown hgw HB.out.size (fun q e => by cases e; exact hbo)))
  have HG := Lib.hid hgw
  rw [hX]
  clear hgw hbX hoX hX
  obtain ⟨Ak, cK, hKe, hKc, hKr⟩ := HT.out.each id
  have HKE := Lib.hid hKe
  have HKR := Lib.hid hKr
  have b1 := HH1.out.grown HG.out (fun e => n1 (Option.some.inj e))
  have c1 := b1.cellV (i := 0) (v := .map mk) rfl
  clear hKe hKr b1
  go_wp2_with (at_lookup; refine opt_look rfl _ _ 34 rfl 48 43 .u32 Tryz.underlying48 Tryz.underlying34 (.slice none 0 0) (Tryz.zeroIDs _) mk nk fk rfl HTX.out.kids id rfl HWF.out ?_; rw [HKE.out]; go_frame)
  obtain ⟨n, hn⟩ : ∃ n, (kidsOf ns id).length = n := ⟨_, rfl⟩
  rw [hn] at HKR hKc hkn ⊢
  have HN := Lib.hid hn
  clear hn
  go_loopw [16, 6] (fun i _ wr => ∃ k : Nat, i = .int .i64 k ∧ k ≤ n ∧ AtB w0 bo (pre ++ id :: ((kidsOf ns id).take k).flatMap (belowAt ns)) wr) (fun i _ _ => n - (intOf i).toNat)
  case atStart => exact ⟨0, rfl, by omega, by simpa using HAT.out⟩
  case round =>
    obtain ⟨k, rfl, hk, hat⟩ := hrel
    have HA := Lib.hid hat
    have hsz := hat.grown.size
    by_cases hlt : k < n
    · obtain ⟨kid, hkid⟩ : ∃ kid, (kidsOf ns id)[k]? = some kid := ⟨_, List.getElem?_eq_getElem (by rw [HN.out]; exact hlt)⟩
      have HBW := Lib.hid (HB.out.grown hat.grown HB.out.size (fun q e => by cases e; exact hbo))
      obtain ⟨b, off, rfl, hbl, hcl⟩ := (HKR.out.below HBW.out).2 (by omega)
      have hcell := hcl k _ (U32_at hkid)
      have b2 := HH2.out.grown hat.grown (fun e => n2 (Option.some.inj e))
      have c2 : wr.cell? ⟨bw, 0, none⟩ = some (.func (.func 153) #[] #[.pointer (some ⟨bo, 0, none⟩), .pointer (some ⟨bt, 0, none⟩), .pointer (some ⟨bw, 0, none⟩)]) := b2.cellV (i := 0) rfl
      have k1 : (k : Int) < (n : Int) := by omega
      have k0 : (0 : Int) ≤ (k : Int) := by omega
      have HM := Lib.hid (List.mem_of_getElem? hkid)
      have htf := take_flat (f := belowAt ns) hkid
      have hfl := take_flat_len (kidsOf ns id) (belowAt ns) (k + 1)
      rw [htf, List.length_append] at hfl
      have HTF := Lib.hid htf
      have HFL := Lib.hid hfl
      clear hkid hcl b2 htf hfl hat
      go_wp2_with fail
      with_reducible refine (IH.out kid HM.out (kids_ok HT.out.ok HM.out) (pre ++ id :: ((kidsOf ns id).take k).flatMap (belowAt ns)) wr (by have h1 := HL.out; have h2 := HFL.out; simp only [List.length_append, List.length_cons]; omega) HA.out).mono ?_
      rintro e w5 ⟨rfl, hat5⟩
      have HA5 := Lib.hid hat5
      clear hat5
      go_wp2_with fail
      go_roundw
      case rel =>
        refine ⟨k + 1, by go_num, by omega, ?_⟩
        have := HA5.out
        rw [List.append_assoc, List.cons_append, ← HTF.out] at this
        exact this
      case measure => simp [intOf]; omega
    · obtain rfl : k = n := by omega
      go_wp2_with fail
      go_end0
      refine ⟨rfl, ?_⟩
      have := HA.out
      rw [List.take_of_length_le (by rw [HN.out]; exact Nat.le_refl _)] at this
      rw [HST.out]
      exact this

set_option maxRecDepth 100000 in
set_option maxHeartbeats 4000000 in
theorem below_any (v : Value) (ns : Nodes) (mk mu : Option Nat) (nk : Nat) (fk : Int → Option Value) (id : Int) (w : World) (hid : 0 ≤ id ∧ id ≤ 4294967295) (h : TreeIs w v ns mk mu nk fk) (hok : TreeOk ns) :
    Calls Tryz.prog 92 #[v, .int .u32 id] w fun e w' => ∃ u, e = .returned u ∧ w'.ownsRow w.heap.size 48 1 u (belowN ns id).length (U32 (belowN ns id)) ∧ Below w.heap.size w w' := by
  have hv := h.shape
  subst hv
  have HT := Lib.hid h
  have HB0 := Lib.hid (bal (bre w) (.cells #[.map mk, .map mu] 37))
  have H0 := Lib.hid (Blk.new w 37 #[.map mk, .map mu])
  have hfew := h.few
  have HOK := Lib.hid hok
  clear h
  cases hi : hasN ns id
  · have HI := Lib.hid hi
    have hbl : belowN ns id = [] := by unfold belowN; rw [hi]; rfl
    rw [hbl]
    clear hi
    go_enter Tryz.func92, Tryz.ntmps92
    go_wp2_with fail
    with_reducible refine (has_any _ ns mk mu nk fk _ _ hid (HT.out.below HB0.out)).mono ?_
    rintro e w1 ⟨rfl, hb1⟩
    rw [HI.out]
    have HB1 := Lib.hid hb1
    clear hb1
    go_wp2_with fail
    go_ret
    exact ⟨_, rfl, World.ownsRow_nil _ _ _ _, bstep HB0.out HB1.out⟩
  · have HI := Lib.hid hi
    have hbl : belowN ns id = belowAt ns id := by unfold belowN; rw [hi]; rfl
    have hlen := below_len HOK.out hi
    rw [hbl]
    clear hi
    go_enter Tryz.func92, Tryz.ntmps92
    go_wp2_with fail
    with_reducible refine (has_any _ ns mk mu nk fk _ _ hid (HT.out.below HB0.out)).mono ?_
    rintro e w1 ⟨rfl, hb1⟩
    rw [HI.out]
    have HB1 := Lib.hid (bstep HB0.out hb1)
    have H1 := Lib.hid (H0.out.belowS hb1)
    have hsz : w.heap.size < w1.heap.size := H1.out.lt
    clear hb1
    go_wp2_with fail
    have HH1 := Lib.hid ((H1.out.alloc (.cells #[.slice none 0 0] 43)).alloc (.cells #[.func (.func 153) #[] #[.pointer (some ⟨w1.heap.size, 0, none⟩), .pointer (some ⟨w.heap.size, 0, none⟩), .pointer (some ⟨w1.heap.size + 1, 0, none⟩)]] 176))
    have HH2 := Lib.hid (blk_new2 w1 (.cells #[.slice none 0 0] 43) 176 #[walkF w1.heap.size w.heap.size (w1.heap.size + 1)])
    have HH0 := Lib.hid ((Blk.new w1 43 #[.slice none 0 0]).alloc (.cells #[walkF w1.heap.size w.heap.size (w1.heap.size + 1)] 176))
    have HBW := Lib.hid (bal (bal HB1.out (.cells #[.slice none 0 0] 43)) (.cells #[walkF w1.heap.size w.heap.size (w1.heap.size + 1)] 176))
    have hat := below1_any ns mk mu nk fk w ((w1.alloc (.cells #[.slice none 0 0] 43)).alloc (.cells #[walkF w1.heap.size w.heap.size (w1.heap.size + 1)] 176)) w1.heap.size w.heap.size (w1.heap.size + 1) HT.out HOK.out HBW.out (by omega) (by simp; omega) HH1.out HH2.out (by omega) (by omega) id hid [] _ (by simp; omega) ⟨⟨_, HH0.out, World.ownsRow_nil _ _ _ _⟩, ⟨rfl, rfl, rfl, Nat.le_refl _, fun _ _ _ => rfl⟩⟩
    unfold walkF at hat
    refine hat.mono ?_
    rintro e w5 ⟨rfl, ⟨⟨u, hbu, hou⟩, hgu⟩⟩
    rw [List.nil_append] at hou
    obtain ⟨A, c, rfl, hc⟩ := own_form hou
    have q5 := hbu.cellV (i := 0) (v := .slice A (belowAt ns id).length c) rfl
    have HOU := Lib.hid hou
    have HGU := Lib.hid hgu
    have HB5 := Lib.hid (HBW.out.grown hgu HBW.out.size (fun q e => by cases e; omega))
    clear hat hou hgu hbu
    go_wp2_with fail
    go_ret
    exact ⟨_, rfl, own_lower HOU.out (by simp; omega), HB5.out⟩

end Go.Proofs.YtdaedkolpfkdjaaGreat
end

section
namespace Go.Proofs.YtdaedkolpfkdjaaGreat
open Go.RowKit Go.Maps Go.Shelf

theorem hand_any {wB w0 : World} {bp bt bh bv mv : Nat} {mp mk mu : Option Nat} {n nk : Nat} {fk : Int → Option Value} {ns : Nodes} {bs : Bxs} {bx : Int → Option VB} {RW RH : Int}
    (C : VCtx wB w0 bp bt bh bv mv mp mk mu n nk fk ns bs bx RW RH) : ∀ (f : Nat) (id : Int) (v1 v2 : Value) (pl lf : List RC) (es : List (Int × Places)) (x : World), (belowAt ns id).length ≤ f → es.length + f * 1100000 ≤ 10000000000000 → hasN ns id = true → orgOk ns bs id = true → RegAt x v1 pl → RegAt x v2 lf → InRoot RW RH pl → InRoot RW RH lf → HandAt w0 mv ns bs es x →
      Calls Tryz.prog 86 #[.int .u32 id, v1, v2, .pointer (some ⟨bp, 0, none⟩), .pointer (some ⟨bt, 0, none⟩), .pointer (some ⟨bh, 0, none⟩), .pointer (some ⟨bv, 0, none⟩)] x fun e x' => e = .returned (.tuple #[]) ∧ HandAt w0 mv ns bs (es ++ handF ns bx (f) id (inB pl) (inB lf)) x' ∧ x.grownBy x' (some mv)
  | 0, id, _, _, _, _, _, _, hl, _, _, _, _, _, _, _, _ => by rw [below_step C.tok] at hl; simp at hl
  | f + 1, id, v1, v2, pl, lf, es, x, hl, hw, hh, ho, h1, h2, hp1, hp2, hat => hand_step C f (hand_any C f) id v1 v2 pl lf es x hl hw hh ho h1 h2 hp1 hp2 hat
theorem start6 (w : World) (t0 t1 t4 t5 t6 : TypeId) (c0 c1 c4 c5 c6 : Array Value) {N : World} (hN : (((((w.alloc (.cells c0 t0)).alloc (.cells c1 t1)).alloc (.cells c4 t4)).alloc (.map #[] 0)).alloc (.cells c5 t5)).alloc (.cells c6 t6) = N) :
    (Blk N w.heap.size t0 c0 ∧ Blk N (w.heap.size + 1) t1 c1 ∧ Blk N (w.heap.size + 1 + 1) t4 c4) ∧ MapIs Tryz.prog 48 .u32 N (w.heap.size + 1 + 1 + 1) 0 (fun _ => none) ∧ (Blk N (w.heap.size + 1 + 1 + 1 + 1) t5 c5 ∧ Blk N (w.heap.size + 1 + 1 + 1 + 1 + 1) t6 c6) ∧ Below w.heap.size w N ∧ N.heap.size = w.heap.size + 6 := by
  obtain ⟨w1, h1⟩ : ∃ w1, w.alloc (.cells c0 t0) = w1 := ⟨_, rfl⟩
  have a0 := Blk.new w t0 c0
  have z0 := World.size_alloc w (.cells c0 t0)
  have q0 := bal (bre w) (.cells c0 t0)
  rw [h1] at hN a0 z0 q0
  obtain ⟨w2, h2⟩ : ∃ w2, w1.alloc (.cells c1 t1) = w2 := ⟨_, rfl⟩
  have a1 := Blk.new w1 t1 c1
  have z1 := World.size_alloc w1 (.cells c1 t1)
  replace a0 := a0.alloc (.cells c1 t1)
  replace q0 := bal q0 (.cells c1 t1)
  rw [z0] at a1
  rw [h2] at hN a0 a1 z1 q0
  obtain ⟨w3, h3⟩ : ∃ w3, w2.alloc (.cells c4 t4) = w3 := ⟨_, rfl⟩
  have a4 := Blk.new w2 t4 c4
  have z2 := World.size_alloc w2 (.cells c4 t4)
  replace a0 := a0.alloc (.cells c4 t4)
  replace a1 := a1.alloc (.cells c4 t4)
  replace q0 := bal q0 (.cells c4 t4)
  rw [z1, z0] at a4
  rw [h3] at hN a0 a1 a4 z2 q0
  obtain ⟨w4, h4⟩ : ∃ w4, w3.alloc (.map #[] 0) = w4 := ⟨_, rfl⟩
  have m := MapIs.made (P := Tryz.prog) (k := 48) (q := .u32) w3
  have z3 := World.size_alloc w3 (.map #[] 0)
  replace a0 := a0.alloc (.map #[] 0)
  replace a1 := a1.alloc (.map #[] 0)
  replace a4 := a4.alloc (.map #[] 0)
  replace q0 := bal q0 (.map #[] 0)
  rw [z2, z1, z0] at m
  rw [h4] at hN a0 a1 a4 m z3 q0
  obtain ⟨w5, h5⟩ : ∃ w5, w4.alloc (.cells c5 t5) = w5 := ⟨_, rfl⟩
  have a5 := Blk.new w4 t5 c5
  have z4 := World.size_alloc w4 (.cells c5 t5)
  replace a0 := a0.alloc (.cells c5 t5)
  replace a1 := a1.alloc (.cells c5 t5)
  replace a4 := a4.alloc (.cells c5 t5)
  replace m := m.alloc (.cells c5 t5)
  replace q0 := bal q0 (.cells c5 t5)
  rw [z3, z2, z1, z0] at a5
  rw [h5] at hN a0 a1 a4 a5 m z4 q0
  have a6 := Blk.new w5 t6 c6
  have z5 := World.size_alloc w5 (.cells c6 t6)
  replace a0 := a0.alloc (.cells c6 t6)
  replace a1 := a1.alloc (.cells c6 t6)
  replace a4 := a4.alloc (.cells c6 t6)
  replace a5 := a5.alloc (.cells c6 t6)
  replace m := m.alloc (.cells c6 t6)
  replace q0 := bal q0 (.cells c6 t6)
  rw [z4, z3, z2, z1, z0] at a6
  rw [hN] at a0 a1 a4 a5 a6 m z5 q0
  exact ⟨⟨a0, a1, a4⟩, m, ⟨a5, a6⟩, q0, by omega⟩
/-- a block in which there is no number. -/
def NoInt (W : World) (g : Nat) : Prop := ∀ o k i, W.cell? ⟨g, o, none⟩ ≠ some (.int k i)
section
variable {W W' : World} {g : Nat}
theorem Blk.noInt {t : TypeId} {A : Option Addr} {n c : Nat} {m : Option Nat} (h : Blk W g t #[.slice A n c, .map m]) : NoInt W g := fun o k i e => by
  rw [h.cell] at e
  match o, e with
  | 0, e => simp at e
  | 1, e => simp at e
  | o + 2, e => simp at e
theorem RdR.keepG {A : Option Addr} {n : Nat} {rs : List RC} (h : RdR W A n rs) (hg : W.grownBy W' (some g)) (hno : NoInt W g) : RdR W' A n rs :=
  ⟨h.1, fun hn => by
    obtain ⟨b, off, e, hb, hc⟩ := h.2 hn
    obtain ⟨r, hr'⟩ : ∃ r, rs[0]? = some r := ⟨_, List.getElem?_eq_getElem (by rw [h.1]; exact hn)⟩
    have hne : b ≠ g := fun e' => by
      subst e'
      exact hno _ _ _ (hc 0 r hr').1
    have hk : ∀ o v, W.cell? ⟨b, o, none⟩ = some v → W'.cell? ⟨b, o, none⟩ = some v := fun o v hv => (World.cell?_of_block (hg.block b hb (fun e => hne (Option.some.inj e)))).trans hv
    exact ⟨b, off, e, Nat.lt_of_lt_of_le hb hg.size, fun i r hi => by
      obtain ⟨c0, c1, c2, c3⟩ := hc i r hi
      exact ⟨hk _ _ c0, hk _ _ c1, hk _ _ c2, hk _ _ c3⟩⟩⟩
theorem RegAt.keepG {v : Value} {l : List RC} (h : RegAt W v l) (hg : W.grownBy W' (some g)) (hno : NoInt W g) : RegAt W' v l := by
  obtain ⟨A, c, e, h1, h2⟩ := h
  exact ⟨A, c, e, h1.keepG hg hno, h2⟩
theorem Rd.keepG {A : Option Addr} {n : Nat} {l : List Int} (h : Rd W A n (U32 l)) (hg : W.grownBy W' (some g)) (hno : NoInt W g) : Rd W' A n (U32 l) :=
  ⟨h.1, fun hn => by
    obtain ⟨b, off, e, hb, hc⟩ := h.2 hn
    have hlen : l.length = n := by have := h.1; simpa [U32] using this
    obtain ⟨i, hi⟩ : ∃ i, l[0]? = some i := ⟨_, List.getElem?_eq_getElem (by omega)⟩
    have hne : b ≠ g := fun e' => by
      subst e'
      exact hno _ _ _ (hc 0 _ (U32_at hi))
    exact ⟨b, off, e, Nat.lt_of_lt_of_le hb hg.size, fun k v hk => (World.cell?_of_block (hg.block b hb (fun e => hne (Option.some.inj e)))).trans (hc k v hk)⟩⟩
end

end Go.Proofs.YtdaedkolpfkdjaaGreat
end
