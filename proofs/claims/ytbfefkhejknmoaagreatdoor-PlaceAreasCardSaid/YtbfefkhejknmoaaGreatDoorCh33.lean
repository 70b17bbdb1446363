/-
  The walk of a tree's Below.
-/
import Derived.Test.YtbfefkhejknmoaaGreatDoorCh31
namespace Go.Proofs.YtbfefkhejknmoaaGreatDoor
open Go.RowKit Go.Maps Go.Shelf

/-- the walk's own value: its captured variables. -/
def walkF (bo bt bw : Nat) : Value := .func (.func 44) #[] #[.pointer (some ⟨bo, 0, none⟩), .pointer (some ⟨bt, 0, none⟩), .pointer (some ⟨bw, 0, none⟩)]
/-- what is collected so far. -/
structure AtB (w0 : World) (bo : Nat) (out : List Int) (x : World) : Prop where
  box : ∃ v, Blk x bo 22 #[v] ∧ x.ownsRow w0.heap.size 27 1 v out.length (U32 out)
  grown : w0.grownBy x (some bo)
theorem kids_ok {ns : Nodes} (hk : okN ns) {id k : Int} (h : k ∈ kidsOf ns id) : 0 ≤ k ∧ k ≤ 4294967295 := (hk _ (kids_mem.1 h)).1
theorem take_flat {l : List Int} {f : Int → List Int} {k : Nat} {x : Int} (h : l[k]? = some x) : (l.take (k + 1)).flatMap f = (l.take k).flatMap f ++ f x := by
  have hk := (List.getElem?_eq_some_iff.1 h)
  obtain ⟨h1, h2⟩ := hk
  rw [List.take_succ_eq_append_getElem h1, List.flatMap_append, h2]
  simp
theorem take_flat_len (l : List Int) (f : Int → List Int) (k : Nat) : ((l.take k).flatMap f).length ≤ (l.flatMap f).length := by
  have h : l.flatMap f = (l.take k).flatMap f ++ (l.drop k).flatMap f := by
    rw [← List.flatMap_append, List.take_append_drop]
  rw [h, List.length_append]
  omega

set_option maxRecDepth 100000 in
set_option maxHeartbeats 4000000 in
theorem below1_any (ns : Nodes) (mk mu : Option Nat) (nk : Nat) (fk : Int → Option Value) (W w0 : World) (bo bt bw : Nat) (hT : TreeIs W (.agg #[.map mk, .map mu]) ns mk mu nk fk) (hok : TreeOk ns) (hB : Below W.heap.size W w0) (hbo : W.heap.size ≤ bo) (hbo' : bo < w0.heap.size)
    (h1 : Blk w0 bt 35 #[.map mk, .map mu]) (h2 : Blk w0 bw 94 #[walkF bo bt bw]) (n1 : bt ≠ bo) (n2 : bw ≠ bo) :
    ∀ id, (0 ≤ id ∧ id ≤ 4294967295) → ∀ (pre : List Int) (x : World), pre.length + (belowAt ns id).length ≤ 2000 → AtB w0 bo pre x →
      Calls Tryz.prog 44 #[.int .u32 id, .pointer (some ⟨bo, 0, none⟩), .pointer (some ⟨bt, 0, none⟩), .pointer (some ⟨bw, 0, none⟩)] x fun e x' => e = .returned (.tuple #[]) ∧ AtB w0 bo (pre ++ belowAt ns id) x' := by
  obtain ⟨i0, hi0, hz0, hz1, hz2⟩ := info_parts Tryz.infoU
  have HT := Lib.hid hT
  have HB := Lib.hid hB
  have HH1 := Lib.hid h1
  have HH2 := Lib.hid h2
  have HOK := Lib.hid hok
  clear hT hB h1 h2
  refine below_ind hok ?_
  intro id ih hid pre x hlen hx
  have IH := Lib.hid ih
  obtain ⟨⟨v, hbx, hown⟩, hgx⟩ := hx
  obtain ⟨A, c, rfl, hc⟩ := own_form hown
  have hst := below_step HOK.out id
  have HST := Lib.hid hst
  have hkn := kids_len HT.out.few id
  rw [hst] at hlen
  simp only [List.length_cons] at hlen
  have HL := Lib.hid hlen
  have hpl : pre.length ≤ 2000 := by omega
  have HWF := Lib.hid (u32_wf hid)
  have HX := Lib.hid hgx
  have HO := Lib.hid hown
  have HBX := Lib.hid hbx
  have hs0 := hgx.size
  have HS0 := Lib.hid hs0
  have hge := own_ge hown
  have HGE := Lib.hid hge
  have q0 := hbx.cellV (i := 0) (v := .slice A pre.length c) rfl
  have f0 := hbx.frozen 0
  have hxl := hbx.lt
  clear ih hown hgx hbx hst hlen hge
  go_enter Tryz.func44, Tryz.ntmps44
  go_upto_region 1 with (at_builtin; refine wpList_append_own _ rfl _ _ 22 rfl w0.heap.size 27 i0 _ 1 4 Tryz.underlying22 hi0 hz0 hz1 hz2 rfl (by decide) _ _ _ rfl (HO.out.alloc _) ⟨x.heap.size, 0, none⟩ 1 1 [.int .u32 id] rfl rfl (cell_one_new _ _ _) (by simp [Value.oneCell']) (by simp only [maxLen]; omega) (by omega) (by simp; omega) ?_; intro v' w4 hown' hgrow _; obtain ⟨A', c', rfl, _⟩ := own_form hown'; have HO4 := Lib.hid hown'; have HG4 := Lib.hid hgrow; have b4 := (HBX.out.alloc (.cells #[.int .u32 id] 27)).grown hgrow (by intro e; have := HGE.out _ e.symm; omega); have f4 := b4.frozen 0; have l4 := b4.lt; have q4 := b4.cellV (i := 0) (v := .slice A pre.length c) rfl; have B4 := Lib.hid b4; clear hown' hgrow b4)
  have hp1 : (pre.length + 1) = (pre ++ [id]).length := by simp
  obtain ⟨X, hX⟩ : ∃ X, w4.setCell ⟨bo, 0, none⟩ (.slice A' (pre.length + 1) c') = X := ⟨_, rfl⟩
  have hgw : w0.grownBy X (some bo) := by
    rw [← hX]
    exact ((HX.out.andThen (World.grownBy_alloc x (.cells #[.int .u32 id] 27) none) (fun j hj => by cases hj)).andThen HG4.out (fun j hj => .inl (HGE.out j hj))).andThen (grown_setCell w4 ⟨bo, 0, none⟩ _) (fun j hj => .inr hj)
  have hbX : Blk X bo 22 #[.slice A' (pre.length + 1) c'] := by
    rw [← hX]
    exact B4.out.set_ 0 _
  have hoX : X.ownsRow w0.heap.size 27 1 (.slice A' (pre.length + 1) c') (pre ++ [id]).length (U32 (pre ++ [id])) := by
    rw [← hX]
    have := own_far HO4.out (p := ⟨bo, 0, none⟩) hbo' (.slice A' (pre.length + 1) c')
    simpa [U32] using this
  have HAT := Lib.hid (show AtB w0 bo (pre ++ [id]) X from ⟨⟨_, hbX, hoX⟩, hgw⟩)
  have HTX := Lib.hid (HT.out.below (HB.out.grown hgw HB.out.size (fun q e => by cases e; exact hbo)))
  have HG := Lib.hid hgw
  rw [hX]
  clear hgw hbX hoX hX
  obtain ⟨Ak, cK, hKe, hKc, hKr⟩ := HT.out.each id
  have HKE := Lib.hid hKe
  have HKR := Lib.hid hKr
  have b1 := HH1.out.grown HG.out (fun e => n1 (Option.some.inj e))
  have c1 := b1.cellV (i := 0) (v := .map mk) rfl
  clear hKe hKr b1
  go_wp2_with (at_lookup; refine opt_look rfl _ _ 32 rfl 27 22 .u32 Tryz.underlying27 Tryz.underlying32 (.slice none 0 0) (Tryz.zeroIDs _) mk nk fk rfl HTX.out.kids id rfl HWF.out ?_; rw [HKE.out]; go_frame)
  obtain ⟨n, hn⟩ : ∃ n, (kidsOf ns id).length = n := ⟨_, rfl⟩
  rw [hn] at HKR hKc hkn ⊢
  have HN := Lib.hid hn
  clear hn
  go_loopw [16, 6] (fun i _ wr => ∃ k : Nat, i = .int .i64 k ∧ k ≤ n ∧ AtB w0 bo (pre ++ id :: ((kidsOf ns id).take k).flatMap (belowAt ns)) wr) (fun i _ _ => n - (intOf i).toNat)
  case atStart => exact ⟨0, rfl, by omega, by simpa using HAT.out⟩
  case round =>
    obtain ⟨k, rfl, hk, hat⟩ := hrel
    have HA := Lib.hid hat
    have hsz := hat.grown.size
    by_cases hlt : k < n
    · obtain ⟨kid, hkid⟩ : ∃ kid, (kidsOf ns id)[k]? = some kid := ⟨_, List.getElem?_eq_getElem (by rw [HN.out]; exact hlt)⟩
      have HBW := Lib.hid (HB.out.grown hat.grown HB.out.size (fun q e => by cases e; exact hbo))
      obtain ⟨b, off, rfl, hbl, hcl⟩ := (HKR.out.below HBW.out).2 (by omega)
      have hcell := hcl k _ (U32_at hkid)
      have b2 := HH2.out.grown hat.grown (fun e => n2 (Option.some.inj e))
      have c2 : wr.cell? ⟨bw, 0, none⟩ = some (.func (.func 44) #[] #[.pointer (some ⟨bo, 0, none⟩), .pointer (some ⟨bt, 0, none⟩), .pointer (some ⟨bw, 0, none⟩)]) := b2.cellV (i := 0) rfl
      have k1 : (k : Int) < (n : Int) := by omega
      have k0 : (0 : Int) ≤ (k : Int) := by omega
      have HM := Lib.hid (List.mem_of_getElem? hkid)
      have htf := take_flat (f := belowAt ns) hkid
      have hfl := take_flat_len (kidsOf ns id) (belowAt ns) (k + 1)
      rw [htf, List.length_append] at hfl
      have HTF := Lib.hid htf
      have HFL := Lib.hid hfl
      clear hkid hcl b2 htf hfl hat
      go_wp2_with fail
      with_reducible refine (IH.out kid HM.out (kids_ok HT.out.ok HM.out) (pre ++ id :: ((kidsOf ns id).take k).flatMap (belowAt ns)) wr (by have h1 := HL.out; have h2 := HFL.out; simp only [List.length_append, List.length_cons]; omega) HA.out).mono ?_
      rintro e w5 ⟨rfl, hat5⟩
      have HA5 := Lib.hid hat5
      clear hat5
      go_wp2_with fail
      go_roundw
      case rel =>
        refine ⟨k + 1, by go_num, by omega, ?_⟩
        have := HA5.out
        rw [List.append_assoc, List.cons_append, ← HTF.out] at this
        exact this
      case measure => simp [intOf]; omega
    · obtain rfl : k = n := by omega
      go_wp2_with fail
      go_end0
      refine ⟨rfl, ?_⟩
      have := HA.out
      rw [List.take_of_length_le (by rw [HN.out]; exact Nat.le_refl _)] at this
      rw [HST.out]
      exact this

theorem ownsRow_mono {w : World} {b b' e size n : Nat} {v : Value} {xs : List Value} (h : w.ownsRow b e size v n xs) (hb : b' ≤ b) : w.ownsRow b' e size v n xs := own_lower h hb

set_option maxRecDepth 100000 in
set_option maxHeartbeats 4000000 in
theorem below_any (v : Value) (ns : Nodes) (mk mu : Option Nat) (nk : Nat) (fk : Int → Option Value) (id : Int) (w : World) (hid : 0 ≤ id ∧ id ≤ 4294967295) (h : TreeIs w v ns mk mu nk fk) (hok : TreeOk ns) :
    Calls Tryz.prog 16 #[v, .int .u32 id] w fun e w' => ∃ u, e = .returned u ∧ w'.ownsRow w.heap.size 27 1 u (belowN ns id).length (U32 (belowN ns id)) ∧ Below w.heap.size w w' := by
  have hv := h.shape
  subst hv
  have HT := Lib.hid h
  have HB0 := Lib.hid (bal (bre w) (.cells #[.map mk, .map mu] 35))
  have H0 := Lib.hid (Blk.new w 35 #[.map mk, .map mu])
  have hfew := h.few
  have HOK := Lib.hid hok
  clear h
  cases hi : hasN ns id
  · have HI := Lib.hid hi
    have hbl : belowN ns id = [] := by unfold belowN; rw [hi]; rfl
    rw [hbl]
    clear hi
    go_enter Tryz.func16, Tryz.ntmps16
    go_wp2_with fail
    with_reducible refine (has_any _ ns mk mu nk fk _ _ hid (HT.out.below HB0.out)).mono ?_
    rintro e w1 ⟨rfl, hb1⟩
    rw [HI.out]
    have HB1 := Lib.hid hb1
    clear hb1
    go_wp2_with fail
    go_ret
    exact ⟨_, rfl, World.ownsRow_nil _ _ _ _, bstep HB0.out HB1.out⟩
  · have HI := Lib.hid hi
    have hbl : belowN ns id = belowAt ns id := by unfold belowN; rw [hi]; rfl
    have hlen := below_len HOK.out hi
    rw [hbl]
    clear hi
    go_enter Tryz.func16, Tryz.ntmps16
    go_wp2_with fail
    with_reducible refine (has_any _ ns mk mu nk fk _ _ hid (HT.out.below HB0.out)).mono ?_
    rintro e w1 ⟨rfl, hb1⟩
    rw [HI.out]
    have HB1 := Lib.hid (bstep HB0.out hb1)
    have H1 := Lib.hid (H0.out.belowS hb1)
    have hsz : w.heap.size < w1.heap.size := H1.out.lt
    clear hb1
    go_wp2_with fail
    have HH1 := Lib.hid ((H1.out.alloc (.cells #[.slice none 0 0] 22)).alloc (.cells #[.func (.func 44) #[] #[.pointer (some ⟨w1.heap.size, 0, none⟩), .pointer (some ⟨w.heap.size, 0, none⟩), .pointer (some ⟨w1.heap.size + 1, 0, none⟩)]] 94))
    have HH2 := Lib.hid (blk_new2 w1 (.cells #[.slice none 0 0] 22) 94 #[walkF w1.heap.size w.heap.size (w1.heap.size + 1)])
    have HH0 := Lib.hid ((Blk.new w1 22 #[.slice none 0 0]).alloc (.cells #[walkF w1.heap.size w.heap.size (w1.heap.size + 1)] 94))
    have HBW := Lib.hid (bal (bal HB1.out (.cells #[.slice none 0 0] 22)) (.cells #[walkF w1.heap.size w.heap.size (w1.heap.size + 1)] 94))
    have hat := below1_any ns mk mu nk fk w ((w1.alloc (.cells #[.slice none 0 0] 22)).alloc (.cells #[walkF w1.heap.size w.heap.size (w1.heap.size + 1)] 94)) w1.heap.size w.heap.size (w1.heap.size + 1) HT.out HOK.out HBW.out (by omega) (by simp; omega) HH1.out HH2.out (by omega) (by omega) id hid [] _ (by simp; omega) ⟨⟨_, HH0.out, World.ownsRow_nil _ _ _ _⟩, ⟨rfl, rfl, rfl, Nat.le_refl _, fun _ _ _ => rfl⟩⟩
    unfold walkF at hat
    refine hat.mono ?_
    rintro e w5 ⟨rfl, ⟨⟨u, hbu, hou⟩, hgu⟩⟩
    rw [List.nil_append] at hou
    obtain ⟨A, c, rfl, hc⟩ := own_form hou
    have q5 := hbu.cellV (i := 0) (v := .slice A (belowAt ns id).length c) rfl
    have HOU := Lib.hid hou
    have HGU := Lib.hid hgu
    have HB5 := Lib.hid (HBW.out.grown hgu HBW.out.size (fun q e => by cases e; omega))
    clear hat hou hgu hbu
    go_wp2_with fail
    go_ret
    exact ⟨_, rfl, own_lower HOU.out (by simp; omega), HB5.out⟩

end Go.Proofs.YtbfefkhejknmoaaGreatDoor
