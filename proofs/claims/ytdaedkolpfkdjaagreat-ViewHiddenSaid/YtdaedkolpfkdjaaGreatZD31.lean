/-
  The walk of a tree's Remove: its closure, and what it asks first.
-/
import Derived.Test.YtdaedkolpfkdjaaGreatZD25
import Derived.Test.YtdaedkolpfkdjaaGreatZD07
section
namespace Go.Proofs.YtdaedkolpfkdjaaGreat
open Go.RowKit Go.Maps Go.Shelf

/-- the removal's own value: its captured variables. -/
def rwalkF (bt bw bo : Nat) : Value := .func (.func 83) #[] #[.pointer (some ⟨bt, 0, none⟩), .pointer (some ⟨bw, 0, none⟩), .pointer (some ⟨bo, 0, none⟩)]
set_option maxRecDepth 100000 in
set_option maxHeartbeats 4000000 in
theorem remove1_any (ns : Nodes) (mk mu : Option Nat) (nk : Nat) (fk : Int → Option Value) (W w0 : World) (bo bt bw : Nat) (hT : TreeIs W (.agg #[.map mk, .map mu]) ns mk mu nk fk) (hok : TreeOk ns) (hB : Below W.heap.size W w0) (hbo : W.heap.size ≤ bo) (hbo' : bo < w0.heap.size)
    (h1 : Blk w0 bt 37 #[.map mk, .map mu]) (h2 : Blk w0 bw 176 #[rwalkF bt bw bo]) (n1 : bt ≠ bo) (n2 : bw ≠ bo) :
    ∀ id, (0 ≤ id ∧ id ≤ 4294967295) → ∀ (pre : List Int) (x : World), pre.length + (belowAt ns id).length ≤ 2000 → AtB w0 bo pre x →
      Calls Tryz.prog 83 #[.int .u32 id, .pointer (some ⟨bt, 0, none⟩), .pointer (some ⟨bw, 0, none⟩), .pointer (some ⟨bo, 0, none⟩)] x fun e x' => e = .returned (.tuple #[]) ∧ ∃ l, l.Perm (belowAt ns id) ∧ AtB w0 bo (pre ++ l) x' := by
  obtain ⟨i0, hi0, hz0, hz1, hz2⟩ := info_parts Tryz.infoU
  have HT := Lib.hid hT
  have HB := Lib.hid hB
  have HH1 := Lib.hid h1
  have HH2 := Lib.hid h2
  have HOK := Lib.hid hok
  clear hT hB h1 h2
  refine below_ind hok ?_
  intro id ih hid pre x hlen hx
  have IH := Lib.hid ih
  have hst := below_step HOK.out id
  have HST := Lib.hid hst
  have hkn := kids_len HT.out.few id
  rw [hst] at hlen
  simp only [List.length_cons] at hlen
  have HL := Lib.hid hlen
  have hpl : pre.length ≤ 2000 := by omega
  have HWF := Lib.hid (u32_wf hid)
  have HX := Lib.hid hx
  clear ih hst hlen
  have HTX := Lib.hid (HT.out.below (HB.out.grown hx.grown HB.out.size (fun q e => by cases e; exact hbo)))
  obtain ⟨Ak, cK, hKe, hKc, hKr⟩ := HT.out.each id
  have HKE := Lib.hid hKe
  have HKR := Lib.hid hKr
  have b1 := HH1.out.grown hx.grown (fun e => n1 (Option.some.inj e))
  have c1 := b1.cellV (i := 0) (v := .map mk) rfl
  clear hKe hKr b1 hx
  go_enter Tryz.func83, Tryz.ntmps83
  go_wp2_with (at_lookup; refine opt_look rfl _ _ 34 rfl 48 43 .u32 Tryz.underlying48 Tryz.underlying34 (.slice none 0 0) (Tryz.zeroIDs _) mk nk fk rfl HTX.out.kids id rfl HWF.out ?_; rw [HKE.out]; go_frame)
  obtain ⟨n, hn⟩ : ∃ n, (kidsOf ns id).length = n := ⟨_, rfl⟩
  rw [hn] at HKR hKc hkn ⊢
  have HN := Lib.hid hn
  clear hn
  go_loopw [12, 6] (fun i _ wr => ∃ (k : Nat) (l : List Int), i = .int .i64 k ∧ k ≤ n ∧ l.Perm (((kidsOf ns id).take k).flatMap (belowAt ns)) ∧ AtB w0 bo (pre ++ l) wr) (fun i _ _ => n - (intOf i).toNat)
  case atStart => exact ⟨0, [], rfl, by omega, .nil, by simpa using HX.out⟩
  case round =>
    obtain ⟨k, l, rfl, hk, hp, hat⟩ := hrel
    have HP := Lib.hid hp
    have HA := Lib.hid hat
    have hsz := hat.grown.size
    have hll := hp.length_eq
    clear hp
    by_cases hlt : k < n
    · obtain ⟨kid, hkid⟩ : ∃ kid, (kidsOf ns id)[k]? = some kid := ⟨_, List.getElem?_eq_getElem (by rw [HN.out]; exact hlt)⟩
      have HBW := Lib.hid (HB.out.grown hat.grown HB.out.size (fun q e => by cases e; exact hbo))
      obtain ⟨b, off, rfl, hbl, hcl⟩ := (HKR.out.below HBW.out).2 (by omega)
      have hcell := hcl k _ (U32_at hkid)
      have b2 := HH2.out.grown hat.grown (fun e => n2 (Option.some.inj e))
      have c2 : wr.cell? ⟨bw, 0, none⟩ = some (.func (.func 83) #[] #[.pointer (some ⟨bt, 0, none⟩), .pointer (some ⟨bw, 0, none⟩), .pointer (some ⟨bo, 0, none⟩)]) := b2.cellV (i := 0) rfl
      have k1 : (k : Int) < (n : Int) := by omega
      have k0 : (0 : Int) ≤ (k : Int) := by omega
      have HM := Lib.hid (List.mem_of_getElem? hkid)
      have htf := take_flat (f := belowAt ns) hkid
      have hfl := take_flat_len (kidsOf ns id) (belowAt ns) (k + 1)
      rw [htf, List.length_append] at hfl
      have HTF := Lib.hid htf
      have HFL := Lib.hid hfl
      have HLL := Lib.hid hll
      clear hkid hcl b2 htf hfl hat hll
      go_wp2_with fail
      with_reducible refine (IH.out kid HM.out (kids_ok HT.out.ok HM.out) (pre ++ l) wr (by have h1 := HL.out; have h2 := HFL.out; have h3 := HLL.out; simp only [List.length_append]; omega) HA.out).mono ?_
      rintro e w5 ⟨rfl, l5, hp5, hat5⟩
      have HA5 := Lib.hid hat5
      have HP5 := Lib.hid hp5
      clear hat5 hp5
      go_wp2_with fail
      go_roundw
      case rel =>
        refine ⟨k + 1, l ++ l5, by go_num, by omega, ?_, by rw [← List.append_assoc]; exact HA5.out⟩
        rw [HTF.out]
        exact HP.out.append HP5.out
      case measure => simp [intOf]; omega
    · obtain rfl : k = n := by omega
      obtain ⟨⟨v, hbx, hown⟩, hgx⟩ := hat
      obtain ⟨A, c, rfl, hc⟩ := own_form hown
      have hpm : l.Perm ((kidsOf ns id).flatMap (belowAt ns)) := by
        have := HP.out
        rwa [List.take_of_length_le (by rw [HN.out]; exact Nat.le_refl _)] at this
      have hln : (pre ++ l).length ≤ 2000 := by
        have h1 := HL.out
        have h2 := hpm.length_eq
        simp only [List.length_append]
        omega
      have HPM := Lib.hid hpm
      have HO := Lib.hid hown
      have HBX := Lib.hid hbx
      have HGX := Lib.hid hgx
      have hge := own_ge hown
      have HGE := Lib.hid hge
      have q0 := hbx.cellV (i := 0) (v := .slice A (pre ++ l).length c) rfl
      have f0 := hbx.frozen 0
      have hxl := hbx.lt
      obtain ⟨m, hm⟩ : ∃ m, (pre ++ l).length = m := ⟨_, rfl⟩
      rw [hm] at q0 hln HO HBX HGE
      have HM := Lib.hid hm
      clear hpm hown hbx hgx hge hm hll
      go_wp2_with (at_builtin; refine wpList_append_own _ rfl _ _ 43 rfl w0.heap.size 48 i0 _ 1 4 Tryz.underlying43 hi0 hz0 hz1 hz2 rfl (by decide) _ _ _ rfl (HO.out.alloc _) ⟨wr.heap.size, 0, none⟩ 1 1 [.int .u32 id] rfl rfl (cell_one_new _ _ _) (by simp [Value.oneCell']) (by simp only [maxLen]; omega) (by omega) (by have := HGX.out.size; simp; omega) ?_; intro v' w4 hown' hgrow _; obtain ⟨A', c', rfl, _⟩ := own_form hown'; have HO4 := Lib.hid hown'; have HG4 := Lib.hid hgrow; have b4 := (HBX.out.alloc (.cells #[.int .u32 id] 48)).grown hgrow (by intro e; have := HGE.out _ e.symm; omega); have f4 := b4.frozen 0; have l4 := b4.lt; have q4 := b4.cellV (i := 0) (v := .slice A m c) rfl; have B4 := Lib.hid b4; clear hown' hgrow b4)
      go_end0
      have e : (pre ++ (l ++ [id])).length = m + 1 := by have := HM.out; simp at this ⊢; omega
      refine ⟨rfl, l ++ [id], ?_, ⟨⟨_, B4.out.set_ 0 _, ?_⟩, ?_⟩⟩
      · rw [HST.out]
        exact List.perm_append_comm.trans (HPM.out.cons id)
      · rw [e]
        have := own_far HO4.out (p := ⟨bo, 0, none⟩) hbo' (.slice A' (m + 1) c')
        simpa [U32] using this
      · exact ((HGX.out.andThen (World.grownBy_alloc wr (.cells #[.int .u32 id] 48) none) (fun j hj => by cases hj)).andThen HG4.out (fun j hj => .inl (HGE.out j hj))).andThen (grown_setCell w4 ⟨bo, 0, none⟩ _) (fun j hj => .inr hj)
set_option maxRecDepth 100000 in
theorem other_ok (v : Value) (ns : Nodes) (mk mu : Option Nat) (nk : Nat) (fk : Int → Option Value) (id : Int) (w : World) (hid : 0 ≤ id ∧ id ≤ 4294967295) (h : TreeIs w v ns mk mu nk fk) (h1 : id ≠ 1) (hh : hasN ns id = true) :
    Calls Tryz.prog 82 #[v, .int .u32 id] w fun e w' => e = .returned (.int .i64 0) ∧ Below w.heap.size w w' := by
  have hv := h.shape
  subst hv
  have HB := Lib.hid (bal (bre w) (.cells #[.map mk, .map mu] 37))
  have HT := Lib.hid (h.below HB.out)
  have HH := Lib.hid hh
  have hne : (id == 1) = false := by simpa using h1
  clear h hh h1
  go_enter Tryz.func82, Tryz.ntmps82
  go_wp2_with fail
  refine (has_any _ ns mk mu nk fk id _ hid HT.out).mono ?_
  rintro e w1 ⟨rfl, hb1⟩
  rw [HH.out]
  have HB1 := Lib.hid (bstep HB.out hb1)
  clear hb1
  go_wp2_with fail
  go_ret
  exact ⟨rfl, HB1.out⟩
/-- is it the one that is taken out? -/
theorem take1_any (x id : Int) (bi : Nat) (w : World) (hc : w.cell? ⟨bi, 0, none⟩ = some (.int .u32 id)) :
    Calls Tryz.prog 145 #[.int .u32 x, .pointer (some ⟨bi, 0, none⟩)] w fun e w' => e = .returned (.bool (x == id)) ∧ w' = w := by
  go_enter Tryz.func145, Tryz.ntmps145
  go_wp2_with fail
  go_ret
  exact ⟨rfl, rfl⟩
set_option maxRecDepth 100000 in
/-- where it stands. -/
theorem indexID_any (A : Option Addr) (n c : Nat) (l : List Int) (id : Int) (k : Nat) (bi : Nat) (w : World) (hn : n ≤ 2000) (hr : Rd w A n (U32 l)) (hk : l[k]? = some id) (hf : ∀ j, j < k → l[j]? ≠ some id) (hc : w.cell? ⟨bi, 0, none⟩ = some (.int .u32 id)) (hbi : bi < w.heap.size) :
    Calls Tryz.prog 180 #[.slice A n c, .func (.func 145) #[] #[.pointer (some ⟨bi, 0, none⟩)]] w fun e w' => e = .returned (.int .i64 (k : Nat)) ∧ Below w.heap.size w w' := by
  have HR := Lib.hid hr
  have HK := Lib.hid hk
  have HF := Lib.hid hf
  have HC := Lib.hid hc
  have hln : l.length = n := by have := hr.1; simpa [U32] using this
  have hkl : k < n := by rw [← hln]; exact (List.getElem?_eq_some_iff.1 hk).1
  have HLN := Lib.hid hln
  clear hr hk hf hc hln
  go_enter Tryz.func180, Tryz.ntmps180
  go_wp2_with fail
  go_loopw [8] (fun i wr => ∃ m : Nat, i = .int .i64 m ∧ m ≤ k ∧ Below w.heap.size w wr) (fun i _ => n - (intOf i).toNat)
  case atStart => exact ⟨0, rfl, by omega, bre w⟩
  case round =>
    obtain ⟨m, rfl, hm, hB⟩ := hrel
    have HB := Lib.hid hB
    obtain ⟨x, hx⟩ : ∃ x, l[m]? = some x := ⟨_, List.getElem?_eq_getElem (by have := HLN.out; omega)⟩
    obtain ⟨b, off, rfl, hbl, hcl⟩ := (HR.out.below hB).2 (by omega)
    have x0 := hcl m _ (U32_at hx)
    have hcw : wr.cell? ⟨bi, 0, none⟩ = some (.int .u32 id) := ((bcell hB).1 _ _ hbi).trans HC.out
    have HCW := Lib.hid hcw
    have k0 : (0 : Int) ≤ (m : Int) := by omega
    have k1 : (m : Int) < (n : Int) := by omega
    have HX := Lib.hid hx
    clear hB hcl hx hcw hbl
    by_cases hmk : m = k
    · subst hmk
      have hxi : x = id := by have := HX.out.symm.trans HK.out; injection this
      subst hxi
      go_wp2_with fail
      refine (take1_any x x bi _ HCW.out).mono ?_
      rintro e w' ⟨rfl, rfl⟩
      rw [show (x == x) = true by simp]
      go_wp2_with fail
      go_ret
      exact ⟨rfl, HB.out⟩
    · have hxi : (x == id) = false := by
        simp
        intro e
        exact HF.out m (by omega) (by rw [HX.out, e])
      have HXI := Lib.hid hxi
      clear hxi
      go_wp2_with fail
      refine (take1_any x id bi _ HCW.out).mono ?_
      rintro e w' ⟨rfl, rfl⟩
      rw [HXI.out]
      go_wp2_with fail
      go_roundw
      case rel => exact ⟨m + 1, by go_num, by omega, HB.out⟩
      case measure => simp [intOf]; omega
/-- a list on the way: the first i places have been moved up. -/
def midL (l : List Int) (k i : Nat) : List Int := (l.eraseIdx k).take i ++ l.drop i
theorem midL_start {l : List Int} {k : Nat} (hk : k < l.length) : midL l k k = l := by
  unfold midL
  rw [List.eraseIdx_eq_take_drop_succ, List.take_append_of_le_length (by rw [List.length_take]; omega), List.take_take, Nat.min_self, List.take_append_drop]
theorem midL_len {l : List Int} {k i : Nat} (hk : k < l.length) (hi : i + 1 ≤ l.length) : (midL l k i).length = l.length := by
  unfold midL
  rw [List.length_append, List.length_take, List.length_drop, List.length_eraseIdx_of_lt hk]
  omega
theorem midL_at {l : List Int} {k i j : Nat} (hk : k < l.length) (hi : i + 1 ≤ l.length) (hj : i ≤ j) : (midL l k i)[j]? = l[j]? := by
  unfold midL
  have e : ((l.eraseIdx k).take i).length = i := by rw [List.length_take, List.length_eraseIdx_of_lt hk]; omega
  rw [List.getElem?_append_right (by omega), e, List.getElem?_drop]
  congr 1
  omega
theorem midL_next {l : List Int} {k i : Nat} {x : Int} (hk : k < l.length) (hki : k ≤ i) (hx : l[i + 1]? = some x) : (midL l k i).set i x = midL l k (i + 1) := by
  have hi : i + 1 < l.length := (List.getElem?_eq_some_iff.1 hx).1
  have e : ((l.eraseIdx k).take i).length = i := by rw [List.length_take, List.length_eraseIdx_of_lt hk]; omega
  have e1 : (l.eraseIdx k)[i]? = some x := by rw [List.getElem?_eraseIdx_of_ge hki]; exact hx
  unfold midL
  rw [List.set_append_right _ _ (by omega), e, Nat.sub_self, List.drop_eq_getElem_cons (show i < l.length by omega), List.set_cons_zero, List.take_add_one, e1]
  simp
theorem midL_end {l : List Int} {k i : Nat} (hk : k < l.length) (hi : i + 1 = l.length) : (midL l k i).take i = l.eraseIdx k := by
  unfold midL
  have e : ((l.eraseIdx k).take i).length = i := by rw [List.length_take, List.length_eraseIdx_of_lt hk]; omega
  rw [List.take_append_of_le_length (by omega), List.take_take, Nat.min_self, List.take_of_length_le (by rw [List.length_eraseIdx_of_lt hk]; omega)]
def zs1 (n : Nat) : List Value := (Builtin.zeroCells #[.int .u32 0] n).toList
theorem zs1_len (n : Nat) : (zs1 n).length = n := by simp [zs1, Builtin.zeroCells]
theorem zs1_one (n : Nat) : ∀ v ∈ zs1 n, v.oneCell' = true := by
  intro v hv
  simp only [zs1, Builtin.zeroCells, Array.toList_map, List.mem_map] at hv
  obtain ⟨i, _, rfl⟩ := hv
  simp [Nat.mod_one, Value.oneCell']
theorem run_clear1 (w : World) (ty : TypeId) (g o n c : Nat) (hn : 0 < n) (hc : ∀ j, j < n → (w.cell? ⟨g, o + j, none⟩).isSome = true) (hf : ∀ j, j < n → w.frozen? ⟨g, o + j, none⟩ = false) :
    (Builtin.clear_ #[43] ty #[.slice (some ⟨g, o, none⟩) n c]).run Tryz.prog w = .ok (.tuple #[]) (w.setCells g o (zs1 n)) := by
  have hst := run_storeCells_cells (P := Tryz.prog) g o (zs1 n) 0 w (by rw [zs1_len]; simpa using hc) (by rw [zs1_len]; simpa using hf) (zs1_one n)
  simp only [Nat.add_zero] at hst
  obtain ⟨m, rfl⟩ : ∃ m, n = m + 1 := ⟨n - 1, by omega⟩
  unfold zs1 at hst ⊢
  simp [Builtin.clear_, run_underlying Tryz.underlying43, Value.cells, hst]
set_option maxRecDepth 100000 in
set_option maxHeartbeats 4000000 in
/-- the row without the one that stands at k. -/
theorem delID_any (B g n c k : Nat) (l rest : List Int) (tl : List Value) (id : Int) (bi : Nat) (w : World) (hl : l.length = n) (hn : n ≤ 2000) (hb : Blk w g 48 (U32 l ++ tl).toArray) (hnc : n ≤ c) (hk : l[k]? = some id) (hf : ∀ j, j ≠ k → l[j]? ≠ some id) (hc : w.cell? ⟨bi, 0, none⟩ = some (.int .u32 id)) (hne : bi ≠ g) :
    Calls Tryz.prog 144 #[.slice (some ⟨g, 0, none⟩) n c, .func (.func 145) #[] #[.pointer (some ⟨bi, 0, none⟩)]] w fun e w' => e = .returned (.slice (some ⟨g, 0, none⟩) (n - 1) c) ∧ (∃ tl', tl'.length = tl.length + 1 ∧ Blk w' g 48 (U32 (l.eraseIdx k) ++ tl').toArray) ∧ w.grownBy w' (some g) := by
  have hkl : k < n := by rw [← hl]; exact (List.getElem?_eq_some_iff.1 hk).1
  have hbl := block_lt_of_cell hc
  have hrd : Rd w (some ⟨g, 0, none⟩) n (U32 l) := ⟨by simp [U32, hl], fun _ => ⟨g, 0, rfl, hb.lt, fun j u hu => by
    rw [Nat.zero_add, hb.cell]
    have hlt := (List.getElem?_eq_some_iff.1 hu).1
    simp only [List.getElem?_toArray]
    rw [List.getElem?_append_left hlt]
    exact hu⟩⟩
  have HRD := Lib.hid hrd
  have HBK := Lib.hid hb
  have HK := Lib.hid hk
  have HF := Lib.hid hf
  have HC := Lib.hid hc
  have HL := Lib.hid hl
  have ne1 : ((k : Int) == -1) = false := by rw [beq_eq_false_iff_ne]; omega
  have hw1 : IntKind.i64.wrap ((k : Int) + 1) = (k : Int) + 1 := IntWalk.i64_in _ (by omega)
  clear hrd hb hk hf hc hl
  go_enter Tryz.func144, Tryz.ntmps144
  go_wp2_with (go_at_call 180; refine (indexID_any _ n c l id k bi w hn HRD.out HK.out (fun j hj => HF.out j (by omega)) HC.out hbl).mono ?_; rintro e w1 ⟨rfl, b1⟩; have B1 := Lib.hid b1; clear b1)
  go_loopw [5, 6] (fun s5 s6 wr => ∃ i j : Nat, s5 = .int .i64 i ∧ s6 = .int .i64 j ∧ i + 1 = j ∧ k ≤ i ∧ j ≤ n ∧ Blk wr g 48 (U32 (midL l k i) ++ tl).toArray ∧ w.grownBy wr (some g)) (fun _ s6 _ => n - (intOf s6).toNat)
  case atStart => exact ⟨k, k + 1, rfl, by go_num, rfl, Nat.le_refl _, by omega, by rw [midL_start (by rw [HL.out]; exact hkl)]; exact HBK.out.belowS B1.out, grown_of_below B1.out _⟩
  case round =>
    obtain ⟨i, j, rfl, rfl, hij, hki, hin, hb, hg⟩ := hrel
    have HB := Lib.hid hb
    have HG := Lib.hid hg
    have gl := hb.lt
    have hcy : Hid (wr.cell? ⟨bi, 0, none⟩ = some (.int .u32 id)) := Lib.hid (by
      have h := hg.block bi hbl (by simp; omega)
      exact (World.cell?_of_block (a := ⟨bi, 0, none⟩) h).trans HC.out)
    have hkL : k < l.length := by rw [HL.out]; exact hkl
    have hcell : ∀ q v, i ≤ q → l[q]? = some v → wr.cell? ⟨g, q, none⟩ = some (.int .u32 v) := fun q v hq hv => by
      rw [hb.cell]
      have hm : (midL l k i)[q]? = some v := (midL_at hkL (by rw [HL.out]; omega) hq).trans hv
      simp only [List.getElem?_toArray]
      rw [List.getElem?_append_left (by have := (List.getElem?_eq_some_iff.1 hm).1; simpa [U32] using this)]
      simp [U32, hm]
    clear hg
    by_cases hlt : j < n
    · obtain ⟨x, hx⟩ : ∃ x, l[j]? = some x := ⟨_, List.getElem?_eq_getElem (by have := HL.out; omega)⟩
      obtain ⟨y, hy⟩ : ∃ y, l[i]? = some y := ⟨_, List.getElem?_eq_getElem (by have := HL.out; omega)⟩
      have x1 := hcell j x (by omega) hx
      have x0 := hcell i y (Nat.le_refl _) hy
      have f0 := hb.frozen i
      have hxi : (x == id) = false := by
        simp
        intro e
        exact HF.out j (by omega) (by rw [hx, e])
      have HXI := Lib.hid hxi
      have HX := Lib.hid hx
      have k0 : (0 : Int) ≤ (j : Int) := by omega
      have k1 : (j : Int) < (n : Int) := by omega
      have k2 : (0 : Int) ≤ (i : Int) := by omega
      have k3 : (i : Int) < (n : Int) := by omega
      have k4 : IntKind.i64.wrap ((i : Int) + 1) = (i : Int) + 1 := IntWalk.i64_in _ (by omega)
      have k5 : IntKind.i64.wrap ((j : Int) + 1) = (j : Int) + 1 := IntWalk.i64_in _ (by omega)
      clear hb hcell hx hy hxi
      go_wp2_with fail
      refine (take1_any x id bi _ hcy.out).mono ?_
      rintro e w' ⟨rfl, rfl⟩
      rw [HXI.out]
      go_wp2_with fail
      go_roundw
      case rel =>
        refine ⟨i + 1, j + 1, by go_num, by go_num, by omega, by omega, by omega, ?_, grown_row HG.out (grown_setCell _ ⟨g, i, none⟩ _)⟩
        have h := HB.out.set_ i (.int .u32 x)
        have e : (U32 (midL l k i) ++ tl).toArray.setIfInBounds i (.int .u32 x) = (U32 (midL l k (i + 1)) ++ tl).toArray := by
          rw [List.setIfInBounds_toArray, List.set_append_left _ _ (by have := midL_len hkL (i := i) (by rw [HL.out]; omega); simp [U32, this, HL.out]; omega), ← midL_next hkL hki (by rw [hij]; exact HX.out)]
          unfold U32
          rw [List.map_set]
        rw [e] at h
        exact h
      case measure => simp [intOf]; omega
    · obtain rfl : j = n := by omega
      have hml := midL_len hkL (i := i) (by rw [HL.out]; omega)
      have hlen : (U32 (midL l k i) ++ tl).length = j + tl.length := by simp [U32, hml, HL.out]
      have hcl : ∀ ty, (Builtin.clear_ #[43] ty #[.slice (some ⟨g, i, none⟩) (j - i) (c - i)]).run Tryz.prog wr = .ok (.tuple #[]) (wr.setCells g i (zs1 (j - i))) := fun ty =>
        run_clear1 wr ty g i (j - i) (c - i) (by omega) (fun q hq => by
          rw [hb.cell]
          simp only [List.getElem?_toArray]
          rw [List.getElem?_eq_getElem (by rw [hlen]; omega)]
          rfl) (fun q _ => hb.frozen _)
      have HLE := Lib.hid hlen
      have HME := Lib.hid (midL_end hkL (i := i) (by rw [HL.out]; omega))
      have HHL := Lib.hid hml
      have k2 : (0 : Int) ≤ (i : Int) := by omega
      have k3 : (i : Int) ≤ (j : Int) := by omega
      have k4 : i ≤ j := by omega
      have k5 : i ≤ c := by omega
      have k6 : i < c := by omega
      have hj1 : j - 1 = i := by omega
      have HJ1 := Lib.hid hj1
      have HIJ := Lib.hid hij
      clear hb hcell hlen hml hij hj1
      go_wp2_with (simp only [hcl])
      go_ret
      obtain ⟨cs', h1, h2, h3⟩ := blk_setCells (zs1 (j - i)) i wr _ HB.out
      have hlm : i ≤ (U32 (midL l k i)).length := by have := HHL.out; have := HL.out; have := HIJ.out; simp [U32]; omega
      have e : U32 (l.eraseIdx k) = cs'.take i := by
        rw [h3, List.take_append_of_le_length hlm, ← HME.out]
        unfold U32
        rw [List.map_take]
      refine ⟨by rw [HJ1.out]; rfl, ⟨cs'.drop i, ?_, ?_⟩, grown_row HG.out (grown_setCells _ _ _)⟩
      · rw [List.length_drop, h2, HLE.out]
        have := HIJ.out
        omega
      · rw [e, List.take_append_drop]
        exact h1
theorem erase_filter : ∀ {l : List Int} {k : Nat} {id : Int}, l[k]? = some id → (∀ j, j ≠ k → l[j]? ≠ some id) → l.eraseIdx k = l.filter fun j => decide (j ≠ id)
  | [], _, _, hk, _ => by simp at hk
  | a :: l, 0, id, hk, hf => by
    have ha : a = id := by simpa using hk
    subst ha
    rw [List.filter_cons_of_neg (by simp), List.eraseIdx_cons_zero]
    refine (List.filter_eq_self.2 fun j hj => ?_).symm
    obtain ⟨q, hq⟩ := List.getElem?_of_mem hj
    have := hf (q + 1) (by omega)
    rw [List.getElem?_cons_succ, hq] at this
    simpa using fun e => this (by rw [e])
  | a :: l, k + 1, id, hk, hf => by
    have ha : a ≠ id := fun e => hf 0 (by omega) (by simp [e])
    rw [List.filter_cons_of_pos (by simpa using ha), List.eraseIdx_cons_succ, erase_filter (l := l) (k := k) (by simpa using hk) (fun j hj => by
      have := hf (j + 1) (by omega)
      simpa using this)]
end Go.Proofs.YtdaedkolpfkdjaaGreat
end
