/-
  The walk of a tree's Remove: its closure, and what it asks first.
  The walk of a tree's take: a window's place among its parent's kids goes.
  Plainly: a window that isn't mapped might as well not be there; a window that is raised shows no less.
-/
import Derived.Test.YtdaedkolpfkdjaaGreatZE26
import Derived.Test.YtdaedkolpfkdjaaGreatZE07
import Derived.Test.YtdaedkolpfkdjaaGreatZE32
section
namespace Go.Proofs.YtdaedkolpfkdjaaGreat
open Go.RowKit Go.Maps Go.Shelf

/-- the removal's own value: its captured variables. -/
def rwalkF (bt bw bo : Nat) : Value := .func (.func 83) #[] #[.pointer (some ⟨bt, 0, none⟩), .pointer (some ⟨bw, 0, none⟩), .pointer (some ⟨bo, 0, none⟩)]
set_option maxRecDepth 100000 in
theorem other_ok (v : Value) (ns : Nodes) (mk mu : Option Nat) (nk : Nat) (fk : Int → Option Value) (id : Int) (w : World) (hid : 0 ≤ id ∧ id ≤ 4294967295) (h : TreeIs w v ns mk mu nk fk) (h1 : id ≠ 1) (hh : hasN ns id = true) :
    Calls Tryz.prog 82 #[v, .int .u32 id] w fun e w' => e = .returned (.int .i64 0) ∧ Below w.heap.size w w' := by
  have hv := h.shape
  subst hv
  have HB := Lib.hid (bal (bre w) (.cells #[.map mk, .map mu] 37))
  have HT := Lib.hid (h.below HB.out)
  have HH := Lib.hid hh
  have hne : (id == 1) = false := by simpa using h1
  clear h hh h1
  go_enter Tryz.func82, Tryz.ntmps82
  go_wp2_with fail
  refine (has_any _ ns mk mu nk fk id _ hid HT.out).mono ?_
  rintro e w1 ⟨rfl, hb1⟩
  rw [HH.out]
  have HB1 := Lib.hid (bstep HB.out hb1)
  clear hb1
  go_wp2_with fail
  go_ret
  exact ⟨rfl, HB1.out⟩
/-- is it the one that is taken out? -/
theorem take1_any (x id : Int) (bi : Nat) (w : World) (hc : w.cell? ⟨bi, 0, none⟩ = some (.int .u32 id)) :
    Calls Tryz.prog 145 #[.int .u32 x, .pointer (some ⟨bi, 0, none⟩)] w fun e w' => e = .returned (.bool (x == id)) ∧ w' = w := by
  go_enter Tryz.func145, Tryz.ntmps145
  go_wp2_with fail
  go_ret
  exact ⟨rfl, rfl⟩
set_option maxRecDepth 100000 in
/-- where it stands. -/
theorem indexID_any (A : Option Addr) (n c : Nat) (l : List Int) (id : Int) (k : Nat) (bi : Nat) (w : World) (hn : n ≤ 2000) (hr : Rd w A n (U32 l)) (hk : l[k]? = some id) (hf : ∀ j, j < k → l[j]? ≠ some id) (hc : w.cell? ⟨bi, 0, none⟩ = some (.int .u32 id)) (hbi : bi < w.heap.size) :
    Calls Tryz.prog 180 #[.slice A n c, .func (.func 145) #[] #[.pointer (some ⟨bi, 0, none⟩)]] w fun e w' => e = .returned (.int .i64 (k : Nat)) ∧ Below w.heap.size w w' := by
  have HR := Lib.hid hr
  have HK := Lib.hid hk
  have HF := Lib.hid hf
  have HC := Lib.hid hc
  have hln : l.length = n := by have := hr.1; simpa [U32] using this
  have hkl : k < n := by rw [← hln]; exact (List.getElem?_eq_some_iff.1 hk).1
  have HLN := Lib.hid hln
  clear hr hk hf hc hln
  go_enter Tryz.func180, Tryz.ntmps180
  go_wp2_with fail
  go_loopw [8] (fun i wr => ∃ m : Nat, i = .int .i64 m ∧ m ≤ k ∧ Below w.heap.size w wr) (fun i _ => n - (intOf i).toNat)
  case atStart => exact ⟨0, rfl, by omega, bre w⟩
  case round =>
    obtain ⟨m, rfl, hm, hB⟩ := hrel
    have HB := Lib.hid hB
    obtain ⟨x, hx⟩ : ∃ x, l[m]? = some x := ⟨_, List.getElem?_eq_getElem (by have := HLN.out; omega)⟩
    obtain ⟨b, off, rfl, hbl, hcl⟩ := (HR.out.below hB).2 (by omega)
    have x0 := hcl m _ (U32_at hx)
    have hcw : wr.cell? ⟨bi, 0, none⟩ = some (.int .u32 id) := ((bcell hB).1 _ _ hbi).trans HC.out
    have HCW := Lib.hid hcw
    have k0 : (0 : Int) ≤ (m : Int) := by omega
    have k1 : (m : Int) < (n : Int) := by omega
    have HX := Lib.hid hx
    clear hB hcl hx hcw hbl
    by_cases hmk : m = k
    · subst hmk
      have hxi : x = id := by have := HX.out.symm.trans HK.out; injection this
      subst hxi
      go_wp2_with fail
      refine (take1_any x x bi _ HCW.out).mono ?_
      rintro e w' ⟨rfl, rfl⟩
      rw [show (x == x) = true by simp]
      go_wp2_with fail
      go_ret
      exact ⟨rfl, HB.out⟩
    · have hxi : (x == id) = false := by
        simp
        intro e
        exact HF.out m (by omega) (by rw [HX.out, e])
      have HXI := Lib.hid hxi
      clear hxi
      go_wp2_with fail
      refine (take1_any x id bi _ HCW.out).mono ?_
      rintro e w' ⟨rfl, rfl⟩
      rw [HXI.out]
      go_wp2_with fail
      go_roundw
      case rel => exact ⟨m + 1, by go_num, by omega, HB.out⟩
      case measure => simp [intOf]; omega
/-- a list on the way: the first i places have been moved up. -/
def midL (l : List Int) (k i : Nat) : List Int := (l.eraseIdx k).take i ++ l.drop i
theorem midL_start {l : List Int} {k : Nat} (hk : k < l.length) : midL l k k = l := by
  unfold midL
  rw [List.eraseIdx_eq_take_drop_succ, List.take_append_of_le_length (by rw [List.length_take]; omega), List.take_take, Nat.min_self, List.take_append_drop]
theorem midL_len {l : List Int} {k i : Nat} (hk : k < l.length) (hi : i + 1 ≤ l.length) : (midL l k i).length = l.length := by
  unfold midL
  rw [List.length_append, List.length_take, List.length_drop, List.length_eraseIdx_of_lt hk]
  omega
theorem midL_at {l : List Int} {k i j : Nat} (hk : k < l.length) (hi : i + 1 ≤ l.length) (hj : i ≤ j) : (midL l k i)[j]? = l[j]? := by
  unfold midL
  have e : ((l.eraseIdx k).take i).length = i := by rw [List.length_take, List.length_eraseIdx_of_lt hk]; omega
  rw [List.getElem?_append_right (by omega), e, List.getElem?_drop]
  congr 1
  omega
theorem midL_next {l : List Int} {k i : Nat} {x : Int} (hk : k < l.length) (hki : k ≤ i) (hx : l[i + 1]? = some x) : (midL l k i).set i x = midL l k (i + 1) := by
  have hi : i + 1 < l.length := (List.getElem?_eq_some_iff.1 hx).1
  have e : ((l.eraseIdx k).take i).length = i := by rw [List.length_take, List.length_eraseIdx_of_lt hk]; omega
  have e1 : (l.eraseIdx k)[i]? = some x := by rw [List.getElem?_eraseIdx_of_ge hki]; exact hx
  unfold midL
  rw [List.set_append_right _ _ (by omega), e, Nat.sub_self, List.drop_eq_getElem_cons (show i < l.length by omega), List.set_cons_zero, List.take_add_one, e1]
  simp
theorem midL_end {l : List Int} {k i : Nat} (hk : k < l.length) (hi : i + 1 = l.length) : (midL l k i).take i = l.eraseIdx k := by
  unfold midL
  have e : ((l.eraseIdx k).take i).length = i := by rw [List.length_take, List.length_eraseIdx_of_lt hk]; omega
  rw [List.take_append_of_le_length (by omega), List.take_take, Nat.min_self, List.take_of_length_le (by rw [List.length_eraseIdx_of_lt hk]; omega)]
def zs1 (n : Nat) : List Value := (Builtin.zeroCells #[.int .u32 0] n).toList
theorem zs1_len (n : Nat) : (zs1 n).length = n := by simp [zs1, Builtin.zeroCells]
theorem zs1_one (n : Nat) : ∀ v ∈ zs1 n, v.oneCell' = true := by
  intro v hv
  simp only [zs1, Builtin.zeroCells, Array.toList_map, List.mem_map] at hv
  obtain ⟨i, _, rfl⟩ := hv
  simp [Nat.mod_one, Value.oneCell']
theorem run_clear1 (w : World) (ty : TypeId) (g o n c : Nat) (hn : 0 < n) (hc : ∀ j, j < n → (w.cell? ⟨g, o + j, none⟩).isSome = true) (hf : ∀ j, j < n → w.frozen? ⟨g, o + j, none⟩ = false) :
    (Builtin.clear_ #[43] ty #[.slice (some ⟨g, o, none⟩) n c]).run Tryz.prog w = .ok (.tuple #[]) (w.setCells g o (zs1 n)) := by
  have hst := run_storeCells_cells (P := Tryz.prog) g o (zs1 n) 0 w (by rw [zs1_len]; simpa using hc) (by rw [zs1_len]; simpa using hf) (zs1_one n)
  simp only [Nat.add_zero] at hst
  obtain ⟨m, rfl⟩ : ∃ m, n = m + 1 := ⟨n - 1, by omega⟩
  unfold zs1 at hst ⊢
  simp [Builtin.clear_, run_underlying Tryz.underlying43, Value.cells, hst]
set_option maxRecDepth 100000 in
set_option maxHeartbeats 4000000 in
/-- the row without the one that stands at k. -/
theorem delID_any (g n c k : Nat) (l : List Int) (tl : List Value) (id : Int) (bi : Nat) (w : World) (hl : l.length = n) (hn : n ≤ 2000) (hb : Blk w g 48 (U32 l ++ tl).toArray) (hnc : n ≤ c) (hk : l[k]? = some id) (hf : ∀ j, j ≠ k → l[j]? ≠ some id) (hc : w.cell? ⟨bi, 0, none⟩ = some (.int .u32 id)) (hne : bi ≠ g) :
    Calls Tryz.prog 144 #[.slice (some ⟨g, 0, none⟩) n c, .func (.func 145) #[] #[.pointer (some ⟨bi, 0, none⟩)]] w fun e w' => e = .returned (.slice (some ⟨g, 0, none⟩) (n - 1) c) ∧ (∃ tl', tl'.length = tl.length + 1 ∧ Blk w' g 48 (U32 (l.eraseIdx k) ++ tl').toArray) ∧ w.grownBy w' (some g) := by
  have hkl : k < n := by rw [← hl]; exact (List.getElem?_eq_some_iff.1 hk).1
  have hbl := block_lt_of_cell hc
  have hrd : Rd w (some ⟨g, 0, none⟩) n (U32 l) := ⟨by simp [U32, hl], fun _ => ⟨g, 0, rfl, hb.lt, fun j u hu => by
    rw [Nat.zero_add, hb.cell]
    have hlt := (List.getElem?_eq_some_iff.1 hu).1
    simp only [List.getElem?_toArray]
    rw [List.getElem?_append_left hlt]
    exact hu⟩⟩
  have HRD := Lib.hid hrd
  have HBK := Lib.hid hb
  have HK := Lib.hid hk
  have HF := Lib.hid hf
  have HC := Lib.hid hc
  have HL := Lib.hid hl
  have ne1 : ((k : Int) == -1) = false := by rw [beq_eq_false_iff_ne]; omega
  have hw1 : IntKind.i64.wrap ((k : Int) + 1) = (k : Int) + 1 := IntWalk.i64_in _ (by omega)
  clear hrd hb hk hf hc hl
  go_enter Tryz.func144, Tryz.ntmps144
  go_wp2_with (go_at_call 180; refine (indexID_any _ n c l id k bi w hn HRD.out HK.out (fun j hj => HF.out j (by omega)) HC.out hbl).mono ?_; rintro e w1 ⟨rfl, b1⟩; have B1 := Lib.hid b1; clear b1)
  go_loopw [5, 6] (fun s5 s6 wr => ∃ i j : Nat, s5 = .int .i64 i ∧ s6 = .int .i64 j ∧ i + 1 = j ∧ k ≤ i ∧ j ≤ n ∧ Blk wr g 48 (U32 (midL l k i) ++ tl).toArray ∧ w.grownBy wr (some g)) (fun _ s6 _ => n - (intOf s6).toNat)
  case atStart => exact ⟨k, k + 1, rfl, by go_num, rfl, Nat.le_refl _, by omega, by rw [midL_start (by rw [HL.out]; exact hkl)]; exact HBK.out.belowS B1.out, grown_of_below B1.out _⟩
  case round =>
    obtain ⟨i, j, rfl, rfl, hij, hki, hin, hb, hg⟩ := hrel
    have HB := Lib.hid hb
    have HG := Lib.hid hg
    have gl := hb.lt
    have hcy : Hid (wr.cell? ⟨bi, 0, none⟩ = some (.int .u32 id)) := Lib.hid (by
      have h := hg.block bi hbl (by simp; omega)
      exact (World.cell?_of_block (a := ⟨bi, 0, none⟩) h).trans HC.out)
    have hkL : k < l.length := by rw [HL.out]; exact hkl
    have hcell : ∀ q v, i ≤ q → l[q]? = some v → wr.cell? ⟨g, q, none⟩ = some (.int .u32 v) := fun q v hq hv => by
      rw [hb.cell]
      have hm : (midL l k i)[q]? = some v := (midL_at hkL (by rw [HL.out]; omega) hq).trans hv
      simp only [List.getElem?_toArray]
      rw [List.getElem?_append_left (by have := (List.getElem?_eq_some_iff.1 hm).1; simpa [U32] using this)]
      simp [U32, hm]
    clear hg
    by_cases hlt : j < n
    · obtain ⟨x, hx⟩ : ∃ x, l[j]? = some x := ⟨_, List.getElem?_eq_getElem (by have := HL.out; omega)⟩
      obtain ⟨y, hy⟩ : ∃ y, l[i]? = some y := ⟨_, List.getElem?_eq_getElem (by have := HL.out; omega)⟩
      have x1 := hcell j x (by omega) hx
      have x0 := hcell i y (Nat.le_refl _) hy
      have f0 := hb.frozen i
      have hxi : (x == id) = false := by
        simp
        intro e
        exact HF.out j (by omega) (by rw [hx, e])
      have HXI := Lib.hid hxi
      have HX := Lib.hid hx
      have k0 : (0 : Int) ≤ (j : Int) := by omega
      have k1 : (j : Int) < (n : Int) := by omega
      have k2 : (0 : Int) ≤ (i : Int) := by omega
      have k3 : (i : Int) < (n : Int) := by omega
      have k4 : IntKind.i64.wrap ((i : Int) + 1) = (i : Int) + 1 := IntWalk.i64_in _ (by omega)
      have k5 : IntKind.i64.wrap ((j : Int) + 1) = (j : Int) + 1 := IntWalk.i64_in _ (by omega)
      clear hb hcell hx hy hxi
      go_wp2_with fail
      refine (take1_any x id bi _ hcy.out).mono ?_
      rintro e w' ⟨rfl, rfl⟩
      rw [HXI.out]
      go_wp2_with fail
      go_roundw
      case rel =>
        refine ⟨i + 1, j + 1, by go_num, by go_num, by omega, by omega, by omega, ?_, grown_row HG.out (grown_setCell _ ⟨g, i, none⟩ _)⟩
        have h := HB.out.set_ i (.int .u32 x)
        have e : (U32 (midL l k i) ++ tl).toArray.setIfInBounds i (.int .u32 x) = (U32 (midL l k (i + 1)) ++ tl).toArray := by
          rw [List.setIfInBounds_toArray, List.set_append_left _ _ (by have := midL_len hkL (i := i) (by rw [HL.out]; omega); simp [U32, this, HL.out]; omega), ← midL_next hkL hki (by rw [hij]; exact HX.out)]
          unfold U32
          rw [List.map_set]
        rw [e] at h
        exact h
      case measure => simp [intOf]; omega
    · obtain rfl : j = n := by omega
      have hml := midL_len hkL (i := i) (by rw [HL.out]; omega)
      have hlen : (U32 (midL l k i) ++ tl).length = j + tl.length := by simp [U32, hml, HL.out]
      have hcl : ∀ ty, (Builtin.clear_ #[43] ty #[.slice (some ⟨g, i, none⟩) (j - i) (c - i)]).run Tryz.prog wr = .ok (.tuple #[]) (wr.setCells g i (zs1 (j - i))) := fun ty =>
        run_clear1 wr ty g i (j - i) (c - i) (by omega) (fun q hq => by
          rw [hb.cell]
          simp only [List.getElem?_toArray]
          rw [List.getElem?_eq_getElem (by rw [hlen]; omega)]
          rfl) (fun q _ => hb.frozen _)
      have HLE := Lib.hid hlen
      have HME := Lib.hid (midL_end hkL (i := i) (by rw [HL.out]; omega))
      have HHL := Lib.hid hml
      have k2 : (0 : Int) ≤ (i : Int) := by omega
      have k3 : (i : Int) ≤ (j : Int) := by omega
      have k4 : i ≤ j := by omega
      have k5 : i ≤ c := by omega
      have k6 : i < c := by omega
      have hj1 : j - 1 = i := by omega
      have HJ1 := Lib.hid hj1
      have HIJ := Lib.hid hij
      clear hb hcell hlen hml hij hj1
      go_wp2_with (simp only [hcl])
      go_ret
      obtain ⟨cs', h1, h2, h3⟩ := blk_setCells (zs1 (j - i)) i wr _ HB.out
      have hlm : i ≤ (U32 (midL l k i)).length := by have := HHL.out; have := HL.out; have := HIJ.out; simp [U32]; omega
      have e : U32 (l.eraseIdx k) = cs'.take i := by
        rw [h3, List.take_append_of_le_length hlm, ← HME.out]
        unfold U32
        rw [List.map_take]
      refine ⟨by rw [HJ1.out]; rfl, ⟨cs'.drop i, ?_, ?_⟩, grown_row HG.out (grown_setCells _ _ _)⟩
      · rw [List.length_drop, h2, HLE.out]
        have := HIJ.out
        omega
      · rw [e, List.take_append_drop]
        exact h1
theorem erase_filter : ∀ {l : List Int} {k : Nat} {id : Int}, l[k]? = some id → (∀ j, j ≠ k → l[j]? ≠ some id) → l.eraseIdx k = l.filter fun j => decide (j ≠ id)
  | [], _, _, hk, _ => by simp at hk
  | a :: l, 0, id, hk, hf => by
    have ha : a = id := by simpa using hk
    subst ha
    rw [List.filter_cons_of_neg (by simp), List.eraseIdx_cons_zero]
    refine (List.filter_eq_self.2 fun j hj => ?_).symm
    obtain ⟨q, hq⟩ := List.getElem?_of_mem hj
    have := hf (q + 1) (by omega)
    rw [List.getElem?_cons_succ, hq] at this
    simpa using fun e => this (by rw [e])
  | a :: l, k + 1, id, hk, hf => by
    have ha : a ≠ id := fun e => hf 0 (by omega) (by simp [e])
    rw [List.filter_cons_of_pos (by simpa using ha), List.eraseIdx_cons_succ, erase_filter (l := l) (k := k) (by simpa using hk) (fun j hj => by
      have := hf (j + 1) (by omega)
      simpa using this)]
end Go.Proofs.YtdaedkolpfkdjaaGreat
end

section
namespace Go.Proofs.YtdaedkolpfkdjaaGreat
open Go.RowKit Go.Maps Go.Shelf

set_option maxRecDepth 100000 in
set_option maxHeartbeats 4000000 in
theorem take_any (kb ub nk g n c k : Nat) (fk : Int → Option Value) (ns : Nodes) (p id : Int) (tl : List Value) (w : World) (hKB : MapIs Tryz.prog 48 .u32 w kb nk fk) (hUB : MapIs Tryz.prog 48 .u32 w ub ns.length (fun i => (upOf ns i).map (Value.int .u32))) (hnk : nk ≤ 2000)
    (hup : upOf ns id = some p) (hid : 0 ≤ id ∧ id ≤ 4294967295) (hp : 0 ≤ p ∧ p ≤ 4294967295) (hfk : fk p = some (.slice (some ⟨g, 0, none⟩) n c)) (hl : (kidsOf ns p).length = n) (hn : n ≤ 2000) (hnc : n ≤ c) (hb : Blk w g 48 (U32 (kidsOf ns p) ++ tl).toArray) (hk : (kidsOf ns p)[k]? = some id) (hf : ∀ j, j ≠ k → (kidsOf ns p)[j]? ≠ some id) (hne : g ≠ kb) :
    Calls Tryz.prog 85 #[.agg #[.map (some kb), .map (some ub)], .int .u32 id] w fun e w' => e = .returned (.tuple #[]) ∧ MapIs Tryz.prog 48 .u32 w' kb nk (fun j => if j = p then some (.slice (some ⟨g, 0, none⟩) (n - 1) c) else fk j) ∧ (∃ tl', tl'.length = tl.length + 1 ∧ Blk w' g 48 (U32 ((kidsOf ns p).eraseIdx k) ++ tl').toArray) ∧ ∃ X, w.grownBy X (some g) ∧ X.grownBy w' (some kb) := by
  have xB := bal (bal (bre w) (.cells #[.map (some kb), .map (some ub)] 37)) (.cells #[.int .u32 id] 48)
  have xK2 := (Blk.new w 37 #[.map (some kb), .map (some ub)]).alloc (.cells #[.int .u32 id] 48)
  have xK3 := blk_new2 w (.cells #[.map (some kb), .map (some ub)] 37) 48 #[.int .u32 id]
  have HWF := Lib.hid (u32_wf hid)
  have HWP := Lib.hid (u32_wf hp)
  have HUP := Lib.hid (show (Option.map (Value.int .u32) (upOf ns id)).getD (.int .u32 0) = .int .u32 p by rw [hup]; rfl)
  have HFK := Lib.hid hfk
  have hgl := hb.lt
  have hkl := hKB.lt
  go_enter Tryz.func85, Tryz.ntmps85
  go_upto_region 1 with fail
  obtain ⟨X, hX⟩ : ∃ X, (w.alloc (.cells #[.map (some kb), .map (some ub)] 37)).alloc (.cells #[.int .u32 id] 48) = X := ⟨_, rfl⟩
  have HKB := Lib.hid (show MapIs Tryz.prog 48 .u32 X kb nk fk by rw [← hX]; exact hKB.below xB)
  have HUB := Lib.hid (show MapIs Tryz.prog 48 .u32 X ub ns.length (fun i => (upOf ns i).map (Value.int .u32)) by rw [← hX]; exact hUB.below xB)
  have HBG := Lib.hid (show Blk X g 48 (U32 (kidsOf ns p) ++ tl).toArray by rw [← hX]; exact hb.belowS xB)
  rw [hX] at xB xK2 xK3 ⊢
  have HB := Lib.hid xB
  have K2 := Lib.hid xK2
  have K3 := Lib.hid xK3
  have HL := Lib.hid hl
  have HK := Lib.hid hk
  have HF := Lib.hid hf
  clear xB xK2 xK3 hX hKB hUB hb hup hl hk hf hfk
  have c0 := K2.out.cellV (i := 0) (v := .map (some kb)) rfl
  have c1 := K2.out.cellV (i := 1) (v := .map (some ub)) rfl
  have c3 := K3.out.cellV (i := 0) (v := .int .u32 id) rfl
  go_upto_region 2 with (at_lookup; refine opt_look rfl _ _ 35 rfl 48 48 .u32 Tryz.underlying48 Tryz.underlying35 (.int .u32 0) (Tryz.zeroID _) (some ub) ns.length (fun i => (upOf ns i).map (Value.int .u32)) rfl (.inr ⟨_, rfl, HUB.out⟩) id rfl HWF.out ?_; rw [HUP.out])
  clear c0 c1 c3
  have HBW := Lib.hid (show Below X.heap.size X X.drew from (bre X).drew)
  replace K2 := Lib.hid (K2.out.belowS (bre X).drew)
  replace K3 := Lib.hid (K3.out.belowS (bre X).drew)
  replace HBG := Lib.hid (HBG.out.belowS (bre X).drew)
  replace HKB := Lib.hid (HKB.out.below (bre X).drew)
  refine wp_region_noPanic ?_
  refine wp_region_held_drew (S := (fun w' => w'.cell? ⟨w.heap.size, 0, none⟩ = some (.map (some kb)))) (by kernel_rfl) ?_ (fun hHeld => ?_)
  · (try dsimp only)
    exact K2.out.cellV (i := 0) rfl
  refine Tr.take_at 0 9 (.pointer (some ⟨w.heap.size, 0, none⟩)) rfl rfl (by kernel_rfl) (by kernel_rfl) (by kernel_rfl) (fun _ _ _ h => h) (Or.inl ⟨by rfl, ?_⟩) (by assumption) ?_
  · intro W0 hSw
    (try dsimp only at hSw)
    go_simp
  simp only [List.set_cons_zero, List.set_cons_succ]
  refine Tr.take_at 1 10 (.map (some kb)) rfl rfl (by kernel_rfl) (by kernel_rfl) (by kernel_rfl) (fun _ _ _ h => h) (Or.inl ⟨by rfl, ?_⟩) (by assumption) ?_
  · intro W0 hSw
    (try dsimp only at hSw)
    go_simp
  simp only [List.set_cons_zero, List.set_cons_succ]
  refine Tr.take_at 2 11 (.int .u32 p) rfl rfl (by kernel_rfl) (by kernel_rfl) (by kernel_rfl) (fun _ _ _ h => h) (Or.inl ⟨by rfl, ?_⟩) (by assumption) ?_
  · intro W0 hSw
    (try dsimp only at hSw)
    go_simp
  simp only [List.set_cons_zero, List.set_cons_succ]
  refine Tr.take_at 3 12 (.pointer (some ⟨w.heap.size, 0, none⟩)) rfl rfl (by kernel_rfl) (by kernel_rfl) (by kernel_rfl) (fun _ _ _ h => h) (Or.inl ⟨by rfl, ?_⟩) (by assumption) ?_
  · intro W0 hSw
    (try dsimp only at hSw)
    go_simp
  simp only [List.set_cons_zero, List.set_cons_succ]
  refine Tr.take_at 4 13 (.map (some kb)) rfl rfl (by kernel_rfl) (by kernel_rfl) (by kernel_rfl) (fun _ _ _ h => h) (Or.inl ⟨by rfl, ?_⟩) (by assumption) ?_
  · intro W0 hSw
    (try dsimp only at hSw)
    go_simp
  simp only [List.set_cons_zero, List.set_cons_succ]
  refine Tr.take_at 5 14 (.int .u32 p) rfl rfl (by kernel_rfl) (by kernel_rfl) (by kernel_rfl) (fun _ _ _ h => h) (Or.inl ⟨by rfl, ?_⟩) (by assumption) ?_
  · intro W0 hSw
    (try dsimp only at hSw)
    go_simp
  simp only [List.set_cons_zero, List.set_cons_succ]
  refine Tr.take_at 7 16 (.func (.func 145) #[] #[.pointer (some ⟨w.heap.size + 1, 0, none⟩)]) rfl rfl (by kernel_rfl) (by kernel_rfl) (by kernel_rfl) (fun _ _ _ h => h) (Or.inl ⟨by rfl, ?_⟩) (by assumption) ?_
  · intro W0 hSw
    (try dsimp only at hSw)
    go_simp
  simp only [List.set_cons_zero, List.set_cons_succ]
  refine wpAnyH_ready (rs := [6]) (by kernel_rfl) (by simp) ?_
  refine AllReadyH.cons rfl (fun K hK => ?_) AllReadyH.nil
  refine Tr.wanted_plain rfl ?_
  refine map_look_op _ _ 34 rfl 48 43 .u32 Tryz.underlying48 Tryz.underlying34 (.slice none 0 0) (Tryz.zeroIDs _) kb nk fk rfl HKB.out p rfl HWP.out ?_
  rw [HFK.out]
  refine hK.out _ _ ?_ (fun hHeld => ?_)
  · (try dsimp only)
    exact K2.out.cellV (i := 0) rfl
  clear hK K
  refine wpAnyH_ready (rs := [8]) (by kernel_rfl) (by simp) ?_
  refine AllReadyH.cons rfl (fun K hK => ?_) AllReadyH.nil
  go_simp
  refine (delID_any g n c k (kidsOf ns p) tl id (w.heap.size + 1) _ HL.out hn HBG.out hnc HK.out HF.out (K3.out.cellV (i := 0) rfl) (by omega)).mono ?_
  rintro e w5 ⟨rfl, ⟨tl5, htl, hb5⟩, hg5⟩
  have HG5 := Lib.hid hg5
  have HT5 := Lib.hid htl
  have HB5 := Lib.hid hb5
  replace HKB := Lib.hid (HKB.out.kept hg5 (fun e => by injection e with e; exact hne e.symm))
  replace K2 := Lib.hid (K2.out.grown hg5 (fun e => by injection e with e; omega))
  clear hg5 htl hb5 HBG
  go_simp
  refine hK.out _ _ ?_ (fun hHeld => ?_)
  · (try dsimp only)
    exact K2.out.cellV (i := 0) rfl
  clear hK K
  refine wpAnyH_ready (rs := [9]) (by kernel_rfl) (by simp) ?_
  refine AllReadyH.cons rfl (fun K hK => ?_) AllReadyH.nil
  refine Tr.wanted_plain rfl ?_
  refine map_put_op _ _ _ 34 rfl 48 43 .u32 Tryz.underlying48 Tryz.underlying34 kb nk fk rfl HKB.out (by simp only [maxLen]; omega) p (.slice (some ⟨g, 0, none⟩) (n - 1) c) rfl rfl HWP.out ?_
  intro w6 hm6 hg6
  have HM6 := Lib.hid hm6
  have HG6 := Lib.hid hg6
  replace K2 := Lib.hid (K2.out.grown hg6 (fun e => by injection e with e; omega))
  clear hm6 hg6
  refine hK.out _ _ ?_ (fun hHeld => ?_)
  · (try dsimp only)
    exact K2.out.cellV (i := 0) rfl
  clear hK K
  refine wpAnyH_done (by kernel_rfl) ?_ _
  refine NoPanic.normal ?_
  go_wp2_with fail
  go_end0
  exact ⟨rfl, by have h := HM6.out; rw [show (if (fk p).isSome = true then nk else nk + 1) = nk by rw [HFK.out]; rfl] at h; exact h, ⟨tl5, HT5.out, HB5.out.grown HG6.out (fun e => by injection e with e; exact hne e)⟩, w5, grown_row (grown_of_below HB.out.drew _) HG5.out, HG6.out⟩
end Go.Proofs.YtdaedkolpfkdjaaGreat
end

section
namespace Go.Proofs.YtdaedkolpfkdjaaGreat

section
variable {ns : Nodes} {bx : Int → Option VB}
/-- the topmost window doesn't hang on how deep is asked, if it's deep enough. -/
theorem topF_more (h : TreeOk ns) : ∀ (f g : Nat) (id x y : Int), (belowAt ns id).length ≤ f → (belowAt ns id).length ≤ g → topF ns bx f id x y = topF ns bx g id x y
  | 0, _, id, _, _, h1, _ => by
    rw [below_step h] at h1
    simp at h1
  | f + 1, 0, id, _, _, _, h2 => by
    rw [below_step h] at h2
    simp at h2
  | f + 1, g + 1, id, x, y, h1, h2 => by
    unfold topF
    cases hf : (kidsOf ns id).reverse.find? (hitB bx (orgN ns bx id) x y) with
    | none => rfl
    | some k =>
      have hk := List.mem_of_find?_eq_some hf
      rw [List.mem_reverse] at hk
      exact topF_more h f g k x y (below_lt h hk h1) (below_lt h hk h2)
theorem find_drop {α : Type} {p q : α → Bool} : ∀ {l : List α}, (∀ a ∈ l, q a = false → p a = false) → (l.filter q).find? p = l.find? p
  | [], _ => rfl
  | a :: l, h => by
    have ih := find_drop (p := p) (q := q) (l := l) (fun b hb => h b (List.mem_cons_of_mem _ hb))
    rw [List.filter_cons]
    cases hq : q a with
    | true => simp only [if_true, List.find?_cons, ih]
    | false =>
      rw [if_neg (by simp), ih, List.find?_cons, h a (by simp) hq]
/-- a tree without a window, and all below it. -/
def cutN (ns : Nodes) (k : Int) : Nodes := ns.filter fun q => !(belowAt ns k).contains q.1
theorem mem_cutN {k : Int} {q : Int × Int} : q ∈ cutN ns k ↔ q ∈ ns ∧ q.1 ∉ belowAt ns k := by
  unfold cutN
  rw [List.mem_filter]
  simp
theorem cut_up (h : TreeOk ns) {k i : Int} (hi : i ∉ belowAt ns k) : upOf (cutN ns k) i = upOf ns i := by
  have hnd : ((cutN ns k).map (·.1)).Nodup := h.nodup.sublist (List.filter_sublist.map _)
  cases hu : upOf ns i with
  | some p => exact upOf_mem hnd (mem_cutN.2 ⟨upOf_some hu, hi⟩)
  | none =>
    cases hc : upOf (cutN ns k) i with
    | none => rfl
    | some p =>
      have := upOf_mem h.nodup (mem_cutN.1 (upOf_some hc)).1
      rw [hu] at this
      cases this
theorem kid_out (h : TreeOk ns) {k i j : Int} (hk : hasN ns k = true) (hi : i ∉ belowAt ns k) (hj : j ∈ kidsOf ns i) : j ∈ belowAt ns k ↔ j = k := by
  have hp := upOf_mem h.nodup (kids_mem.1 hj)
  rw [below_iff h hk] at hi ⊢
  rw [(path_step h hp).1, List.mem_cons]
  constructor
  · rintro (e | e)
    · exact e.symm
    · exact absurd e hi
  · exact fun e => .inl e.symm
theorem cut_kids (h : TreeOk ns) {k i : Int} (hk : hasN ns k = true) (hi : i ∉ belowAt ns k) : kidsOf (cutN ns k) i = (kidsOf ns i).filter fun j => decide (j ≠ k) := by
  unfold kidsOf cutN
  rw [List.filter_filter, List.filter_map, List.filter_filter]
  congr 1
  refine List.filter_congr (fun q hq => ?_)
  cases e : q.2 == i with
  | false => simp
  | true =>
    rw [beq_iff_eq] at e
    have hj : q.1 ∈ kidsOf ns i := kids_mem.2 (by rw [← e]; exact hq)
    have := kid_out h hk hi hj
    simp only [Bool.true_and, Bool.and_true, Function.comp]
    rw [Bool.eq_iff_iff]
    simp [this]
theorem cut_has (h : TreeOk ns) {k i : Int} (hi : i ∉ belowAt ns k) : hasN (cutN ns k) i = hasN ns i := by
  unfold hasN
  rw [cut_up h hi]
theorem kid_has (h : TreeOk ns) {i j : Int} (hj : j ∈ kidsOf ns i) : hasN ns j = true := hasN_iff.2 (.inr ⟨i, upOf_mem h.nodup (kids_mem.1 hj)⟩)
end

section
variable {ns : Nodes} {bx : Int → Option VB}
/-- a tree in which a window is raised to the top of its siblings. -/
def topmost (ns : Nodes) (k p : Int) : Nodes := (ns.filter fun q => decide (q.1 ≠ k)) ++ [(k, p)]
theorem mem_topmost {k p : Int} (hp : (k, p) ∈ ns) (hn : (ns.map (·.1)).Nodup) {q : Int × Int} : q ∈ topmost ns k p ↔ q ∈ ns := by
  unfold topmost
  rw [List.mem_append, List.mem_filter, List.mem_singleton]
  constructor
  · rintro (⟨h1, _⟩ | rfl)
    · exact h1
    · exact hp
  · intro h1
    by_cases e : q.1 = k
    · right
      have h2 := upOf_mem hn (show (q.1, q.2) ∈ ns from h1)
      have h3 := upOf_mem hn hp
      rw [e, h3] at h2
      have h4 := Option.some.inj h2
      exact Prod.ext e h4.symm
    · exact .inl ⟨h1, by simpa using e⟩
theorem topmost_nodup {k p : Int} (hn : (ns.map (·.1)).Nodup) : ((topmost ns k p).map (·.1)).Nodup := by
  unfold topmost
  rw [List.map_append, List.nodup_append]
  refine ⟨hn.sublist (List.filter_sublist.map _), by simp, fun a ha b hb => ?_⟩
  obtain ⟨q, hq, rfl⟩ := List.mem_map.1 ha
  have := (List.mem_filter.1 hq).2
  simp only [List.map_cons, List.map_nil, List.mem_singleton] at hb
  rw [hb]
  simpa using this
theorem topmost_up (h : TreeOk ns) {k p : Int} (hp : (k, p) ∈ ns) (i : Int) : upOf (topmost ns k p) i = upOf ns i := by
  cases hu : upOf ns i with
  | some q => exact upOf_mem (topmost_nodup h.nodup) ((mem_topmost hp h.nodup).2 (upOf_some hu))
  | none =>
    cases hc : upOf (topmost ns k p) i with
    | none => rfl
    | some q =>
      have := upOf_mem h.nodup ((mem_topmost hp h.nodup).1 (upOf_some hc))
      rw [hu] at this
      cases this
theorem topmost_has (h : TreeOk ns) {k p : Int} (hp : (k, p) ∈ ns) (i : Int) : hasN (topmost ns k p) i = hasN ns i := by
  unfold hasN
  rw [topmost_up h hp]
theorem filter_len {α : Type} [BEq α] [LawfulBEq α] {l m : List α} (hl : l.Nodup) (hm : m.Nodup) (h : ∀ a, a ∈ l ↔ a ∈ m) : l.length = m.length := Nat.le_antisymm (nodup_len hl (fun a ha => (h a).1 ha)) (nodup_len hm (fun a ha => (h a).2 ha))
theorem topmost_len (h : TreeOk ns) {k p : Int} (hp : (k, p) ∈ ns) : (topmost ns k p).length = ns.length := by
  have := filter_len (topmost_nodup (p := p) (k := k) h.nodup) h.nodup (fun a => by
    rw [List.mem_map, List.mem_map]
    constructor
    · rintro ⟨q, hq, e⟩; exact ⟨q, (mem_topmost hp h.nodup).1 hq, e⟩
    · rintro ⟨q, hq, e⟩; exact ⟨q, (mem_topmost hp h.nodup).2 hq, e⟩)
  simpa using this
theorem topmost_ok (h : TreeOk ns) {k p : Int} (hp : (k, p) ∈ ns) : TreeOk (topmost ns k p) where
  nodup := topmost_nodup h.nodup
  noroot := fun q hq => h.noroot q ((mem_topmost hp h.nodup).1 hq)
  closed := fun q hq => by rw [topmost_has h hp]; exact h.closed q ((mem_topmost hp h.nodup).1 hq)
  ranked := by
    obtain ⟨rk, hr, hk⟩ := h.ranked
    exact ⟨rk, hr, fun q hq => by rw [topmost_len h hp]; exact hk q ((mem_topmost hp h.nodup).1 hq)⟩
theorem topmost_kids (k p i : Int) : kidsOf (topmost ns k p) i = ((kidsOf ns i).filter fun j => decide (j ≠ k)) ++ (if p = i then [k] else []) := by
  unfold topmost kidsOf
  rw [List.filter_append, List.map_append, List.filter_map, List.filter_filter, List.filter_filter]
  congr 1
  · congr 1
    refine List.filter_congr (fun q _ => ?_)
    simp only [Function.comp]
    rw [Bool.and_comm]
  · by_cases e : p = i
    · simp [e]
    · simp [e]
theorem topmost_path (h : TreeOk ns) {k p : Int} (hp : (k, p) ∈ ns) : ∀ i, pathN (topmost ns k p) i = pathN ns i := by
  intro i
  cases hi : hasN ns i with
  | false => rw [path_none hi, path_none (by rw [topmost_has h hp]; exact hi)]
  | true =>
    refine path_ind h (P := fun i => pathN (topmost ns k p) i = pathN ns i) ?_ ?_ i hi
    · rw [path_root h, path_root (topmost_ok h hp)]
    · intro j q hq ih
      rw [(path_step h hq).1, (path_step (topmost_ok h hp) (by rw [topmost_up h hp]; exact hq)).1, ih]
theorem topmost_org (h : TreeOk ns) {k p : Int} (hp : (k, p) ∈ ns) (i : Int) : orgN (topmost ns k p) bx i = orgN ns bx i := by
  unfold orgN
  rw [topmost_path h hp]
theorem kids_other (h : TreeOk ns) {k p i : Int} (hp : (k, p) ∈ ns) (hi : i ≠ p) : kidsOf (topmost ns k p) i = kidsOf ns i := by
  rw [topmost_kids, if_neg (fun e => hi e.symm), List.append_nil, List.filter_eq_self]
  intro j hj
  have h1 := kids_mem.1 hj
  refine decide_eq_true (fun e => hi ?_)
  rw [e] at h1
  have h2 := upOf_mem h.nodup h1
  have h3 := upOf_mem h.nodup hp
  rw [h3] at h2
  exact (Option.some.inj h2).symm
/-- below the raised window nothing changes. -/
theorem top_same (h : TreeOk ns) {k p : Int} (hp : (k, p) ∈ ns) : ∀ (f : Nat) (i x y : Int), i ∈ belowAt ns k → topF (topmost ns k p) bx f i x y = topF ns bx f i x y
  | 0, _, _, _, _ => rfl
  | f + 1, i, x, y, hi => by
    have hk : hasN ns k = true := hasN_iff.2 (.inr ⟨p, upOf_mem h.nodup hp⟩)
    have hne : i ≠ p := fun e => by
      rw [e, below_iff h hk] at hi
      have hu := upOf_mem h.nodup hp
      obtain ⟨rk, hr, hk'⟩ := h.ranked
      have h1 := (hk' _ hp).1
      dsimp only at h1
      rcases path_rank h hr hk' hi with e | e
      · rw [e] at h1; omega
      · omega
    unfold topF
    rw [kids_other h hp hne, topmost_org h hp]
    cases hf : (kidsOf ns i).reverse.find? (hitB bx (orgN ns bx i) x y) with
    | none => rfl
    | some j =>
      have hj := List.mem_of_find?_eq_some hf
      rw [List.mem_reverse] at hj
      refine top_same h hp f j x y ?_
      rw [below_iff h hk] at hi ⊢
      rw [(path_step h (upOf_mem h.nodup (kids_mem.1 hj))).1]
      exact List.mem_cons_of_mem _ hi
/-- THE WINDOW AT A PLACE when one is raised: as it was, or the raised one, or one below it; as it was, if it was that already. -/
theorem raise_topF (h : TreeOk ns) {k p : Int} (hp : (k, p) ∈ ns) : ∀ (f : Nat) (i x y : Int), hasN ns i = true → (topF (topmost ns k p) bx f i x y = topF ns bx f i x y) ∨ (topF (topmost ns k p) bx f i x y ∈ belowAt ns k ∧ (topF ns bx f i x y ∉ belowAt ns k))
  | 0, _, _, _, _ => .inl rfl
  | f + 1, i, x, y, hi => by
    have hk : hasN ns k = true := hasN_iff.2 (.inr ⟨p, upOf_mem h.nodup hp⟩)
    by_cases hin : i ∈ belowAt ns k
    · exact .inl (top_same h hp _ i x y hin)
    unfold topF
    rw [topmost_org h hp]
    by_cases e : i = p
    · subst e
      rw [topmost_kids, if_pos rfl, List.reverse_append, List.reverse_singleton, List.singleton_append, List.find?_cons]
      cases hh : hitB bx (orgN ns bx i) x y k with
      | true =>
        dsimp only
        rw [top_same h hp f k x y ((below_step h k).symm ▸ List.mem_cons_self)]
        cases hf : (kidsOf ns i).reverse.find? (hitB bx (orgN ns bx i) x y) with
        | none => exact .inr ⟨topF_in h f k x y, hin⟩
        | some j =>
          dsimp only
          by_cases ej : j = k
          · rw [ej]; exact .inl rfl
          · have hj := List.mem_of_find?_eq_some hf
            rw [List.mem_reverse] at hj
            exact .inr ⟨topF_in h f k x y, fun hb => below_disj h hj (kids_mem.2 hp) ej (topF_in h f j x y) hb⟩
      | false =>
        dsimp only
        rw [← List.filter_reverse, find_drop (fun j _ hj => by
          obtain rfl : j = k := by simpa using hj
          exact hh)]
        cases hf : (kidsOf ns i).reverse.find? (hitB bx (orgN ns bx i) x y) with
        | none => exact .inl rfl
        | some j =>
          have hj := List.mem_of_find?_eq_some hf
          rw [List.mem_reverse] at hj
          exact raise_topF h hp f j x y (kid_has h hj)
    · rw [kids_other h hp e]
      cases hf : (kidsOf ns i).reverse.find? (hitB bx (orgN ns bx i) x y) with
      | none => exact .inl rfl
      | some j =>
        have hj := List.mem_of_find?_eq_some hf
        rw [List.mem_reverse] at hj
        exact raise_topF h hp f j x y (kid_has h hj)
theorem raise_top (h : TreeOk ns) {k p : Int} (hp : (k, p) ∈ ns) (x y : Int) : topN (topmost ns k p) bx x y = topN ns bx x y ∨ (topN (topmost ns k p) bx x y ∈ belowAt ns k ∧ topN ns bx x y ∉ belowAt ns k) := by
  have h1 := raise_topF (bx := bx) h hp ((belowAt ns 1).length + (belowAt (topmost ns k p) 1).length) 1 x y (hasN_root ns)
  rw [← topF_more h (belowAt ns 1).length _ 1 x y (Nat.le_refl _) (Nat.le_add_right _ _), ← topF_more (topmost_ok h hp) (belowAt (topmost ns k p) 1).length _ 1 x y (Nat.le_refl _) (Nat.le_add_left _ _)] at h1
  exact h1
/-- raised, a window and all below it show no less. -/
theorem raise_more (h : TreeOk ns) {k p : Int} (hp : (k, p) ∈ ns) (P : Places) {i : Int} (hi : i ∈ belowAt ns k) (x y : Int) (hs : showB (esN ns bx P) x y i = true) : showB (esN (topmost ns k p) bx P) x y i = true := by
  rw [show_at h, Bool.and_eq_true, decide_eq_true_eq] at hs
  rw [show_at (topmost_ok h hp), hs.1, Bool.true_and, decide_eq_true_eq]
  rcases raise_top (bx := bx) h hp x y with e | ⟨_, e⟩
  · rw [e]; exact hs.2
  · rw [← hs.2] at e; exact absurd hi e
theorem raise_less (h : TreeOk ns) {k p : Int} (hp : (k, p) ∈ ns) (P : Places) {i : Int} (hi : i ∉ belowAt ns k) (x y : Int) (hs : showB (esN (topmost ns k p) bx P) x y i = true) : showB (esN ns bx P) x y i = true := by
  rw [show_at (topmost_ok h hp), Bool.and_eq_true, decide_eq_true_eq] at hs
  rw [show_at h, hs.1, Bool.true_and, decide_eq_true_eq]
  rcases raise_top (bx := bx) h hp x y with e | ⟨e, _⟩
  · rw [← e]; exact hs.2
  · rw [← hs.2] at e; exact absurd e hi
end
end Go.Proofs.YtdaedkolpfkdjaaGreat
end
