/-
  The walk of slices.DeleteFunc at rectangles, with band's predicate 'it ends ahead of a row': the row is cut to those that don't.
  slices.SortFunc at rectangles, by band's two comparers: a permutation of the row, sorted.
  Lists of numbers in memory.
  The walk of band.edges: the rows at which rectangles begin or end, rising, each once.
-/
import Derived.Test.YtdaedkolpfkdjaaGreatZE06
import Derived.Lib.SliceRun
import Derived.Test.YtdaedkolpfkdjaaGreatShelf
import Derived.Shelf.SlSortCmp.NoneTotal
section
namespace Go.Proofs.YtdaedkolpfkdjaaGreat
open Go.RowKit

theorem blk_setCells {g : Nat} {t : TypeId} : ∀ (vs : List Value) (o : Nat) (w : World) (cs : List Value), Blk w g t cs.toArray → ∃ cs' : List Value, Blk (w.setCells g o vs) g t cs'.toArray ∧ cs'.length = cs.length ∧ cs'.take o = cs.take o
  | [], _, _, cs, h => ⟨cs, h, rfl, rfl⟩
  | v :: r, o, w, cs, h => by
    have h1 := h.set_ o v
    rw [List.setIfInBounds_toArray] at h1
    obtain ⟨cs', h2, h3, h4⟩ := blk_setCells r (o + 1) _ _ h1
    refine ⟨cs', h2, by simpa using h3, ?_⟩
    have h5 : (cs'.take (o + 1)).take o = ((cs.set o v).take (o + 1)).take o := by rw [h4]
    rw [List.take_take, List.take_take, Nat.min_eq_left (by omega)] at h5
    rw [h5, List.take_set_of_le (Nat.le_refl _)]
theorem grown_setCells {g : Nat} : ∀ (vs : List Value) (o : Nat) (w : World), w.grownBy (w.setCells g o vs) (some g)
  | [], _, w => grown_of_below (bre w) _
  | v :: r, o, w => by
    have h1 := grown_setCell w ⟨g, o, none⟩ v
    have h2 := grown_setCells (g := g) r (o + 1) (w.setCell ⟨g, o, none⟩ v)
    exact ⟨h2.os.trans h1.os, h2.tape.trans h1.tape, h2.output.trans h1.output, Nat.le_trans h1.size h2.size, fun i hi hn => (h2.block i (Nat.lt_of_lt_of_le hi h1.size) hn).trans (h1.block i hi hn)⟩
theorem grown_row {w X Y : World} {g : Nat} (h : w.grownBy X (some g)) (hg : X.grownBy Y (some g)) : w.grownBy Y (some g) :=
  ⟨hg.os.trans h.os, hg.tape.trans h.tape, hg.output.trans h.output, Nat.le_trans h.size hg.size, fun i hi hn => (hg.block i (Nat.lt_of_lt_of_le hi h.size) hn).trans (h.block i hi hn)⟩
theorem grown_bel {w X Y : World} {r : Option Nat} (h : w.grownBy X r) (hb : Below X.heap.size X Y) : w.grownBy Y r :=
  ⟨hb.os.trans h.os, hb.tape.trans h.tape, hb.output.trans h.output, Nat.le_trans h.size hb.size, fun i hi hn => (hb.block i (Nat.lt_of_lt_of_le hi h.size)).trans (h.block i hi hn)⟩

def zs4 (n : Nat) : List Value := (Builtin.zeroCells #[.int .i64 0, .int .i64 0, .int .i64 0, .int .i64 0] n).toList
theorem zs4_len (n : Nat) : (zs4 n).length = n * 4 := by simp [zs4, Builtin.zeroCells]
theorem zs4_one (n : Nat) : ∀ v ∈ zs4 n, v.oneCell' = true := by
  intro v hv
  simp only [zs4, Builtin.zeroCells, Array.toList_map, List.mem_map] at hv
  obtain ⟨i, _, rfl⟩ := hv
  have : i % 4 = 0 ∨ i % 4 = 1 ∨ i % 4 = 2 ∨ i % 4 = 3 := by omega
  rcases this with h | h | h | h <;> simp [h, Value.oneCell']
theorem run_clear4 (w : World) (ty : TypeId) (g o n c : Nat) (hn : 0 < n) (hc : ∀ j, j < n * 4 → (w.cell? ⟨g, o + j, none⟩).isSome = true) (hf : ∀ j, j < n * 4 → w.frozen? ⟨g, o + j, none⟩ = false) :
    (Builtin.clear_ #[31] ty #[.slice (some ⟨g, o, none⟩) n c]).run Tryz.prog w = .ok (.tuple #[]) (w.setCells g o (zs4 n)) := by
  have hst := run_storeCells_cells (P := Tryz.prog) g o (zs4 n) 0 w (by rw [zs4_len]; simpa using hc) (by rw [zs4_len]; simpa using hf) (zs4_one n)
  simp only [Nat.add_zero] at hst
  obtain ⟨m, rfl⟩ : ∃ m, n = m + 1 := ⟨n - 1, by omega⟩
  unfold zs4 at hst ⊢
  simp [Builtin.clear_, run_underlying Tryz.underlying31, Value.cells, hst]

/-- those that do not end ahead of a row. -/
def keepL (y : Int) (l : List RC) : List RC := l.filter fun r => !endsB y r
theorem keepL_none {y : Int} {l : List RC} (h : idxI (endsB y) l = -1) : keepL y l = l := by
  unfold keepL
  rw [List.filter_eq_self]
  intro r hr
  cases hf : l.findIdx? (endsB y) with
  | none =>
    rw [List.findIdx?_eq_none_iff] at hf
    simp [hf r hr]
  | some i =>
    simp [idxI, hf] at h
theorem keepL_first {y : Int} {l : List RC} {i : Nat} (h : l.findIdx? (endsB y) = some i) : keepL y (l.take (i + 1)) = l.take i ∧ i < l.length := by
  rw [List.findIdx?_eq_some_iff_getElem] at h
  obtain ⟨hi, hp, hj⟩ := h
  refine ⟨?_, hi⟩
  rw [List.take_succ_eq_append_getElem hi]
  unfold keepL
  rw [List.filter_append, List.filter_eq_self.2, List.filter_cons_of_neg (by simp [hp])]
  · simp
  · intro r hr
    obtain ⟨j, hj', rfl⟩ := List.mem_take_iff_getElem.1 hr
    have := hj j (by omega)
    simpa using this
theorem keepL_snoc_in {y : Int} {l : List RC} {x : RC} (h : endsB y x = false) : keepL y (l ++ [x]) = keepL y l ++ [x] := by simp [keepL, h]
theorem keepL_snoc_out {y : Int} {l : List RC} {x : RC} (h : endsB y x = true) : keepL y (l ++ [x]) = keepL y l := by simp [keepL, h]

theorem grown_four {w X : World} {g o1 o2 o3 o4 : Nat} {v1 v2 v3 v4 : Value} (h : w.grownBy X (some g)) : w.grownBy ((((X.setCell ⟨g, o1, none⟩ v1).setCell ⟨g, o2, none⟩ v2).setCell ⟨g, o3, none⟩ v3).setCell ⟨g, o4, none⟩ v4) (some g) :=
  grown_row (grown_row (grown_row (grown_row h (grown_setCell _ ⟨g, o1, none⟩ v1)) (grown_setCell _ ⟨g, o2, none⟩ v2)) (grown_setCell _ ⟨g, o3, none⟩ v3)) (grown_setCell _ ⟨g, o4, none⟩ v4)
theorem del_set {K M D : List RC} {x : RC} {i : Nat} (hK : K.length = i) (hM : 0 < M.length) : (K ++ M ++ x :: D).set i x = (K ++ [x]) ++ (M.tail ++ [x]) ++ D := by
  subst hK
  cases M with
  | nil => simp at hM
  | cons m M => simp
theorem del_at {K M D : List RC} {x : RC} {j : Nat} (h : K.length + M.length = j) : (K ++ M ++ x :: D)[j]? = some x := by
  rw [List.getElem?_append_right (by simp; omega)]
  simp [← h]
/-- a row of rectangles as its block. -/
theorem own_rcs {w : World} {B g n c : Nat} {rs : List RC} (h : w.ownsRow B 103 4 (.slice (some ⟨g, 0, none⟩) n c) n (rcs rs)) : B ≤ g ∧ n ≤ c ∧ c ≤ maxLen ∧ ∃ rest, Blk w g 103 (rcs rs ++ rest).toArray ∧ (rcs rs ++ rest).length = c * 4 := by
  rcases h.2 with ⟨e1, _⟩ | ⟨g', cap, cur, e1, hb, hg, h1, h2, h3, h4⟩
  · cases e1
  · injection e1 with e1 _ e3
    injection e1 with e1
    injection e1 with e1 _ _
    subst e1 e3
    refine ⟨hb, h1, h2, cur.toList.drop (n * 4), ?_, ?_⟩
    · rw [← h4, List.take_append_drop]
      exact hg
    · rw [← h4, List.take_append_drop]
      simpa using h3
theorem rcs_own {w : World} {B g n c : Nat} {rs : List RC} {cs : List Value} (hB : B ≤ g) (hn : n ≤ c) (hm : c ≤ maxLen) (h : Blk w g 103 cs.toArray) (hl : cs.length = c * 4) (ht : cs.take (n * 4) = rcs rs) (hr : rs.length = n) : w.ownsRow B 103 4 (.slice (some ⟨g, 0, none⟩) n c) n (rcs rs) :=
  ⟨by rw [rcs_len, hr], .inr ⟨g, c, cs.toArray, rfl, hB, h, hn, hm, by simpa using hl, by simpa using ht⟩⟩
theorem RdR.of_blk {w : World} {g : Nat} {t : TypeId} {rs : List RC} {rest : List Value} (h : Blk w g t (rcs rs ++ rest).toArray) : RdR w (some ⟨g, 0, none⟩) rs.length rs :=
  ⟨rfl, fun _ => ⟨g, 0, rfl, h.lt, fun k r hk => by rw [Nat.zero_add]; exact blk_at h hk⟩⟩

set_option maxRecDepth 100000 in
set_option maxHeartbeats 4000000 in
theorem delF_go (B g n c i0 : Nat) (rs : List RC) (y : Int) (by' : Nat) (w : World) (hown : w.ownsRow B 103 4 (.slice (some ⟨g, 0, none⟩) n c) n (rcs rs)) (hn : rs.length = n) (hnb : n ≤ 1000000000000) (hok : ∀ r ∈ rs, r.ok) (hy : w.cell? ⟨by', 0, none⟩ = some (.int .i64 y)) (hby : by' ≠ g) (hi0 : rs.findIdx? (endsB y) = some i0) :
    Calls Tryz.prog 130 #[.slice (some ⟨g, 0, none⟩) n c, .func (.func 131) #[] #[.pointer (some ⟨by', 0, none⟩)]] w fun e w' => e = .returned (.slice (some ⟨g, 0, none⟩) (keepL y rs).length c) ∧ w'.ownsRow B 103 4 (.slice (some ⟨g, 0, none⟩) (keepL y rs).length c) (keepL y rs).length (rcs (keepL y rs)) ∧ w.grownBy w' (some g) := by
  obtain ⟨hBg, hnc, hcm, rest, hblk, hrl⟩ := own_rcs hown
  obtain ⟨hk0, hi0l⟩ := keepL_first hi0
  have hidx : idxI (endsB y) rs = i0 := by simp [idxI, hi0]
  have hlt0 := block_lt_of_cell hy
  have HI := Lib.hid hidx
  have HK0 := Lib.hid hk0
  have HBLK := Lib.hid hblk
  have HRL := Lib.hid hrl
  have HN := Lib.hid hn
  have HOK := Lib.hid hok
  have HYC := Lib.hid hy
  have hg0 := hblk.lt
  have i0n : i0 < n := by omega
  have ne1 : ((i0 : Int) == -1) = false := by rw [beq_eq_false_iff_ne]; omega
  clear hidx hk0 hblk hrl hn hok hy hown hi0
  go_enter Tryz.func130, Tryz.ntmps130
  go_wp2_with (go_at_call 175; refine (indexF_any _ n c rs y by' w (by omega) (by rw [← HN.out]; exact RdR.of_blk HBLK.out) HOK.out HYC.out).mono ?_; rintro e w1 ⟨rfl, b1⟩; rw [HI.out]; have B1 := Lib.hid b1; clear b1)
  go_loopw [5, 6] (fun s5 s6 wr => ∃ (i j : Nat) (M : List RC), s5 = .int .i64 i ∧ s6 = .int .i64 j ∧ i < j ∧ j ≤ n ∧ M.length = j - i ∧ (keepL y (rs.take j)).length = i ∧ Blk wr g 103 (rcs (keepL y (rs.take j) ++ M ++ rs.drop j) ++ rest).toArray ∧ w.grownBy wr (some g)) (fun _ s6 _ => n - (intOf s6).toNat)
  case atStart =>
    refine ⟨i0, i0 + 1, [rs[i0]], rfl, by go_num, by omega, by omega, by simp, by rw [HK0.out, List.length_take]; omega, ?_, grown_of_below B1.out _⟩
    have e : keepL y (rs.take (i0 + 1)) ++ [rs[i0]] ++ rs.drop (i0 + 1) = rs := by
      rw [HK0.out, ← List.take_succ_eq_append_getElem hi0l, List.take_append_drop]
    rw [e]
    exact HBLK.out.belowS B1.out
  case round =>
    obtain ⟨i, j, M, rfl, rfl, hij, hj, hM, hK, hb, hg⟩ := hrel
    have HB := Lib.hid hb
    have HG := Lib.hid hg
    have HM := Lib.hid hM
    have HK := Lib.hid hK
    have gl := hb.lt
    have hcy : Hid (wr.cell? ⟨by', 0, none⟩ = some (.int .i64 y)) := Lib.hid (by
      have h := hg.block by' hlt0 (by simp; omega)
      exact (World.cell?_of_block (a := ⟨by', 0, none⟩) h).trans HYC.out)
    clear hb hg hM hK
    by_cases hlt : j < n
    · obtain ⟨x, hx⟩ : ∃ x, rs[j]? = some x := ⟨_, List.getElem?_eq_getElem (by have := HN.out; omega)⟩
      have hxv := (List.getElem?_eq_some_iff.1 hx)
      have hdr : rs.drop j = x :: rs.drop (j + 1) := by
        obtain ⟨h1, h2⟩ := hxv
        rw [List.drop_eq_getElem_cons h1, h2]
      have htk : rs.take (j + 1) = rs.take j ++ [x] := by rw [List.take_add_one, hx]; rfl
      have hB' := HB.out
      rw [hdr] at hB'
      have hlen : (keepL y (rs.take j)).length + M.length = j := by rw [HK.out, HM.out]; omega
      obtain ⟨x0, x1, x2, x3⟩ := blk_at hB' (del_at hlen)
      obtain ⟨m0, hm0⟩ : ∃ m0, (keepL y (rs.take j) ++ M ++ x :: rs.drop (j + 1))[i]? = some m0 := ⟨_, List.getElem?_eq_getElem (by simp [HK.out, HM.out]; omega)⟩
      obtain ⟨m1, m2, m3, m4⟩ := blk_at hB' hm0
      have f0 := hB'.frozen (i * 4)
      have f1 := hB'.frozen (i * 4 + 1)
      have f2 := hB'.frozen (i * 4 + 1 + 1)
      have f3 := hB'.frozen (i * 4 + 1 + 1 + 1)
      have HB2 := Lib.hid hB'
      have HX := Lib.hid hx
      have HTK := Lib.hid htk
      have HOKX := Lib.hid (HOK.out x (List.mem_of_getElem? hx))
      have k0 : (0 : Int) ≤ (j : Int) := by omega
      have k1 : (j : Int) < (n : Int) := by omega
      have k2 : (0 : Int) ≤ (i : Int) := by omega
      have k3 : (i : Int) < (n : Int) := by omega
      clear hx hxv hdr htk hB' hm0
      cases hon : endsB y x
      · have hkn : keepL y (rs.take (j + 1)) = keepL y (rs.take j) ++ [x] := by rw [HTK.out]; exact keepL_snoc_in hon
        have HKN := Lib.hid hkn
        have HON := Lib.hid hon
        clear hkn hon
        go_wp2_with fail
        refine (of2_any x y by' _ HOKX.out (by exact (World.cell?_alloc_lt _ _ _ (Nat.lt_of_lt_of_le hlt0 HG.out.size)).trans hcy.out)).mono ?_
        rintro e w' ⟨rfl, rfl⟩
        rw [HON.out]
        go_wp2_with fail
        go_roundw
        case rel =>
          refine ⟨i + 1, j + 1, M.tail ++ [x], by go_num, by go_num, by omega, by omega, by simp [HM.out]; omega, by rw [HKN.out, List.length_append, HK.out]; rfl, ?_, ?_⟩
          · have h := blk_set (r := x) (k := i) HB2.out (by simp [HK.out, HM.out]; omega)
            rw [del_set HK.out (by rw [HM.out]; omega)] at h
            rw [HKN.out]
            exact (h.alloc _).alloc _
          · exact grown_bel (grown_four HG.out) (bal (bal (bre _) _) _)
        case measure => simp [intOf]; omega
      · have hkn : keepL y (rs.take (j + 1)) = keepL y (rs.take j) := by rw [HTK.out]; exact keepL_snoc_out hon
        have HKN := Lib.hid hkn
        have HON := Lib.hid hon
        clear hkn hon
        go_wp2_with fail
        refine (of2_any x y by' _ HOKX.out (by exact (World.cell?_alloc_lt _ _ _ (Nat.lt_of_lt_of_le hlt0 HG.out.size)).trans hcy.out)).mono ?_
        rintro e w' ⟨rfl, rfl⟩
        rw [HON.out]
        go_wp2_with fail
        go_roundw
        case rel =>
          refine ⟨i, j + 1, M ++ [x], rfl, by go_num, by omega, by omega, by simp [HM.out]; omega, by rw [HKN.out, HK.out], ?_, grown_bel HG.out (bal (bal (bre _) _) _)⟩
          rw [HKN.out]
          have h := HB2.out
          rw [show keepL y (rs.take j) ++ M ++ x :: rs.drop (j + 1) = keepL y (rs.take j) ++ (M ++ [x]) ++ rs.drop (j + 1) from by simp] at h
          exact (h.alloc _).alloc _
        case measure => simp [intOf]; omega
    · obtain rfl : j = n := by omega
      have hB' := HB.out
      rw [List.take_of_length_le (by rw [HN.out]; exact Nat.le_refl _), List.drop_of_length_le (by rw [HN.out]; exact Nat.le_refl _), List.append_nil] at hB'
      have hK' := HK.out
      rw [List.take_of_length_le (by rw [HN.out]; exact Nat.le_refl _)] at hK'
      have hlen : (rcs (keepL y rs ++ M) ++ rest).length = c * 4 := by
        have := HRL.out
        have := HM.out
        have := HN.out
        simp only [List.length_append, rcs_len] at *
        omega
      have hcl : ∀ ty, (Builtin.clear_ #[31] ty #[.slice (some ⟨g, i * 4, none⟩) (j - i) (c - i)]).run Tryz.prog wr = .ok (.tuple #[]) (wr.setCells g (i * 4) (zs4 (j - i))) := fun ty =>
        run_clear4 wr ty g (i * 4) (j - i) (c - i) (by omega) (fun q hq => by
          rw [hB'.cell]
          simp only [List.getElem?_toArray]
          rw [List.getElem?_eq_getElem (by rw [hlen]; omega)]
          rfl) (fun q _ => hB'.frozen _)
      have HB3 := Lib.hid hB'
      have HK3 := Lib.hid hK'
      have HL3 := Lib.hid hlen
      have k2 : (0 : Int) ≤ (i : Int) := by omega
      have k3 : (i : Int) ≤ (j : Int) := by omega
      have k4 : i ≤ j := by omega
      have k5 : i ≤ c := by omega
      have k6 : i < c := by omega
      clear hB' hK' hlen
      go_wp2_with (simp only [hcl])
      go_ret
      obtain ⟨cs', h1, h2, h3⟩ := blk_setCells (zs4 (j - i)) (i * 4) wr _ HB3.out
      rw [HK3.out]
      refine ⟨rfl, rcs_own hBg k5 hcm h1 (h2.trans HL3.out) ?_ HK3.out, grown_row HG.out (grown_setCells _ _ _)⟩
      rw [h3, rcs_append, List.append_assoc, List.take_append_of_le_length (by rw [rcs_len, HK3.out]; exact Nat.le_refl _), List.take_of_length_le (by rw [rcs_len, HK3.out]; exact Nat.le_refl _)]

set_option maxHeartbeats 1000000 in
theorem delF_none (A : Option Addr) (n c : Nat) (rs : List RC) (y : Int) (by' : Nat) (w : World) (hn : n ≤ 1000000000000) (hr : RdR w A n rs) (hok : ∀ r ∈ rs, r.ok) (hy : w.cell? ⟨by', 0, none⟩ = some (.int .i64 y)) (hi : idxI (endsB y) rs = -1) :
    Calls Tryz.prog 130 #[.slice A n c, .func (.func 131) #[] #[.pointer (some ⟨by', 0, none⟩)]] w fun e w' => e = .returned (.slice A n c) ∧ Below w.heap.size w w' := by
  have HI := Lib.hid hi
  have HR := Lib.hid hr
  have HOK := Lib.hid hok
  have HY := Lib.hid hy
  clear hi hr hok hy
  go_enter Tryz.func130, Tryz.ntmps130
  go_wp2_with (go_at_call 175; refine (indexF_any _ n c rs y by' w (by omega) HR.out HOK.out HY.out).mono ?_; rintro e w1 ⟨rfl, b1⟩; rw [HI.out]; have B1 := Lib.hid b1; clear b1)
  go_ret
  exact ⟨rfl, B1.out⟩

/-- the row, cut to those that do not end ahead of the row y. -/
theorem delF_any (B n c : Nat) (A : Option Addr) (rs : List RC) (y : Int) (by' : Nat) (w : World) (hown : w.ownsRow B 103 4 (.slice A n c) n (rcs rs)) (hn : rs.length = n) (hnb : n ≤ 1000000000000) (hok : ∀ r ∈ rs, r.ok) (hy : w.cell? ⟨by', 0, none⟩ = some (.int .i64 y)) (hby : ∀ g, (Value.slice A n c).ownBlock = some g → by' ≠ g) :
    Calls Tryz.prog 130 #[.slice A n c, .func (.func 131) #[] #[.pointer (some ⟨by', 0, none⟩)]] w fun e w' => e = .returned (.slice A (keepL y rs).length c) ∧ w'.ownsRow B 103 4 (.slice A (keepL y rs).length c) (keepL y rs).length (rcs (keepL y rs)) ∧ w.grownBy w' (Value.slice A n c).ownBlock := by
  cases hf : rs.findIdx? (endsB y) with
  | none =>
    have hi : idxI (endsB y) rs = -1 := by simp [idxI, hf]
    have hk := keepL_none hi
    rw [hk]
    have hr : RdR w A n rs := by
      rcases hown.2 with ⟨e, e0⟩ | ⟨g, cap, cur, e, _⟩
      · refine ⟨hn, fun h => absurd h (by omega)⟩
      · injection e with e1 _ _
        subst e1
        obtain ⟨_, _, _, rest, hb, _⟩ := own_rcs hown
        have := RdR.of_blk hb
        rw [hn] at this
        exact this
    refine (delF_none A n c rs y by' w hnb hr hok hy hi).mono fun e w' ⟨he, hb⟩ => ⟨by rw [hn]; exact he, ?_, grown_of_below hb _⟩
    rw [hn]
    exact ownsRow_below hown hb
  | some i0 =>
    obtain ⟨g, rfl⟩ : ∃ g, A = some ⟨g, 0, none⟩ := by
      rcases hown.2 with ⟨e, e0⟩ | ⟨g, cap, cur, e, _⟩
      · have := (keepL_first hf).2
        omega
      · injection e with e1 _ _
        exact ⟨g, e1⟩
    exact delF_go B g n c i0 rs y by' w hown hn hnb hok hy (hby g rfl) hf

end Go.Proofs.YtdaedkolpfkdjaaGreat
end

section
namespace Go.Proofs.YtdaedkolpfkdjaaGreat
open Go.RowKit Go.Shelf Go.Lib Go.Sort

theorem flat_rcs (d : Array RC) : flatK RC.cells 4 d = (rcs d.toList).toArray := by
  apply Array.ext
  · simp [rcs_len]
  · intro i h1 h2
    have hi : i < d.size * 4 := by simpa using h1
    have hq : i / 4 < d.size := by omega
    have hg : d.toList[i / 4]? = some d[i / 4] := by simp [hq]
    obtain ⟨a, b, c, e⟩ := rcs_at d.toList [] (i / 4) _ hg
    simp only [List.append_nil] at a b c e
    have hx := get_flatK RC.cells 4 d i hi
    rw [getElem!_pos _ i h1] at hx
    rw [hx, getElem!_pos d (i / 4) hq]
    have hr : ∀ v, (rcs d.toList)[i]? = some v → ((rcs d.toList).toArray[i]'h2) = v := fun v hv => by
      simp only [List.getElem_toArray]
      rw [List.getElem?_eq_getElem (by simpa using h2)] at hv
      exact Option.some.inj hv
    obtain ⟨q, hq'⟩ : ∃ q, i / 4 = q := ⟨_, rfl⟩
    simp only [hq'] at *
    have hm : i % 4 = 0 ∧ i = q * 4 ∨ i % 4 = 1 ∧ i = q * 4 + 1 ∨ i % 4 = 2 ∧ i = q * 4 + 1 + 1 ∨ i % 4 = 3 ∧ i = q * 4 + 1 + 1 + 1 := by omega
    rcases hm with ⟨h, hi'⟩ | ⟨h, hi'⟩ | ⟨h, hi'⟩ | ⟨h, hi'⟩
    · rw [hr _ (by rw [hi']; exact a), h]; rfl
    · rw [hr _ (by rw [hi']; exact b), h]; rfl
    · rw [hr _ (by rw [hi']; exact c), h]; rfl
    · rw [hr _ (by rw [hi']; exact e), h]; rfl

/-- what the sort leaves of the row's block, and of all else. -/
theorem sort_world {w : World} {g n : Nat} {t : TypeId} {rs : List RC} {rest : List Value} (h : Blk w g t (rcs rs ++ rest).toArray) (d : Array RC) (hs : d.size = rs.length) (os : Array Obj) :
    Blk (sortWorldK RC.cells 4 w g 0 n d os) g t (rcs d.toList ++ rest).toArray ∧ w.grownBy (sortWorldK RC.cells 4 w g 0 n d os) (some g) := by
  have hl := h.lt
  have hlen : (rcs d.toList).length = (rcs rs).length := by simp [rcs_len, hs]
  constructor
  · unfold Blk sortWorldK
    rw [heap_grow_old _ _ (by unfold putRowK; rw [size_putRow]; exact hl)]
    unfold putRowK putRow mapBlock
    simp only [Sort.ahead, Array.getElem?_modify, if_true]
    rw [show w.heap[g]? = _ from h]
    simp only [Option.map_some, onCells]
    congr 2
    rw [flat_rcs]
    unfold putCells
    apply Array.ext
    · simp [rcs_len, hs]
    · intro i h1 h2
      simp only [Array.getElem_mapIdx, List.getElem_toArray, Nat.zero_le, true_and, Nat.zero_add, Nat.sub_zero, List.size_toArray, id]
      split
      · rename_i hi
        rw [getElem!_pos _ i (by simpa using hi), List.getElem_toArray, List.getElem_append_left hi]
      · rename_i hi
        rw [List.getElem_append_right (by omega), List.getElem_append_right (by omega)]
        simp only [hlen]
  · refine ⟨rfl, rfl, rfl, ?_, fun i hi hn => ?_⟩
    · exact size_sortWorldK_c RC.cells 4 w g 0 n d os
    · unfold sortWorldK
      rw [heap_grow_old _ _ (by unfold putRowK; rw [size_putRow]; exact hi)]
      unfold putRowK putRow mapBlock
      simp only [Sort.ahead, Array.getElem?_modify]
      rw [if_neg (fun e => hn (by rw [e]))]
theorem holds_rcs {w : World} {g : Nat} {t : TypeId} {rs : List RC} {rest : List Value} (h : Blk w g t (rcs rs ++ rest).toArray) : HoldsK RC.cells 4 w g 0 rs.toArray := by
  unfold HoldsK
  rw [flat_rcs]
  intro j hj
  have hj' : j < (rcs rs).length := by simpa using hj
  rw [Nat.zero_add]
  refine ⟨h.cellV ?_, h.frozen j⟩
  rw [getElem!_pos _ j hj]
  simp only [List.getElem?_toArray, List.getElem_toArray, id]
  rw [List.getElem?_append_left hj', List.getElem?_eq_getElem hj']

theorem lt_cmpI (a b : Int) : decide (cmpI a b < 0) = decide (a < b) := by
  unfold cmpI
  by_cases h1 : a < b
  · simp [h1]
  · by_cases h2 : b < a <;> simp [h1, h2]
theorem ltX (x y : RC) : ltOf cmpX x y = decide (x.X < y.X) := lt_cmpI _ _
theorem ltYX (x y : RC) : ltOf cmpYX x y = decide (x.Y < y.Y ∨ (x.Y = y.Y ∧ x.X < y.X)) := by
  unfold ltOf cmpYX orI cmpI
  by_cases h1 : x.Y < y.Y
  · simp [h1]
  · by_cases h2 : y.Y < x.Y
    · have h3 : ¬ x.Y = y.Y := by omega
      simp [h1, h2, h3]
    · have h3 : x.Y = y.Y := by omega
      by_cases h4 : x.X < y.X
      · simp [h3, h4]
      · by_cases h5 : y.X < x.X <;> simp [h3, h4, h5]
theorem swoX : SWO (ltOf cmpX) where
  irrefl x := by rw [ltX]; simp
  trans x y z h1 h2 := by rw [ltX] at *; simp at *; omega
  ntrans x y z h1 h2 := by rw [ltX] at *; simp at *; omega
theorem swoYX : SWO (ltOf cmpYX) where
  irrefl x := by rw [ltYX]; simp
  trans x y z h1 h2 := by rw [ltYX] at *; simp at *; omega
  ntrans x y z h1 h2 := by rw [ltYX] at *; simp at *; omega

theorem Tryz.isAggR (w : World) : (isAgg 103).run Tryz.prog w = .ok true w := by kernel_rfl
theorem Tryz.sizeOfR (w : World) : (Go.sizeOf 103).run Tryz.prog w = .ok 4 w := by kernel_rfl
theorem cells_one (x : RC) : ∀ v ∈ x.cells, v.oneCell' = true := by
  intro v hv
  simp only [RC.cells, List.mem_cons, List.not_mem_nil, or_false] at hv
  rcases hv with rfl | rfl | rfl | rfl <;> rfl

theorem sortF_any (cf : RC → RC → Int) (hO : SWO (ltOf cf)) (gf : Nat) (eg : ∀ args w, (callFunc gf args).run Tryz.prog w = .ok (.enter gf args) w) (hcmp : ∀ blk off size w, CmpLays Tryz.prog gf #[] RC.cells 4 cf blk off size w)
    (B n c : Nat) (A : Option Addr) (rs : List RC) (w : World) (hown : w.ownsRow B 103 4 (.slice A n c) n (rcs rs)) (hn : rs.length = n) (hnb : n ≤ 1000000000000) :
    Calls Tryz.prog 125 #[.slice A n c, .func (.func gf) #[] #[]] w fun e w' => ∃ rs' : List RC, e = .returned (.tuple #[]) ∧ rs'.Perm rs ∧ rs'.Pairwise (fun x y => ltOf cf y x = false) ∧ w'.ownsRow B 103 4 (.slice A n c) n (rcs rs') ∧ w.grownBy w' (Value.slice A n c).ownBlock := by
  subst hn
  rcases hown.2 with ⟨e, e0⟩ | ⟨g, cap, cur, e, _⟩
  · obtain rfl : rs = [] := List.eq_nil_of_length_eq_zero e0
    have h := AnyF.slices_SortFunc_none Tryz.sortRect A c (.func (.func gf) #[] #[]) w
    refine (show Calls Tryz.prog 125 _ _ _ from h).mono fun e' w' ⟨he, hw⟩ => ⟨[], he, List.Perm.refl _, List.Pairwise.nil, ?_, ?_⟩
    · rw [hw]; exact hown
    · rw [hw]; exact grown_of_below (bre w) _
  · injection e with e1 _ _
    subst e1
    obtain ⟨hB, hnc, hcm, rest, hb, hl⟩ := own_rcs hown
    have h := AnyQ.slices_SortFunc Tryz.sortRect 4 Tryz.isAggR Tryz.sizeOfR RC.cells (fun _ => rfl) cells_one cf hO gf #[] g 0 c rs.toArray w eg (hcmp _ _ _ _) (holds_rcs hb) hb.lt (by simp; omega)
    simp only [List.size_toArray] at h
    refine (show Calls Tryz.prog 125 _ _ _ from h).mono fun e' w' ⟨he, d, m, os, hp, hs, hw⟩ => ?_
    obtain ⟨hp1, _, hp3⟩ := hp
    have hds : d.size = rs.length := by simpa using hp1
    subst hw
    obtain ⟨k1, k2⟩ := sort_world (n := m) hb d hds os
    refine ⟨d.toList, he, ?_, ?_, ?_, k2⟩
    · rw [← hds] at hp3
      simp only [Array.extract_size] at hp3
      rw [show d.size = rs.toArray.size from by simpa using hds] at hp3
      simpa using hp3
    · rw [List.pairwise_iff_getElem]
      intro i j hi hj hij
      have := hs i j (Nat.zero_le _) hij (by simp at hj; omega)
      rw [getElem!_pos d j (by simpa using hj), getElem!_pos d i (by simpa using hi)] at this
      simpa using this
    · refine rcs_own hB hnc hcm k1 ?_ ?_ (by simpa using hds)
      · have := hl
        simp only [List.length_append, rcs_len] at this ⊢
        simp [hds]
        omega
      · rw [List.take_append_of_le_length (by rw [rcs_len]; simp [hds]), List.take_of_length_le (by rw [rcs_len]; simp [hds])]

theorem lays3 (blk off size : Nat) (w : World) : CmpLays Tryz.prog 132 #[] RC.cells 4 cmpX blk off size w :=
  fun _ _ _ _ x y => (of3_any x y _).mono fun e w' ⟨he, hw⟩ => ⟨he, 0, _, hw.trans (by rw [alloc_eq_grow, alloc_eq_grow, grow_grow]; rfl)⟩
theorem lays1 (blk off size : Nat) (w : World) : CmpLays Tryz.prog 126 #[] RC.cells 4 cmpYX blk off size w :=
  fun _ _ _ _ x y => (of1_any x y _).mono fun e w' ⟨he, hw⟩ => ⟨he, 1, _, hw.trans (by rw [alloc_eq_grow, alloc_eq_grow, alloc_eq_grow, grow_grow, grow_grow]; rfl)⟩

/-- sorted by rows, then across. -/
theorem sortYX_any (B n c : Nat) (A : Option Addr) (rs : List RC) (w : World) (hown : w.ownsRow B 103 4 (.slice A n c) n (rcs rs)) (hn : rs.length = n) (hnb : n ≤ 1000000000000) :
    Calls Tryz.prog 125 #[.slice A n c, .func (.func 126) #[] #[]] w fun e w' => ∃ rs' : List RC, e = .returned (.tuple #[]) ∧ rs'.Perm rs ∧ rs'.Pairwise (fun x y => ltOf cmpYX y x = false) ∧ w'.ownsRow B 103 4 (.slice A n c) n (rcs rs') ∧ w.grownBy w' (Value.slice A n c).ownBlock :=
  sortF_any cmpYX swoYX 126 (enters_of Tryz.func126 (by kernel_rfl) rfl) lays1 B n c A rs w hown hn hnb
theorem sortX_any (B n c : Nat) (A : Option Addr) (rs : List RC) (w : World) (hown : w.ownsRow B 103 4 (.slice A n c) n (rcs rs)) (hn : rs.length = n) (hnb : n ≤ 1000000000000) :
    Calls Tryz.prog 125 #[.slice A n c, .func (.func 132) #[] #[]] w fun e w' => ∃ rs' : List RC, e = .returned (.tuple #[]) ∧ rs'.Perm rs ∧ rs'.Pairwise (fun x y => ltOf cmpX y x = false) ∧ w'.ownsRow B 103 4 (.slice A n c) n (rcs rs') ∧ w.grownBy w' (Value.slice A n c).ownBlock :=
  sortF_any cmpX swoX 132 (enters_of Tryz.func132 (by kernel_rfl) rfl) lays3 B n c A rs w hown hn hnb

end Go.Proofs.YtdaedkolpfkdjaaGreat
end

section
namespace Go.Proofs.YtdaedkolpfkdjaaGreat
open Go.RowKit

/-- numbers as values. -/
def I64 (l : List Int) : List Value := l.map (Value.int .i64)
theorem Tryz.infoI : (Tryz.prog.info? 3).map (fun i => (i.zero, i.size, i.bytes)) = some (some (.int .i64 0), 1, 8) := by kernel_rfl

theorem undrewN (w : World) (q : Nat) : Below w.heap.size w (w.drewN q) := below_drewN (bre w) q
theorem two_newI (w : World) (x y : Value) (t : TypeId) : ∀ j u, [x, y][j]? = some u → (w.alloc (.cells #[x, y] t)).cell? ((⟨w.heap.size, 0, none⟩ : Addr).add j) = some u := by
  intro j u hu
  match j, hu with
  | 0, hu => simp at hu; subst hu; simp [Addr.add]
  | 1, hu => simp at hu; subst hu; simp [Addr.add]
theorem own_I64 {w : World} {B n : Nat} {e : TypeId} {v : Value} {zs : List Int} (h : w.ownsRow B e 1 v n (I64 zs)) (hn : 0 < n) : ∃ g c, v = .slice (some ⟨g, 0, none⟩) n c ∧ B ≤ g ∧ n ≤ c ∧ c ≤ maxLen ∧ ∃ rest, Blk w g e (I64 zs ++ rest).toArray := by
  rcases h.2 with ⟨_, h0⟩ | ⟨g, cap, cur, e1, hb, hg, h1, h2, h3, h4⟩
  · omega
  · refine ⟨g, cap, e1, hb, h1, h2, cur.toList.drop (n * 1), ?_⟩
    rw [← h4, List.take_append_drop]
    exact hg

theorem own_lt {w : World} {base e size n : Nat} {v : Value} {xs : List Value} (h : w.ownsRow base e size v n xs) : ∀ g, v.ownBlock = some g → g < w.heap.size := by
  intro g hg
  rcases h.2 with ⟨e1, _⟩ | ⟨g', cap, cur, e1, _, hk, _⟩
  · rw [e1] at hg
    cases hg
  · rw [e1] at hg
    cases hg
    exact (Array.getElem?_eq_some_iff.1 hk).1

end Go.Proofs.YtdaedkolpfkdjaaGreat
end

section
namespace Go.Proofs.YtdaedkolpfkdjaaGreat
open Go.RowKit Go.Shelf Go.Lib Go.Sort

/-- where rectangles begin and end. -/
def ysL (rs : List RC) : List Int := rs.flatMap fun r => [r.Y, r.Y + r.H]
theorem ysL_len (rs : List RC) : (ysL rs).length = 2 * rs.length := by
  induction rs with
  | nil => rfl
  | cons r rs ih => simp [ysL] at ih ⊢; omega
theorem ysL_snoc (rs : List RC) (r : RC) : ysL (rs ++ [r]) = ysL rs ++ [r.Y, r.Y + r.H] := by simp [ysL]
theorem mem_ysL (rs : List RC) (y : Int) : y ∈ ysL rs ↔ ∃ r ∈ rs, y = r.Y ∨ y = r.Y + r.H := by simp [ysL]
/-- what the sort of numbers leaves. -/
theorem sort_worldI {w : World} {g n : Nat} {t : TypeId} {zs : List Int} {rest : List Value} (h : Blk w g t (I64 zs ++ rest).toArray) (d : Array Int) (hs : d.size = zs.length) (os : Array Obj) :
    Blk (grow (putRow (Value.int .i64) (Sort.ahead w n) g 0 d) os) g t (I64 d.toList ++ rest).toArray ∧ w.grownBy (grow (putRow (Value.int .i64) (Sort.ahead w n) g 0 d) os) (some g) := by
  have hl := h.lt
  constructor
  · unfold Blk
    rw [heap_grow_old _ _ (by rw [size_putRow]; exact hl)]
    unfold putRow mapBlock
    simp only [Sort.ahead, Array.getElem?_modify, if_true]
    rw [show w.heap[g]? = _ from h]
    simp only [Option.map_some, onCells]
    congr 2
    unfold putCells
    apply Array.ext
    · simp [I64, hs]
    · intro i h1 h2
      simp only [Array.getElem_mapIdx, List.getElem_toArray, Nat.zero_le, true_and, Nat.zero_add, Nat.sub_zero]
      split
      · rename_i hi
        rw [getElem!_pos _ i hi, List.getElem_append_left (by simpa [I64] using hi)]
        simp [I64]
      · rename_i hi
        rw [List.getElem_append_right (by simp [I64]; omega), List.getElem_append_right (by simp [I64]; omega)]
        simp [I64, hs]
  · refine ⟨rfl, rfl, rfl, by simp, fun i hi hn => ?_⟩
    rw [heap_grow_old _ _ (by rw [size_putRow]; exact hi)]
    unfold putRow mapBlock
    simp only [Sort.ahead, Array.getElem?_modify]
    rw [if_neg (fun e => hn (by rw [e]))]

theorem holds_I64 {w : World} {g : Nat} {t : TypeId} {zs : List Int} {rest : List Value} (h : Blk w g t (I64 zs ++ rest).toArray) : Holds (Value.int .i64) w g 0 zs.toArray := by
  intro j hj
  have hj' : j < zs.length := by simpa using hj
  rw [Nat.zero_add]
  refine ⟨h.cellV ?_, h.frozen j⟩
  rw [getElem!_pos _ j hj]
  simp only [List.getElem?_toArray, List.getElem_toArray, I64]
  rw [List.getElem?_append_left (by simpa using hj'), List.getElem?_map, List.getElem?_eq_getElem hj']
  rfl
set_option maxRecDepth 100000 in
set_option maxHeartbeats 2000000 in
theorem edges_any (A : Option Addr) (n c : Nat) (rs : List RC) (w : World) (hn : 0 < n) (hnb : n ≤ 1000000000) (hr : RdR w A n rs) (hok : ∀ r ∈ rs, r.ok) :
    Calls Tryz.prog 129 #[.slice A n c] w fun e w' => ∃ (g c' : Nat) (ys : List Int), e = .returned (.slice (some ⟨g, 0, none⟩) ys.length c') ∧ Rd w' (some ⟨g, 0, none⟩) ys.length (I64 ys) ∧ w.heap.size ≤ g ∧ ys.Pairwise (· < ·) ∧ (∀ y, y ∈ ys ↔ y ∈ ysL rs) ∧ Below w.heap.size w w' := by
  obtain ⟨i0, hi0, hz0, hz1, hz2⟩ := info_parts Tryz.infoI
  have HR := Lib.hid hr
  have HOK := Lib.hid hok
  clear hr hok
  go_enter Tryz.func129, Tryz.ntmps129
  go_wp2_with (at_make; refine wpList_make_own _ rfl _ _ 243 rfl w.heap.size 3 i0 _ 1 Tryz.underlying243 hi0 hz0 hz1 _ _ _ (2 * n) rfl rfl (by simp) (by rw [hz2]; omega) (by simp only [maxLen]; omega) (Nat.le_refl _) ?_; intro w1 hown hg1; have HO := Lib.hid hown; have hB1 : Below w.heap.size w w1 := (Below.refl _ w).grown hg1 (Nat.le_refl _) (by simp))
  have hst : w1.ownsRow w.heap.size 3 1 (.slice (some ⟨w.heap.size, 0, none⟩) 0 (2 * n)) (2 * 0) (I64 (ysL (rs.take 0))) := by simpa [I64, ysL] using HO.out
  have HST := Lib.hid hst
  clear hst HO
  go_loopw [3, 12] (fun v i wr => ∃ k : Nat, i = .int .i64 k ∧ k ≤ n ∧ wr.ownsRow w.heap.size 3 1 v (2 * k) (I64 (ysL (rs.take k))) ∧ Below w.heap.size w wr) (fun _ i _ => n - (intOf i).toNat)
  case atStart => exact ⟨0, rfl, by omega, HST.out, hB1⟩
  case round =>
    obtain ⟨k, rfl, hk, ho, hB⟩ := hrel
    have HO := Lib.hid ho
    have HB := Lib.hid hB
    have hBs := hB.size
    clear ho hB HST
    by_cases hlt : k < n
    · obtain ⟨x, hx⟩ : ∃ x, rs[k]? = some x := ⟨_, List.getElem?_eq_getElem (by have := HR.out.1; omega)⟩
      obtain ⟨b, off, rfl, hbl, hc⟩ := (HR.out.below HB.out).2 (by omega)
      obtain ⟨x0, x1, x2, x3⟩ := hc k x hx
      obtain ⟨_, _, h3, h4, _, _, h7, h8⟩ := HOK.out x (List.mem_of_getElem? hx)
      have htk : rs.take (k + 1) = rs.take k ++ [x] := by rw [List.take_add_one, hx]; rfl
      have HTK := Lib.hid htk
      have k0 : (0 : Int) ≤ (k : Int) := by omega
      have k1 : (k : Int) < (n : Int) := by omega
      clear hc hx htk
      go_upto_region 5 with fail
      have BV := Lib.hid (bstep HB.out (bal (bre wr) (.cells #[.int .i64 x.X, .int .i64 x.Y, .int .i64 x.W, .int .i64 x.H] 103)))
      have OV := Lib.hid (HO.out.alloc (.cells #[.int .i64 x.X, .int .i64 x.Y, .int .i64 x.W, .int .i64 x.H] 103))
      have bx := Blk.new wr 103 #[.int .i64 x.X, .int .i64 x.Y, .int .i64 x.W, .int .i64 x.H]
      obtain ⟨V, hV⟩ : ∃ V, wr.alloc (.cells #[.int .i64 x.X, .int .i64 x.Y, .int .i64 x.W, .int .i64 x.H] 103) = V := ⟨_, rfl⟩
      obtain ⟨gb, hgb⟩ : ∃ gb, wr.heap.size = gb := ⟨_, rfl⟩
      rw [hV] at BV OV bx ⊢
      rw [hgb] at bx ⊢
      have v1 := bx.cellV (i := 1) (v := .int .i64 x.Y) rfl
      have v3 := bx.cellV (i := 3) (v := .int .i64 x.H) rfl
      have vs := BV.out.size
      clear hV hgb x0 x1 x2 x3 bx
      go_wp2_with (at_builtin; refine wpList_append_own _ rfl _ _ 243 rfl w.heap.size 3 i0 _ 1 8 Tryz.underlying243 hi0 hz0 hz1 hz2 rfl (by decide) _ _ _ rfl (OV.out.alloc _) ⟨V.heap.size, 0, none⟩ 2 2 [.int .i64 x.Y, .int .i64 (x.Y + x.H)] rfl rfl (two_newI _ _ _ _) (by simp [Value.oneCell']) (by simp only [maxLen]; omega) (by omega) (by simp; omega) ?_; intro v' w4 hown' hgrow _)
      have hB4 : Below w.heap.size w w4 := (BV.out.alloc BV.out.size _).grown hgrow (by simp; omega) (own_ge OV.out)
      go_roundw
      case rel => exact ⟨k + 1, by go_num, by omega, by rw [HTK.out, ysL_snoc, I64, List.map_append, show 2 * (k + 1) = 2 * k + 2 from by omega]; exact hown', hB4⟩
      case measure => simp [intOf]; omega
    · obtain rfl : k = n := by omega
      have ho := HO.out
      rw [List.take_of_length_le (by rw [HR.out.1]; exact Nat.le_refl _)] at ho
      obtain ⟨g, cap, hv, hgg, hcap, hcm, rest, hb⟩ := own_I64 ho (by omega)
      subst hv
      have hlen : (ysL rs).length = 2 * k := by rw [ysL_len, HR.out.1]
      have HBK := Lib.hid hb
      have HLEN := Lib.hid hlen
      clear ho hb hlen HO
      go_wp2_with fail
      have hS := Tryz.slices_Sort_int g 0 cap (ysL rs) wr (holds_I64 HBK.out) HBK.out.lt (by rw [HLEN.out]; omega)
      rw [HLEN.out] at hS
      refine hS.mono ?_
      rintro e w5 ⟨rfl, m, os, hw5⟩
      obtain ⟨S, hSs⟩ : ∃ S, (ysL rs).mergeSort (fun x y => decide (x ≤ y)) = S := ⟨_, rfl⟩
      rw [hSs] at hw5
      have hperm : S.Perm (ysL rs) := by rw [← hSs]; exact List.mergeSort_perm _ _
      have hsort : S.Pairwise (· ≤ ·) := by
        rw [← hSs]
        have := List.pairwise_mergeSort (le := fun x y : Int => decide (x ≤ y)) (by intro a b c h1 h2; simp at *; omega) (by intro a b; simp; omega) (ysL rs)
        exact this.imp (by intro a b h; simpa using h)
      have hSl : S.length = 2 * k := by rw [hperm.length_eq, HLEN.out]
      obtain ⟨k5, k6⟩ := sort_worldI (n := m) HBK.out S.toArray (by rw [List.size_toArray, hSl, HLEN.out]) os
      rw [← hw5] at k5 k6
      have HB5 := Lib.hid k5
      have B5 : Hid (Below w.heap.size w w5) := Lib.hid (HB.out.grown k6 HB.out.size (fun q e => by cases e; exact hgg))
      have HSL := Lib.hid hSl
      have HSO := Lib.hid hsort
      have HPE := Lib.hid hperm
      clear hS hw5 hSs hperm hsort hSl k5 k6
      go_wp2_with fail
      have hcell : ∀ j, j < S.length → w5.cell? ⟨g, 0 + j, none⟩ = some (.int .i64 (S.getD j 0)) := fun j hj => by
        rw [Nat.zero_add]
        refine HB5.out.cellV ?_
        simp only [List.getElem?_toArray, I64]
        rw [List.getElem?_append_left (by simpa using hj), List.getElem?_map, List.getElem?_eq_getElem hj, List.getD_eq_getElem?_getD, List.getElem?_eq_getElem hj]
        rfl
      have hC := Tryz.slices_Compact_int_cells g 0 (2 * k) cap S w5 (by rw [HSL.out]; exact Nat.le_refl _) (by omega) hcap hcell (fun j _ => HB5.out.frozen _)
      rw [List.take_of_length_le (by rw [HSL.out]; exact Nat.le_refl _)] at hC
      obtain ⟨c1, c2⟩ := compact_rises HSO.out
      obtain ⟨ys, hys⟩ : ∃ ys, Lib.compact S = ys := ⟨_, rfl⟩
      have hyl : ys.length ≤ 2 * k := by rw [← hys, ← HSL.out]; exact Lib.compact_length_le S
      rw [hys] at hC c1 c2
      refine hC.mono ?_
      rintro e w6 ⟨rfl, q, hw6⟩
      have HY1 := Lib.hid c1
      have HY2 := Lib.hid c2
      have HW6 := Lib.hid hw6
      have HC5 := Lib.hid hcell
      clear hC c1 c2 hys hcell hw6
      go_wp2_with fail
      go_ret
      have hvl : (I64 (ys ++ List.replicate (2 * k - ys.length) 0)).length = 2 * k := by simp [I64]; omega
      refine ⟨g, cap, ys, rfl, ⟨by simp [I64], fun _ => ⟨g, 0, rfl, ?_, fun j u hj => ?_⟩⟩, hgg, HY1.out, fun y => (HY2.out y).trans HPE.out.mem_iff, ?_⟩
      · have h1 := HB5.out.lt
        have h2 := (grown_setCells (g := g) (I64 (ys ++ List.replicate (2 * k - ys.length) 0)) 0 (w5.drewN q)).size
        rw [HW6.out]
        exact Nat.lt_of_lt_of_le h1 h2
      · rw [HW6.out]
        have hjl : j < ys.length := by have := (List.getElem?_eq_some_iff.1 hj).1; simpa [I64] using this
        have h := World.cell?_setCells_in g (I64 (ys ++ List.replicate (2 * k - ys.length) 0)) 0 (w5.drewN q) (fun i hi => by
          have := HC5.out i (by rw [HSL.out]; omega)
          rw [show (w5.drewN q).cell? ⟨g, 0 + i, none⟩ = w5.cell? ⟨g, 0 + i, none⟩ from rfl, this]
          rfl) j (by omega)
        refine h.trans ?_
        rw [← hj]
        simp only [I64, List.getElem_map, List.getElem?_map]
        rw [List.getElem?_eq_getElem hjl, List.getElem_append_left hjl]
        rfl
      · rw [HW6.out]
        refine B5.out.grown (grown_row (g := g) (grown_of_below (undrewN w5 q) _) (grown_setCells _ _ _)) B5.out.size (fun q' e => by cases e; exact hgg)

end Go.Proofs.YtdaedkolpfkdjaaGreat
end
