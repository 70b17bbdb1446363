/-
  slices.SortFunc at rectangles, by band's two comparers: a permutation of the row, sorted.
  Lists of numbers in memory.
  The walk of band.edges: the rows at which rectangles begin or end, rising, each once.
-/
import Derived.Test.YtdaedkolpfkdjaaGreatShelf
import Derived.Test.YtdaedkolpfkdjaaGreatZT06
import Derived.Shelf.SlSortCmp.NoneTotal
section
namespace Go.Proofs.YtdaedkolpfkdjaaGreat
open Go.RowKit Go.Shelf Go.Lib Go.Sort

theorem flat_rcs (d : Array RC) : flatK RC.cells 4 d = (rcs d.toList).toArray := by
  apply Array.ext
  · simp [rcs_len]
  · intro i h1 h2
    have hi : i < d.size * 4 := by simpa using h1
    have hq : i / 4 < d.size := by omega
    have hg : d.toList[i / 4]? = some d[i / 4] := by simp [hq]
    obtain ⟨a, b, c, e⟩ := rcs_at d.toList [] (i / 4) _ hg
    simp only [List.append_nil] at a b c e
    have hx := get_flatK RC.cells 4 d i hi
    rw [getElem!_pos _ i h1] at hx
    rw [hx, getElem!_pos d (i / 4) hq]
    have hr : ∀ v, (rcs d.toList)[i]? = some v → ((rcs d.toList).toArray[i]'h2) = v := fun v hv => by
      simp only [List.getElem_toArray]
      rw [List.getElem?_eq_getElem (by simpa using h2)] at hv
      exact Option.some.inj hv
    obtain ⟨q, hq'⟩ : ∃ q, i / 4 = q := ⟨_, rfl⟩
    simp only [hq'] at *
    have hm : i % 4 = 0 ∧ i = q * 4 ∨ i % 4 = 1 ∧ i = q * 4 + 1 ∨ i % 4 = 2 ∧ i = q * 4 + 1 + 1 ∨ i % 4 = 3 ∧ i = q * 4 + 1 + 1 + 1 := by omega
    rcases hm with ⟨h, hi'⟩ | ⟨h, hi'⟩ | ⟨h, hi'⟩ | ⟨h, hi'⟩
    · rw [hr _ (by rw [hi']; exact a), h]; rfl
    · rw [hr _ (by rw [hi']; exact b), h]; rfl
    · rw [hr _ (by rw [hi']; exact c), h]; rfl
    · rw [hr _ (by rw [hi']; exact e), h]; rfl

/-- what the sort leaves of the row's block, and of all else. -/
theorem sort_world {w : World} {g n : Nat} {t : TypeId} {rs : List RC} {rest : List Value} (h : Blk w g t (rcs rs ++ rest).toArray) (d : Array RC) (hs : d.size = rs.length) (os : Array Obj) :
    Blk (sortWorldK RC.cells 4 w g 0 n d os) g t (rcs d.toList ++ rest).toArray ∧ w.grownBy (sortWorldK RC.cells 4 w g 0 n d os) (some g) := by
  have hl := h.lt
  have hlen : (rcs d.toList).length = (rcs rs).length := by simp [rcs_len, hs]
  constructor
  · unfold Blk sortWorldK
    rw [heap_grow_old _ _ (by unfold putRowK; rw [size_putRow]; exact hl)]
    unfold putRowK putRow mapBlock
    simp only [Sort.ahead, Array.getElem?_modify, if_true]
    rw [show w.heap[g]? = _ from h]
    simp only [Option.map_some, onCells]
    congr 2
    rw [flat_rcs]
    unfold putCells
    apply Array.ext
    · simp [rcs_len, hs]
    · intro i h1 h2
      simp only [Array.getElem_mapIdx, List.getElem_toArray, Nat.zero_le, true_and, Nat.zero_add, Nat.sub_zero, List.size_toArray, id]
      split
      · rename_i hi
        rw [getElem!_pos _ i (by simpa using hi), List.getElem_toArray, List.getElem_append_left hi]
      · rename_i hi
        rw [List.getElem_append_right (by omega), List.getElem_append_right (by omega)]
        simp only [hlen]
  · refine ⟨rfl, rfl, rfl, ?_, fun i hi hn => ?_⟩
    · exact size_sortWorldK_c RC.cells 4 w g 0 n d os
    · unfold sortWorldK
      rw [heap_grow_old _ _ (by unfold putRowK; rw [size_putRow]; exact hi)]
      unfold putRowK putRow mapBlock
      simp only [Sort.ahead, Array.getElem?_modify]
      rw [if_neg (fun e => hn (by rw [e]))]
theorem holds_rcs {w : World} {g : Nat} {t : TypeId} {rs : List RC} {rest : List Value} (h : Blk w g t (rcs rs ++ rest).toArray) : HoldsK RC.cells 4 w g 0 rs.toArray := by
  unfold HoldsK
  rw [flat_rcs]
  intro j hj
  have hj' : j < (rcs rs).length := by simpa using hj
  rw [Nat.zero_add]
  refine ⟨h.cellV ?_, h.frozen j⟩
  rw [getElem!_pos _ j hj]
  simp only [List.getElem?_toArray, List.getElem_toArray, id]
  rw [List.getElem?_append_left hj', List.getElem?_eq_getElem hj']

theorem lt_cmpI (a b : Int) : decide (cmpI a b < 0) = decide (a < b) := by
  unfold cmpI
  by_cases h1 : a < b
  · simp [h1]
  · by_cases h2 : b < a <;> simp [h1, h2]
theorem ltX (x y : RC) : ltOf cmpX x y = decide (x.X < y.X) := lt_cmpI _ _
theorem ltYX (x y : RC) : ltOf cmpYX x y = decide (x.Y < y.Y ∨ (x.Y = y.Y ∧ x.X < y.X)) := by
  unfold ltOf cmpYX orI cmpI
  by_cases h1 : x.Y < y.Y
  · simp [h1]
  · by_cases h2 : y.Y < x.Y
    · have h3 : ¬ x.Y = y.Y := by omega
      simp [h1, h2, h3]
    · have h3 : x.Y = y.Y := by omega
      by_cases h4 : x.X < y.X
      · simp [h3, h4]
      · by_cases h5 : y.X < x.X <;> simp [h3, h4, h5]
theorem swoX : SWO (ltOf cmpX) where
  irrefl x := by rw [ltX]; simp
  trans x y z h1 h2 := by rw [ltX] at *; simp at *; omega
  ntrans x y z h1 h2 := by rw [ltX] at *; simp at *; omega
theorem swoYX : SWO (ltOf cmpYX) where
  irrefl x := by rw [ltYX]; simp
  trans x y z h1 h2 := by rw [ltYX] at *; simp at *; omega
  ntrans x y z h1 h2 := by rw [ltYX] at *; simp at *; omega

theorem Tryz.isAggR (w : World) : (isAgg 103).run Tryz.prog w = .ok true w := by kernel_rfl
theorem Tryz.sizeOfR (w : World) : (Go.sizeOf 103).run Tryz.prog w = .ok 4 w := by kernel_rfl
theorem cells_one (x : RC) : ∀ v ∈ x.cells, v.oneCell' = true := by
  intro v hv
  simp only [RC.cells, List.mem_cons, List.not_mem_nil, or_false] at hv
  rcases hv with rfl | rfl | rfl | rfl <;> rfl

theorem sortF_any (cf : RC → RC → Int) (hO : SWO (ltOf cf)) (gf : Nat) (eg : ∀ args w, (callFunc gf args).run Tryz.prog w = .ok (.enter gf args) w) (hcmp : ∀ blk off size w, CmpLays Tryz.prog gf #[] RC.cells 4 cf blk off size w)
    (B n c : Nat) (A : Option Addr) (rs : List RC) (w : World) (hown : w.ownsRow B 103 4 (.slice A n c) n (rcs rs)) (hn : rs.length = n) (hnb : n ≤ 1000000000000) :
    Calls Tryz.prog 125 #[.slice A n c, .func (.func gf) #[] #[]] w fun e w' => ∃ rs' : List RC, e = .returned (.tuple #[]) ∧ rs'.Perm rs ∧ rs'.Pairwise (fun x y => ltOf cf y x = false) ∧ w'.ownsRow B 103 4 (.slice A n c) n (rcs rs') ∧ w.grownBy w' (Value.slice A n c).ownBlock := by
  subst hn
  rcases hown.2 with ⟨e, e0⟩ | ⟨g, cap, cur, e, _⟩
  · obtain rfl : rs = [] := List.eq_nil_of_length_eq_zero e0
    have h := AnyF.slices_SortFunc_none Tryz.sortRect A c (.func (.func gf) #[] #[]) w
    refine (show Calls Tryz.prog 125 _ _ _ from h).mono fun e' w' ⟨he, hw⟩ => ⟨[], he, List.Perm.refl _, List.Pairwise.nil, ?_, ?_⟩
    · rw [hw]; exact hown
    · rw [hw]; exact grown_of_below (bre w) _
  · injection e with e1 _ _
    subst e1
    obtain ⟨hB, hnc, hcm, rest, hb, hl⟩ := own_rcs hown
    have h := AnyQ.slices_SortFunc Tryz.sortRect 4 Tryz.isAggR Tryz.sizeOfR RC.cells (fun _ => rfl) cells_one cf hO gf #[] g 0 c rs.toArray w eg (hcmp _ _ _ _) (holds_rcs hb) hb.lt (by simp; omega)
    simp only [List.size_toArray] at h
    refine (show Calls Tryz.prog 125 _ _ _ from h).mono fun e' w' ⟨he, d, m, os, hp, hs, hw⟩ => ?_
    obtain ⟨hp1, _, hp3⟩ := hp
    have hds : d.size = rs.length := by simpa using hp1
    subst hw
    obtain ⟨k1, k2⟩ := sort_world (n := m) hb d hds os
    refine ⟨d.toList, he, ?_, ?_, ?_, k2⟩
    · rw [← hds] at hp3
      simp only [Array.extract_size] at hp3
      rw [show d.size = rs.toArray.size from by simpa using hds] at hp3
      simpa using hp3
    · rw [List.pairwise_iff_getElem]
      intro i j hi hj hij
      have := hs i j (Nat.zero_le _) hij (by simp at hj; omega)
      rw [getElem!_pos d j (by simpa using hj), getElem!_pos d i (by simpa using hi)] at this
      simpa using this
    · refine rcs_own hB hnc hcm k1 ?_ ?_ (by simpa using hds)
      · have := hl
        simp only [List.length_append, rcs_len] at this ⊢
        simp [hds]
        omega
      · rw [List.take_append_of_le_length (by rw [rcs_len]; simp [hds]), List.take_of_length_le (by rw [rcs_len]; simp [hds])]

theorem lays3 (blk off size : Nat) (w : World) : CmpLays Tryz.prog 132 #[] RC.cells 4 cmpX blk off size w :=
  fun _ _ _ _ x y => (of3_any x y _).mono fun e w' ⟨he, hw⟩ => ⟨he, 0, _, hw.trans (by rw [alloc_eq_grow, alloc_eq_grow, grow_grow]; rfl)⟩
theorem lays1 (blk off size : Nat) (w : World) : CmpLays Tryz.prog 126 #[] RC.cells 4 cmpYX blk off size w :=
  fun _ _ _ _ x y => (of1_any x y _).mono fun e w' ⟨he, hw⟩ => ⟨he, 1, _, hw.trans (by rw [alloc_eq_grow, alloc_eq_grow, alloc_eq_grow, grow_grow, grow_grow]; rfl)⟩

/-- sorted by rows, then across. -/
theorem sortYX_any (B n c : Nat) (A : Option Addr) (rs : List RC) (w : World) (hown : w.ownsRow B 103 4 (.slice A n c) n (rcs rs)) (hn : rs.length = n) (hnb : n ≤ 1000000000000) :
    Calls Tryz.prog 125 #[.slice A n c, .func (.func 126) #[] #[]] w fun e w' => ∃ rs' : List RC, e = .returned (.tuple #[]) ∧ rs'.Perm rs ∧ rs'.Pairwise (fun x y => ltOf cmpYX y x = false) ∧ w'.ownsRow B 103 4 (.slice A n c) n (rcs rs') ∧ w.grownBy w' (Value.slice A n c).ownBlock :=
  sortF_any cmpYX swoYX 126 (enters_of Tryz.func126 (by kernel_rfl) rfl) lays1 B n c A rs w hown hn hnb
theorem sortX_any (B n c : Nat) (A : Option Addr) (rs : List RC) (w : World) (hown : w.ownsRow B 103 4 (.slice A n c) n (rcs rs)) (hn : rs.length = n) (hnb : n ≤ 1000000000000) :
    Calls Tryz.prog 125 #[.slice A n c, .func (.func 132) #[] #[]] w fun e w' => ∃ rs' : List RC, e = .returned (.tuple #[]) ∧ rs'.Perm rs ∧ rs'.Pairwise (fun x y => ltOf cmpX y x = false) ∧ w'.ownsRow B 103 4 (.slice A n c) n (rcs rs') ∧ w.grownBy w' (Value.slice A n c).ownBlock :=
  sortF_any cmpX swoX 132 (enters_of Tryz.func132 (by kernel_rfl) rfl) lays3 B n c A rs w hown hn hnb

end Go.Proofs.YtdaedkolpfkdjaaGreat
end

section
namespace Go.Proofs.YtdaedkolpfkdjaaGreat
open Go.RowKit

/-- numbers as values. -/
def I64 (l : List Int) : List Value := l.map (Value.int .i64)
theorem Tryz.infoI : (Tryz.prog.info? 3).map (fun i => (i.zero, i.size, i.bytes)) = some (some (.int .i64 0), 1, 8) := by kernel_rfl

theorem undrewN (w : World) (q : Nat) : Below w.heap.size w (w.drewN q) := below_drewN (bre w) q
theorem two_newI (w : World) (x y : Value) (t : TypeId) : ∀ j u, [x, y][j]? = some u → (w.alloc (.cells #[x, y] t)).cell? ((⟨w.heap.size, 0, none⟩ : Addr).add j) = some u := by
  intro j u hu
  match j, hu with
  | 0, hu => simp at hu; subst hu; simp [Addr.add]
  | 1, hu => simp at hu; subst hu; simp [Addr.add]
theorem own_I64 {w : World} {B n : Nat} {e : TypeId} {v : Value} {zs : List Int} (h : w.ownsRow B e 1 v n (I64 zs)) (hn : 0 < n) : ∃ g c, v = .slice (some ⟨g, 0, none⟩) n c ∧ B ≤ g ∧ n ≤ c ∧ c ≤ maxLen ∧ ∃ rest, Blk w g e (I64 zs ++ rest).toArray := by
  rcases h.2 with ⟨_, h0⟩ | ⟨g, cap, cur, e1, hb, hg, h1, h2, h3, h4⟩
  · omega
  · refine ⟨g, cap, e1, hb, h1, h2, cur.toList.drop (n * 1), ?_⟩
    rw [← h4, List.take_append_drop]
    exact hg

theorem own_lt {w : World} {base e size n : Nat} {v : Value} {xs : List Value} (h : w.ownsRow base e size v n xs) : ∀ g, v.ownBlock = some g → g < w.heap.size := by
  intro g hg
  rcases h.2 with ⟨e1, _⟩ | ⟨g', cap, cur, e1, _, hk, _⟩
  · rw [e1] at hg
    cases hg
  · rw [e1] at hg
    cases hg
    exact (Array.getElem?_eq_some_iff.1 hk).1

end Go.Proofs.YtdaedkolpfkdjaaGreat
end

section
namespace Go.Proofs.YtdaedkolpfkdjaaGreat
open Go.RowKit Go.Shelf Go.Lib Go.Sort

/-- where rectangles begin and end. -/
def ysL (rs : List RC) : List Int := rs.flatMap fun r => [r.Y, r.Y + r.H]
theorem ysL_len (rs : List RC) : (ysL rs).length = 2 * rs.length := by
  induction rs with
  | nil => rfl
  | cons r rs ih => simp [ysL] at ih ⊢; omega
theorem ysL_snoc (rs : List RC) (r : RC) : ysL (rs ++ [r]) = ysL rs ++ [r.Y, r.Y + r.H] := by simp [ysL]
theorem mem_ysL (rs : List RC) (y : Int) : y ∈ ysL rs ↔ ∃ r ∈ rs, y = r.Y ∨ y = r.Y + r.H := by simp [ysL]
/-- what the sort of numbers leaves. -/
theorem sort_worldI {w : World} {g n : Nat} {t : TypeId} {zs : List Int} {rest : List Value} (h : Blk w g t (I64 zs ++ rest).toArray) (d : Array Int) (hs : d.size = zs.length) (os : Array Obj) :
    Blk (grow (putRow (Value.int .i64) (Sort.ahead w n) g 0 d) os) g t (I64 d.toList ++ rest).toArray ∧ w.grownBy (grow (putRow (Value.int .i64) (Sort.ahead w n) g 0 d) os) (some g) := by
  have hl := h.lt
  constructor
  · unfold Blk
    rw [heap_grow_old _ _ (by rw [size_putRow]; exact hl)]
    unfold putRow mapBlock
    simp only [Sort.ahead, Array.getElem?_modify, if_true]
    rw [show w.heap[g]? = _ from h]
    simp only [Option.map_some, onCells]
    congr 2
    unfold putCells
    apply Array.ext
    · simp [I64, hs]
    · intro i h1 h2
      simp only [Array.getElem_mapIdx, List.getElem_toArray, Nat.zero_le, true_and, Nat.zero_add, Nat.sub_zero]
      split
      · rename_i hi
        rw [getElem!_pos _ i hi, List.getElem_append_left (by simpa [I64] using hi)]
        simp [I64]
      · rename_i hi
        rw [List.getElem_append_right (by simp [I64]; omega), List.getElem_append_right (by simp [I64]; omega)]
        simp [I64, hs]
  · refine ⟨rfl, rfl, rfl, by simp, fun i hi hn => ?_⟩
    rw [heap_grow_old _ _ (by rw [size_putRow]; exact hi)]
    unfold putRow mapBlock
    simp only [Sort.ahead, Array.getElem?_modify]
    rw [if_neg (fun e => hn (by rw [e]))]

theorem holds_I64 {w : World} {g : Nat} {t : TypeId} {zs : List Int} {rest : List Value} (h : Blk w g t (I64 zs ++ rest).toArray) : Holds (Value.int .i64) w g 0 zs.toArray := by
  intro j hj
  have hj' : j < zs.length := by simpa using hj
  rw [Nat.zero_add]
  refine ⟨h.cellV ?_, h.frozen j⟩
  rw [getElem!_pos _ j hj]
  simp only [List.getElem?_toArray, List.getElem_toArray, I64]
  rw [List.getElem?_append_left (by simpa using hj'), List.getElem?_map, List.getElem?_eq_getElem hj']
  rfl
set_option maxRecDepth 100000 in
set_option maxHeartbeats 2000000 in
theorem edges_any (A : Option Addr) (n c : Nat) (rs : List RC) (w : World) (hn : 0 < n) (hnb : n ≤ 1000000000) (hr : RdR w A n rs) (hok : ∀ r ∈ rs, r.ok) :
    Calls Tryz.prog 129 #[.slice A n c] w fun e w' => ∃ (g c' : Nat) (ys : List Int), e = .returned (.slice (some ⟨g, 0, none⟩) ys.length c') ∧ Rd w' (some ⟨g, 0, none⟩) ys.length (I64 ys) ∧ w.heap.size ≤ g ∧ ys.Pairwise (· < ·) ∧ (∀ y, y ∈ ys ↔ y ∈ ysL rs) ∧ Below w.heap.size w w' := by
  obtain ⟨i0, hi0, hz0, hz1, hz2⟩ := info_parts Tryz.infoI
  have HR := Lib.hid hr
  have HOK := Lib.hid hok
  clear hr hok
  go_enter Tryz.func129, Tryz.ntmps129
  go_wp2_with (at_make; refine wpList_make_own _ rfl _ _ 243 rfl w.heap.size 3 i0 _ 1 Tryz.underlying243 hi0 hz0 hz1 _ _ _ (2 * n) rfl rfl (by simp) (by rw [hz2]; omega) (by simp only [maxLen]; omega) (Nat.le_refl _) ?_; intro w1 hown hg1; have HO := Lib.hid hown; have hB1 : Below w.heap.size w w1 := (Below.refl _ w).grown hg1 (Nat.le_refl _) (by simp))
  have hst : w1.ownsRow w.heap.size 3 1 (.slice (some ⟨w.heap.size, 0, none⟩) 0 (2 * n)) (2 * 0) (I64 (ysL (rs.take 0))) := by simpa [I64, ysL] using HO.out
  have HST := Lib.hid hst
  clear hst HO
  go_loopw [3, 12] (fun v i wr => ∃ k : Nat, i = .int .i64 k ∧ k ≤ n ∧ wr.ownsRow w.heap.size 3 1 v (2 * k) (I64 (ysL (rs.take k))) ∧ Below w.heap.size w wr) (fun _ i _ => n - (intOf i).toNat)
  case atStart => exact ⟨0, rfl, by omega, HST.out, hB1⟩
  case round =>
    obtain ⟨k, rfl, hk, ho, hB⟩ := hrel
    have HO := Lib.hid ho
    have HB := Lib.hid hB
    have hBs := hB.size
    clear ho hB HST
    by_cases hlt : k < n
    · obtain ⟨x, hx⟩ : ∃ x, rs[k]? = some x := ⟨_, List.getElem?_eq_getElem (by have := HR.out.1; omega)⟩
      obtain ⟨b, off, rfl, hbl, hc⟩ := (HR.out.below HB.out).2 (by omega)
      obtain ⟨x0, x1, x2, x3⟩ := hc k x hx
      obtain ⟨_, _, h3, h4, _, _, h7, h8⟩ := HOK.out x (List.mem_of_getElem? hx)
      have htk : rs.take (k + 1) = rs.take k ++ [x] := by rw [List.take_add_one, hx]; rfl
      have HTK := Lib.hid htk
      have k0 : (0 : Int) ≤ (k : Int) := by omega
      have k1 : (k : Int) < (n : Int) := by omega
      clear hc hx htk
      go_upto_region 5 with fail
      have BV := Lib.hid (bstep HB.out (bal (bre wr) (.cells #[.int .i64 x.X, .int .i64 x.Y, .int .i64 x.W, .int .i64 x.H] 103)))
      have OV := Lib.hid (HO.out.alloc (.cells #[.int .i64 x.X, .int .i64 x.Y, .int .i64 x.W, .int .i64 x.H] 103))
      have bx := Blk.new wr 103 #[.int .i64 x.X, .int .i64 x.Y, .int .i64 x.W, .int .i64 x.H]
      obtain ⟨V, hV⟩ : ∃ V, wr.alloc (.cells #[.int .i64 x.X, .int .i64 x.Y, .int .i64 x.W, .int .i64 x.H] 103) = V := ⟨_, rfl⟩
      obtain ⟨gb, hgb⟩ : ∃ gb, wr.heap.size = gb := ⟨_, rfl⟩
      rw [hV] at BV OV bx ⊢
      rw [hgb] at bx ⊢
      have v1 := bx.cellV (i := 1) (v := .int .i64 x.Y) rfl
      have v3 := bx.cellV (i := 3) (v := .int .i64 x.H) rfl
      have vs := BV.out.size
      clear hV hgb x0 x1 x2 x3 bx
      go_wp2_with (at_builtin; refine wpList_append_own _ rfl _ _ 243 rfl w.heap.size 3 i0 _ 1 8 Tryz.underlying243 hi0 hz0 hz1 hz2 rfl (by decide) _ _ _ rfl (OV.out.alloc _) ⟨V.heap.size, 0, none⟩ 2 2 [.int .i64 x.Y, .int .i64 (x.Y + x.H)] rfl rfl (two_newI _ _ _ _) (by simp [Value.oneCell']) (by simp only [maxLen]; omega) (by omega) (by simp; omega) ?_; intro v' w4 hown' hgrow _)
      have hB4 : Below w.heap.size w w4 := (BV.out.alloc BV.out.size _).grown hgrow (by simp; omega) (own_ge OV.out)
      go_roundw
      case rel => exact ⟨k + 1, by go_num, by omega, by rw [HTK.out, ysL_snoc, I64, List.map_append, show 2 * (k + 1) = 2 * k + 2 from by omega]; exact hown', hB4⟩
      case measure => simp [intOf]; omega
    · obtain rfl : k = n := by omega
      have ho := HO.out
      rw [List.take_of_length_le (by rw [HR.out.1]; exact Nat.le_refl _)] at ho
      obtain ⟨g, cap, hv, hgg, hcap, hcm, rest, hb⟩ := own_I64 ho (by omega)
      subst hv
      have hlen : (ysL rs).length = 2 * k := by rw [ysL_len, HR.out.1]
      have HBK := Lib.hid hb
      have HLEN := Lib.hid hlen
      clear ho hb hlen HO
      go_wp2_with fail
      have hS := Tryz.slices_Sort_int g 0 cap (ysL rs) wr (holds_I64 HBK.out) HBK.out.lt (by rw [HLEN.out]; omega)
      rw [HLEN.out] at hS
      refine hS.mono ?_
      rintro e w5 ⟨rfl, m, os, hw5⟩
      obtain ⟨S, hSs⟩ : ∃ S, (ysL rs).mergeSort (fun x y => decide (x ≤ y)) = S := ⟨_, rfl⟩
      rw [hSs] at hw5
      have hperm : S.Perm (ysL rs) := by rw [← hSs]; exact List.mergeSort_perm _ _
      have hsort : S.Pairwise (· ≤ ·) := by
        rw [← hSs]
        have := List.pairwise_mergeSort (le := fun x y : Int => decide (x ≤ y)) (by intro a b c h1 h2; simp at *; omega) (by intro a b; simp; omega) (ysL rs)
        exact this.imp (by intro a b h; simpa using h)
      have hSl : S.length = 2 * k := by rw [hperm.length_eq, HLEN.out]
      obtain ⟨k5, k6⟩ := sort_worldI (n := m) HBK.out S.toArray (by rw [List.size_toArray, hSl, HLEN.out]) os
      rw [← hw5] at k5 k6
      have HB5 := Lib.hid k5
      have B5 : Hid (Below w.heap.size w w5) := Lib.hid (HB.out.grown k6 HB.out.size (fun q e => by cases e; exact hgg))
      have HSL := Lib.hid hSl
      have HSO := Lib.hid hsort
      have HPE := Lib.hid hperm
      clear hS hw5 hSs hperm hsort hSl k5 k6
      go_wp2_with fail
      have hcell : ∀ j, j < S.length → w5.cell? ⟨g, 0 + j, none⟩ = some (.int .i64 (S.getD j 0)) := fun j hj => by
        rw [Nat.zero_add]
        refine HB5.out.cellV ?_
        simp only [List.getElem?_toArray, I64]
        rw [List.getElem?_append_left (by simpa using hj), List.getElem?_map, List.getElem?_eq_getElem hj, List.getD_eq_getElem?_getD, List.getElem?_eq_getElem hj]
        rfl
      have hC := Tryz.slices_Compact_int_cells g 0 (2 * k) cap S w5 (by rw [HSL.out]; exact Nat.le_refl _) (by omega) hcap hcell (fun j _ => HB5.out.frozen _)
      rw [List.take_of_length_le (by rw [HSL.out]; exact Nat.le_refl _)] at hC
      obtain ⟨c1, c2⟩ := compact_rises HSO.out
      obtain ⟨ys, hys⟩ : ∃ ys, Lib.compact S = ys := ⟨_, rfl⟩
      have hyl : ys.length ≤ 2 * k := by rw [← hys, ← HSL.out]; exact Lib.compact_length_le S
      rw [hys] at hC c1 c2
      refine hC.mono ?_
      rintro e w6 ⟨rfl, q, hw6⟩
      have HY1 := Lib.hid c1
      have HY2 := Lib.hid c2
      have HW6 := Lib.hid hw6
      have HC5 := Lib.hid hcell
      clear hC c1 c2 hys hcell hw6
      go_wp2_with fail
      go_ret
      have hvl : (I64 (ys ++ List.replicate (2 * k - ys.length) 0)).length = 2 * k := by simp [I64]; omega
      refine ⟨g, cap, ys, rfl, ⟨by simp [I64], fun _ => ⟨g, 0, rfl, ?_, fun j u hj => ?_⟩⟩, hgg, HY1.out, fun y => (HY2.out y).trans HPE.out.mem_iff, ?_⟩
      · have h1 := HB5.out.lt
        have h2 := (grown_setCells (g := g) (I64 (ys ++ List.replicate (2 * k - ys.length) 0)) 0 (w5.drewN q)).size
        rw [HW6.out]
        exact Nat.lt_of_lt_of_le h1 h2
      · rw [HW6.out]
        have hjl : j < ys.length := by have := (List.getElem?_eq_some_iff.1 hj).1; simpa [I64] using this
        have h := World.cell?_setCells_in g (I64 (ys ++ List.replicate (2 * k - ys.length) 0)) 0 (w5.drewN q) (fun i hi => by
          have := HC5.out i (by rw [HSL.out]; omega)
          rw [show (w5.drewN q).cell? ⟨g, 0 + i, none⟩ = w5.cell? ⟨g, 0 + i, none⟩ from rfl, this]
          rfl) j (by omega)
        refine h.trans ?_
        rw [← hj]
        simp only [I64, List.getElem_map, List.getElem?_map]
        rw [List.getElem?_eq_getElem hjl, List.getElem_append_left hjl]
        rfl
      · rw [HW6.out]
        refine B5.out.grown (grown_row (g := g) (grown_of_below (undrewN w5 q) _) (grown_setCells _ _ _)) B5.out.size (fun q' e => by cases e; exact hgg)

end Go.Proofs.YtdaedkolpfkdjaaGreat
end
