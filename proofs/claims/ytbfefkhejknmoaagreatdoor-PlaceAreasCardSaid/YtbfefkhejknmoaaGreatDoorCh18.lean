/-
  slices.SortFunc at rectangles, by band's two comparers: a permutation of the row, sorted.
  Lists of numbers in memory.
-/
import Derived.Test.YtbfefkhejknmoaaGreatDoorCh15
import Derived.Test.YtbfefkhejknmoaaGreatDoorCh17
import Derived.Shelf.SlSortCmp.NoneTotal
import Derived.Test.YtbfefkhejknmoaaGreatDoorCh16
namespace Go.Proofs.YtbfefkhejknmoaaGreatDoor
open Go.RowKit Go.Shelf Go.Lib Go.Sort

theorem flat_rcs (d : Array RC) : flatK RC.cells 4 d = (rcs d.toList).toArray := by
  apply Array.ext
  · simp [rcs_len]
  · intro i h1 h2
    have hi : i < d.size * 4 := by simpa using h1
    have hq : i / 4 < d.size := by omega
    have hg : d.toList[i / 4]? = some d[i / 4] := by simp [hq]
    obtain ⟨a, b, c, e⟩ := rcs_at d.toList [] (i / 4) _ hg
    simp only [List.append_nil] at a b c e
    have hx := get_flatK RC.cells 4 d i hi
    rw [getElem!_pos _ i h1] at hx
    rw [hx, getElem!_pos d (i / 4) hq]
    have hr : ∀ v, (rcs d.toList)[i]? = some v → ((rcs d.toList).toArray[i]'h2) = v := fun v hv => by
      simp only [List.getElem_toArray]
      rw [List.getElem?_eq_getElem (by simpa using h2)] at hv
      exact Option.some.inj hv
    obtain ⟨q, hq'⟩ : ∃ q, i / 4 = q := ⟨_, rfl⟩
    simp only [hq'] at *
    have hm : i % 4 = 0 ∧ i = q * 4 ∨ i % 4 = 1 ∧ i = q * 4 + 1 ∨ i % 4 = 2 ∧ i = q * 4 + 1 + 1 ∨ i % 4 = 3 ∧ i = q * 4 + 1 + 1 + 1 := by omega
    rcases hm with ⟨h, hi'⟩ | ⟨h, hi'⟩ | ⟨h, hi'⟩ | ⟨h, hi'⟩
    · rw [hr _ (by rw [hi']; exact a), h]; rfl
    · rw [hr _ (by rw [hi']; exact b), h]; rfl
    · rw [hr _ (by rw [hi']; exact c), h]; rfl
    · rw [hr _ (by rw [hi']; exact e), h]; rfl

/-- what the sort leaves of the row's block, and of all else. -/
theorem sort_world {w : World} {g n : Nat} {t : TypeId} {rs : List RC} {rest : List Value} (h : Blk w g t (rcs rs ++ rest).toArray) (d : Array RC) (hs : d.size = rs.length) (os : Array Obj) :
    Blk (sortWorldK RC.cells 4 w g 0 n d os) g t (rcs d.toList ++ rest).toArray ∧ w.grownBy (sortWorldK RC.cells 4 w g 0 n d os) (some g) := by
  have hl := h.lt
  have hlen : (rcs d.toList).length = (rcs rs).length := by simp [rcs_len, hs]
  constructor
  · unfold Blk sortWorldK
    rw [heap_grow_old _ _ (by unfold putRowK; rw [size_putRow]; exact hl)]
    unfold putRowK putRow mapBlock
    simp only [Sort.ahead, Array.getElem?_modify, if_true]
    rw [show w.heap[g]? = _ from h]
    simp only [Option.map_some, onCells]
    congr 2
    rw [flat_rcs]
    unfold putCells
    apply Array.ext
    · simp [rcs_len, hs]
    · intro i h1 h2
      simp only [Array.getElem_mapIdx, List.getElem_toArray, Nat.zero_le, true_and, Nat.zero_add, Nat.sub_zero, List.size_toArray, id]
      split
      · rename_i hi
        rw [getElem!_pos _ i (by simpa using hi), List.getElem_toArray, List.getElem_append_left hi]
      · rename_i hi
        rw [List.getElem_append_right (by omega), List.getElem_append_right (by omega)]
        simp only [hlen]
  · refine ⟨rfl, rfl, rfl, ?_, fun i hi hn => ?_⟩
    · exact size_sortWorldK_c RC.cells 4 w g 0 n d os
    · unfold sortWorldK
      rw [heap_grow_old _ _ (by unfold putRowK; rw [size_putRow]; exact hi)]
      unfold putRowK putRow mapBlock
      simp only [Sort.ahead, Array.getElem?_modify]
      rw [if_neg (fun e => hn (by rw [e]))]
theorem holds_rcs {w : World} {g : Nat} {t : TypeId} {rs : List RC} {rest : List Value} (h : Blk w g t (rcs rs ++ rest).toArray) : HoldsK RC.cells 4 w g 0 rs.toArray := by
  unfold HoldsK
  rw [flat_rcs]
  intro j hj
  have hj' : j < (rcs rs).length := by simpa using hj
  rw [Nat.zero_add]
  refine ⟨h.cellV ?_, h.frozen j⟩
  rw [getElem!_pos _ j hj]
  simp only [List.getElem?_toArray, List.getElem_toArray, id]
  rw [List.getElem?_append_left hj', List.getElem?_eq_getElem hj']

theorem lt_cmpI (a b : Int) : decide (cmpI a b < 0) = decide (a < b) := by
  unfold cmpI
  by_cases h1 : a < b
  · simp [h1]
  · by_cases h2 : b < a <;> simp [h1, h2]
theorem ltX (x y : RC) : ltOf cmpX x y = decide (x.X < y.X) := lt_cmpI _ _
theorem ltYX (x y : RC) : ltOf cmpYX x y = decide (x.Y < y.Y ∨ (x.Y = y.Y ∧ x.X < y.X)) := by
  unfold ltOf cmpYX orI cmpI
  by_cases h1 : x.Y < y.Y
  · simp [h1]
  · by_cases h2 : y.Y < x.Y
    · have h3 : ¬ x.Y = y.Y := by omega
      simp [h1, h2, h3]
    · have h3 : x.Y = y.Y := by omega
      by_cases h4 : x.X < y.X
      · simp [h3, h4]
      · by_cases h5 : y.X < x.X <;> simp [h3, h4, h5]
theorem swoX : SWO (ltOf cmpX) where
  irrefl x := by rw [ltX]; simp
  trans x y z h1 h2 := by rw [ltX] at *; simp at *; omega
  ntrans x y z h1 h2 := by rw [ltX] at *; simp at *; omega
theorem swoYX : SWO (ltOf cmpYX) where
  irrefl x := by rw [ltYX]; simp
  trans x y z h1 h2 := by rw [ltYX] at *; simp at *; omega
  ntrans x y z h1 h2 := by rw [ltYX] at *; simp at *; omega

theorem Tryz.isAggR (w : World) : (isAgg 29).run Tryz.prog w = .ok true w := by kernel_rfl
theorem Tryz.sizeOfR (w : World) : (Go.sizeOf 29).run Tryz.prog w = .ok 4 w := by kernel_rfl
theorem cells_one (x : RC) : ∀ v ∈ x.cells, v.oneCell' = true := by
  intro v hv
  simp only [RC.cells, List.mem_cons, List.not_mem_nil, or_false] at hv
  rcases hv with rfl | rfl | rfl | rfl <;> rfl

theorem sortF_any (cf : RC → RC → Int) (hO : SWO (ltOf cf)) (gf : Nat) (eg : ∀ args w, (callFunc gf args).run Tryz.prog w = .ok (.enter gf args) w) (hcmp : ∀ blk off size w, CmpLays Tryz.prog gf #[] RC.cells 4 cf blk off size w)
    (B n c : Nat) (A : Option Addr) (rs : List RC) (w : World) (hown : w.ownsRow B 29 4 (.slice A n c) n (rcs rs)) (hn : rs.length = n) (hnb : n ≤ 1000000000000) :
    Calls Tryz.prog 65 #[.slice A n c, .func (.func gf) #[] #[]] w fun e w' => ∃ rs' : List RC, e = .returned (.tuple #[]) ∧ rs'.Perm rs ∧ rs'.Pairwise (fun x y => ltOf cf y x = false) ∧ w'.ownsRow B 29 4 (.slice A n c) n (rcs rs') ∧ w.grownBy w' (Value.slice A n c).ownBlock := by
  subst hn
  rcases hown.2 with ⟨e, e0⟩ | ⟨g, cap, cur, e, _⟩
  · obtain rfl : rs = [] := List.eq_nil_of_length_eq_zero e0
    have h := AnyF.slices_SortFunc_none Tryz.sortRect A c (.func (.func gf) #[] #[]) w
    refine (show Calls Tryz.prog 65 _ _ _ from h).mono fun e' w' ⟨he, hw⟩ => ⟨[], he, List.Perm.refl _, List.Pairwise.nil, ?_, ?_⟩
    · rw [hw]; exact hown
    · rw [hw]; exact grown_of_below (bre w) _
  · injection e with e1 _ _
    subst e1
    obtain ⟨hB, hnc, hcm, rest, hb, hl⟩ := own_rcs hown
    have h := AnyQ.slices_SortFunc Tryz.sortRect 4 Tryz.isAggR Tryz.sizeOfR RC.cells (fun _ => rfl) cells_one cf hO gf #[] g 0 c rs.toArray w eg (hcmp _ _ _ _) (holds_rcs hb) hb.lt (by simp; omega)
    simp only [List.size_toArray] at h
    refine (show Calls Tryz.prog 65 _ _ _ from h).mono fun e' w' ⟨he, d, m, os, hp, hs, hw⟩ => ?_
    obtain ⟨hp1, _, hp3⟩ := hp
    have hds : d.size = rs.length := by simpa using hp1
    subst hw
    obtain ⟨k1, k2⟩ := sort_world (n := m) hb d hds os
    refine ⟨d.toList, he, ?_, ?_, ?_, k2⟩
    · rw [← hds] at hp3
      simp only [Array.extract_size] at hp3
      rw [show d.size = rs.toArray.size from by simpa using hds] at hp3
      simpa using hp3
    · rw [List.pairwise_iff_getElem]
      intro i j hi hj hij
      have := hs i j (Nat.zero_le _) hij (by simp at hj; omega)
      rw [getElem!_pos d j (by simpa using hj), getElem!_pos d i (by simpa using hi)] at this
      simpa using this
    · refine rcs_own hB hnc hcm k1 ?_ ?_ (by simpa using hds)
      · have := hl
        simp only [List.length_append, rcs_len] at this ⊢
        simp [hds]
        omega
      · rw [List.take_append_of_le_length (by rw [rcs_len]; simp [hds]), List.take_of_length_le (by rw [rcs_len]; simp [hds])]

theorem lays3 (blk off size : Nat) (w : World) : CmpLays Tryz.prog 72 #[] RC.cells 4 cmpX blk off size w :=
  fun _ _ _ _ x y => (of3_any x y _).mono fun e w' ⟨he, hw⟩ => ⟨he, 0, _, hw.trans (by rw [alloc_eq_grow, alloc_eq_grow, grow_grow]; rfl)⟩
theorem lays1 (blk off size : Nat) (w : World) : CmpLays Tryz.prog 66 #[] RC.cells 4 cmpYX blk off size w :=
  fun _ _ _ _ x y => (of1_any x y _).mono fun e w' ⟨he, hw⟩ => ⟨he, 1, _, hw.trans (by rw [alloc_eq_grow, alloc_eq_grow, alloc_eq_grow, grow_grow, grow_grow]; rfl)⟩

/-- sorted by rows, then across. -/
theorem sortYX_any (B n c : Nat) (A : Option Addr) (rs : List RC) (w : World) (hown : w.ownsRow B 29 4 (.slice A n c) n (rcs rs)) (hn : rs.length = n) (hnb : n ≤ 1000000000000) :
    Calls Tryz.prog 65 #[.slice A n c, .func (.func 66) #[] #[]] w fun e w' => ∃ rs' : List RC, e = .returned (.tuple #[]) ∧ rs'.Perm rs ∧ rs'.Pairwise (fun x y => ltOf cmpYX y x = false) ∧ w'.ownsRow B 29 4 (.slice A n c) n (rcs rs') ∧ w.grownBy w' (Value.slice A n c).ownBlock :=
  sortF_any cmpYX swoYX 66 (enters_of Tryz.func66 (by kernel_rfl) rfl) lays1 B n c A rs w hown hn hnb
theorem sortX_any (B n c : Nat) (A : Option Addr) (rs : List RC) (w : World) (hown : w.ownsRow B 29 4 (.slice A n c) n (rcs rs)) (hn : rs.length = n) (hnb : n ≤ 1000000000000) :
    Calls Tryz.prog 65 #[.slice A n c, .func (.func 72) #[] #[]] w fun e w' => ∃ rs' : List RC, e = .returned (.tuple #[]) ∧ rs'.Perm rs ∧ rs'.Pairwise (fun x y => ltOf cmpX y x = false) ∧ w'.ownsRow B 29 4 (.slice A n c) n (rcs rs') ∧ w.grownBy w' (Value.slice A n c).ownBlock :=
  sortF_any cmpX swoX 72 (enters_of Tryz.func72 (by kernel_rfl) rfl) lays3 B n c A rs w hown hn hnb

end Go.Proofs.YtbfefkhejknmoaaGreatDoor

namespace Go.Proofs.YtbfefkhejknmoaaGreatDoor
open Go.RowKit

/-- numbers as values. -/
def I64 (l : List Int) : List Value := l.map (Value.int .i64)
theorem Tryz.infoI : (Tryz.prog.info? 3).map (fun i => (i.zero, i.size, i.bytes)) = some (some (.int .i64 0), 1, 8) := by kernel_rfl

theorem undrewN (w : World) (q : Nat) : Below w.heap.size w (w.drewN q) := below_drewN (bre w) q
theorem two_newI (w : World) (x y : Value) (t : TypeId) : ∀ j u, [x, y][j]? = some u → (w.alloc (.cells #[x, y] t)).cell? ((⟨w.heap.size, 0, none⟩ : Addr).add j) = some u := by
  intro j u hu
  match j, hu with
  | 0, hu => simp at hu; subst hu; simp [Addr.add]
  | 1, hu => simp at hu; subst hu; simp [Addr.add]
theorem own_I64 {w : World} {B n : Nat} {e : TypeId} {v : Value} {zs : List Int} (h : w.ownsRow B e 1 v n (I64 zs)) (hn : 0 < n) : ∃ g c, v = .slice (some ⟨g, 0, none⟩) n c ∧ B ≤ g ∧ n ≤ c ∧ c ≤ maxLen ∧ ∃ rest, Blk w g e (I64 zs ++ rest).toArray := by
  rcases h.2 with ⟨_, h0⟩ | ⟨g, cap, cur, e1, hb, hg, h1, h2, h3, h4⟩
  · omega
  · refine ⟨g, cap, e1, hb, h1, h2, cur.toList.drop (n * 1), ?_⟩
    rw [← h4, List.take_append_drop]
    exact hg

theorem own_lt {w : World} {base e size n : Nat} {v : Value} {xs : List Value} (h : w.ownsRow base e size v n xs) : ∀ g, v.ownBlock = some g → g < w.heap.size := by
  intro g hg
  rcases h.2 with ⟨e1, _⟩ | ⟨g', cap, cur, e1, _, hk, _⟩
  · rw [e1] at hg
    cases hg
  · rw [e1] at hg
    cases hg
    exact (Array.getElem?_eq_some_iff.1 hk).1

end Go.Proofs.YtbfefkhejknmoaaGreatDoor
