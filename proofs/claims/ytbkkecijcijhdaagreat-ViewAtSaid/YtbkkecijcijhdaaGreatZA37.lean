/-
  How many places each window has, counted place by place.
-/
import Derived.Test.YtbkkecijcijhdaaGreatZA33
section
namespace Go.Proofs.YtbkkecijcijhdaaGreat

def rowC (P : Places) (y x : Nat) : Nat := (List.range x).countP fun (a : Nat) => P a y
theorem cntP_succ (W h : Nat) (P : Places) : cntP W (h + 1) P = cntP W h P + rowC P h W := by
  unfold cntP rowC
  rw [List.range_succ, List.map_append, List.sum_append]
  simp
theorem rowC_succ (P : Places) (y x : Nat) : rowC P y (x + 1) = rowC P y x + (if P x y then 1 else 0) := by
  unfold rowC
  rw [List.range_succ, List.countP_append]
  simp [List.countP_cons]
theorem rowC_le (P : Places) (y x : Nat) : rowC P y x ≤ x := by
  unfold rowC
  have := List.countP_le_length (p := fun (a : Nat) => P a y) (l := List.range x)
  simpa using this
/-- is a place the window's of a number, one more than it? -/
def PI (l : List DW) (F : Nat) (i : Nat) : Places := fun x y => decide ((i : Int) - 1 = atD l F (-1) x y)
/-- the counts, so many rows on, and so many places of the row. -/
def arL (l : List DW) (F W y x : Nat) : List Int := (List.range (l.length + 1)).map fun i => ((cntP W y (PI l F i) + rowC (PI l F i) y x : Nat) : Int)
section
variable {l : List DW} {F W y x : Nat}
theorem arL_len : (arL l F W y x).length = l.length + 1 := by simp [arL]
theorem arL_get {i : Nat} (h : i < l.length + 1) : (arL l F W y x)[i]? = some ((cntP W y (PI l F i) + rowC (PI l F i) y x : Nat) : Int) := by
  unfold arL
  rw [List.getElem?_map, List.getElem?_range h]
  rfl
theorem arL_zero : arL l F W 0 0 = List.replicate (l.length + 1) 0 := by
  apply List.ext_getElem?
  intro i
  by_cases h : i < l.length + 1
  · rw [arL_get h, List.getElem?_replicate, if_pos h]
    simp [cntP, rowC]
  · rw [List.getElem?_eq_none_iff.2 (by rw [arL_len]; omega), List.getElem?_eq_none_iff.2 (by simp; omega)]
theorem arL_row : arL l F W y W = arL l F W (y + 1) 0 := by
  unfold arL
  refine List.map_congr_left (fun i _ => ?_)
  rw [cntP_succ]
  simp [rowC]
theorem arL_put {q : Nat} {v : Int} (hq : (q : Int) - 1 = atD l F (-1) x y) (hv : (arL l F W y x)[q]? = some v) : (arL l F W y x).set q (v + 1) = arL l F W y (x + 1) := by
  have hql : q < l.length + 1 := by
    have := (List.getElem?_eq_some_iff.1 hv).1
    rwa [arL_len] at this
  rw [arL_get hql] at hv
  injection hv with hv
  apply List.ext_getElem?
  intro i
  by_cases h : i < l.length + 1
  · rw [arL_get h]
    by_cases e : q = i
    · subst e
      rw [List.getElem?_set_self (by rw [arL_len]; exact h), rowC_succ, ← hv]
      have : PI l F q x y = true := by unfold PI; exact decide_eq_true hq
      rw [this, if_pos rfl]
      congr 1
    · rw [List.getElem?_set_ne e, arL_get h, rowC_succ]
      have : PI l F i x y = false := by unfold PI; exact decide_eq_false (fun h9 => e (by omega))
      rw [this]
      simp
  · rw [List.getElem?_eq_none_iff.2 (by rw [List.length_set, arL_len]; omega), List.getElem?_eq_none_iff.2 (by rw [arL_len]; omega)]
theorem arL_bd {q : Nat} {v : Int} (hW : W ≤ 128) (hy : y ≤ 128) (hx : x ≤ W) (hv : (arL l F W y x)[q]? = some v) : 0 ≤ v ∧ v ≤ 20000 := by
  have hql : q < l.length + 1 := by
    have := (List.getElem?_eq_some_iff.1 hv).1
    rwa [arL_len] at this
  rw [arL_get hql] at hv
  injection hv with hv
  have h1 := cntP_le W y (PI l F q)
  have h2 := rowC_le (PI l F q) y x
  have h3 : y * W ≤ 128 * 128 := Nat.mul_le_mul hy hW
  omega
end
end Go.Proofs.YtbkkecijcijhdaaGreat
end
