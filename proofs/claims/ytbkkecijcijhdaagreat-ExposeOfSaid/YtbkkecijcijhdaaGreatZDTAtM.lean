/-
  How many places each window has, counted place by place.
-/
import Derived.Test.YtbkkecijcijhdaaGreatZD29
section
namespace Go.Proofs.YtbkkecijcijhdaaGreat

def rowC (P : Places) (y x : Nat) : Nat := (List.range x).countP fun (a : Nat) => P a y
theorem cntP_succ (W h : Nat) (P : Places) : cntP W (h + 1) P = cntP W h P + rowC P h W := by
  unfold cntP rowC
  rw [List.range_succ, List.map_append, List.sum_append]
  simp
theorem rowC_succ (P : Places) (y x : Nat) : rowC P y (x + 1) = rowC P y x + (if P x y then 1 else 0) := by
  unfold rowC
  rw [List.range_succ, List.countP_append]
  simp [List.countP_cons]
theorem rowC_le (P : Places) (y x : Nat) : rowC P y x ≤ x := by
  unfold rowC
  have := List.countP_le_length (p := fun (a : Nat) => P a y) (l := List.range x)
  simpa using this
/-- is a place the window's of a number, one more than it? -/
def PI (l : List DW) (F : Nat) (i : Nat) : Places := fun x y => decide ((i : Int) - 1 = atD l F (-1) x y)
/-- the counts, so many rows on, and so many places of the row. -/
def arL (l : List DW) (F W y x : Nat) : List Int := (List.range (l.length + 1)).map fun i => ((cntP W y (PI l F i) + rowC (PI l F i) y x : Nat) : Int)
section
variable {l : List DW} {F W y x : Nat}
end
end Go.Proofs.YtbkkecijcijhdaaGreat
end
