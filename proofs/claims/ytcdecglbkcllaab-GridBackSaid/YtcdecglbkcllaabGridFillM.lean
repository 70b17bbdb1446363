/-
  Plain facts: pixels that are laid at some places of a grid.
-/
import Derived.Test.YtcdecglbkcllaabGridWalkA
import Derived.Test.YtcdecglbkcllaabBandOk
namespace Go.Proofs.Ytcdecglbkcllaab

/-- the pixels, with those of S laid at the places of M. -/
def lay (W : Nat) (S : Nat → Nat → Option Int) (M : Nat → Nat → Bool) (px : List Int) : List Int :=
  px.mapIdx fun i p => if M (i % W) (i / W) then (S (i % W) (i / W)).getD p else p
/-- one stretch more. -/
def strB (M : Nat → Nat → Bool) (y a b : Nat) : Nat → Nat → Bool := fun x' y' => M x' y' || (decide (y' = y) && (decide (a ≤ x') && decide (x' < b)))
section
variable {W : Nat} {S : Nat → Nat → Option Int} {M M' : Nat → Nat → Bool} {px : List Int}
theorem lay_len (W : Nat) (S : Nat → Nat → Option Int) (M : Nat → Nat → Bool) (px : List Int) : (lay W S M px).length = px.length := by simp [lay]
theorem lay_get (i : Nat) : (lay W S M px)[i]? = (px[i]?).map fun p => if M (i % W) (i / W) then (S (i % W) (i / W)).getD p else p := by simp [lay, List.getElem?_mapIdx]
theorem lay_none (W : Nat) (S : Nat → Nat → Option Int) (px : List Int) : lay W S (fun _ _ => false) px = px := by
  refine List.ext_getElem? fun i => ?_
  rw [lay_get]
  cases px[i]? <;> simp
theorem lay_ext (h : ∀ i, i < px.length → M (i % W) (i / W) = M' (i % W) (i / W)) : lay W S M px = lay W S M' px := by
  refine List.ext_getElem? fun i => ?_
  rw [lay_get, lay_get]
  cases hp : px[i]? with
  | none => rfl
  | some p => rw [h i (List.getElem?_eq_some_iff.1 hp).1]
theorem str_start (y a : Nat) : lay W S (strB M y a a) px = lay W S M px := lay_ext fun i _ => by
  unfold strB
  have : (decide (a ≤ i % W) && decide (i % W < a)) = false := by simp
  rw [this]
  simp
theorem idx_div {x y : Nat} (hx : x < W) : (y * W + x) / W = y ∧ (y * W + x) % W = x := by
  constructor
  · rw [Nat.mul_comm, Nat.mul_add_div (by omega), Nat.div_eq_of_lt hx]; rfl
  · rw [Nat.mul_comm, Nat.mul_add_mod, Nat.mod_eq_of_lt hx]
theorem idx_eq {x y i : Nat} (hx : x < W) (h1 : i / W = y) (h2 : i % W = x) : i = y * W + x := by
  have := Nat.div_add_mod i W
  rw [h1, h2, Nat.mul_comm] at this
  exact this.symm
/-- one place more. -/
theorem str_step {x y a : Nat} (ha : a ≤ x) (hx : x < W) {v : Int} (hS : S x y = some v) : (lay W S (strB M y a x) px).set (y * W + x) v = lay W S (strB M y a (x + 1)) px := by
  obtain ⟨d1, d2⟩ := idx_div (W := W) (x := x) (y := y) hx
  refine List.ext_getElem? fun i => ?_
  rw [List.getElem?_set, lay_get, lay_get, lay_len]
  by_cases hi : y * W + x = i
  · subst hi
    rw [if_pos rfl, d1, d2]
    cases hp : px[y * W + x]? with
    | none =>
      rw [if_neg (by have := List.getElem?_eq_none_iff.1 hp; omega)]
      rfl
    | some p =>
      rw [if_pos (List.getElem?_eq_some_iff.1 hp).1]
      simp [strB, ha, hS]
  · rw [if_neg hi]
    cases hp : px[i]? with
    | none => rfl
    | some p =>
      have : strB M y a x (i % W) (i / W) = strB M y a (x + 1) (i % W) (i / W) := by
        unfold strB
        by_cases hy : i / W = y
        · have hne : i % W ≠ x := fun h => hi (idx_eq hx hy h).symm
          have : decide (i % W < x) = decide (i % W < x + 1) := by simp; omega
          rw [this]
        · simp [hy]
      rw [this]
theorem str_skip {x y a : Nat} (hx : x < W) (hS : S x y = none) : lay W S (strB M y a x) px = lay W S (strB M y a (x + 1)) px := by
  refine List.ext_getElem? fun i => ?_
  rw [lay_get, lay_get]
  cases hp : px[i]? with
  | none => rfl
  | some p =>
    simp only [Option.map_some]
    by_cases hi : i / W = y ∧ i % W = x
    · rw [hi.1, hi.2, hS]
      simp
    · have : strB M y a x (i % W) (i / W) = strB M y a (x + 1) (i % W) (i / W) := by
        unfold strB
        by_cases hy : i / W = y
        · have : decide (i % W < x) = decide (i % W < x + 1) := by simp; omega
          rw [this]
        · simp [hy]
      rw [this]
end

/-- has a rectangle a place? -/
def RC.hasP (r : RC) (x y : Nat) : Bool := decide (r.X ≤ (x : Int)) && decide ((x : Int) < r.X + r.W) && (decide (r.Y ≤ (y : Int)) && decide ((y : Int) < r.Y + r.H))
theorem hasP_iff (r : RC) (x y : Nat) : r.hasP x y = true ↔ (r.X ≤ (x : Int) ∧ (x : Int) < r.X + r.W) ∧ (r.Y ≤ (y : Int) ∧ (y : Int) < r.Y + r.H) := by simp [RC.hasP]
def anyP (rs : List RC) (x y : Nat) : Bool := rs.any fun r => r.hasP x y
/-- the rectangles ahead, and the rows of one more ahead of the j-th. -/
def rowsP (rs : List RC) (r : RC) (j : Nat) : Nat → Nat → Bool := fun x y => anyP rs x y || (r.hasP x y && decide (y < j))
theorem anyP_snoc (rs : List RC) (r : RC) (x y : Nat) : anyP (rs ++ [r]) x y = (anyP rs x y || r.hasP x y) := by simp [anyP]
theorem anyP_iff (rs : List RC) (x y : Nat) : anyP rs x y = true ↔ InR rs x y := by
  unfold anyP InR
  rw [List.any_eq_true]
  constructor
  · rintro ⟨r, hr, h⟩
    have := (hasP_iff r x y).1 h
    exact ⟨r, hr, by omega, by omega, by omega, by omega⟩
  · rintro ⟨r, hr, h⟩
    exact ⟨r, hr, (hasP_iff r x y).2 (by omega)⟩
section
variable {W H : Nat} {S : Nat → Nat → Option Int} {px : List Int} {rs : List RC} {r : RC}
theorem in_grid {i : Nat} (hl : px.length = W * H) (hi : i < px.length) : i % W < W ∧ i / W < H :=
  have hW : 0 < W := Nat.pos_of_ne_zero fun e => by rw [hl, e, Nat.zero_mul] at hi; omega
  ⟨Nat.mod_lt _ hW, Nat.div_lt_of_lt_mul (by rw [← hl]; exact hi)⟩
theorem rows_start (j : Nat) (hj : (j : Int) ≤ max r.Y 0) : lay W S (rowsP rs r j) px = lay W S (anyP rs) px := lay_ext fun i _ => by
  generalize i % W = x
  generalize i / W = y
  unfold rowsP
  have : (r.hasP x y && decide (y < j)) = false := by
    cases h : r.hasP x y with
    | false => rfl
    | true =>
      have := (hasP_iff r _ _).1 h
      simp
      omega
  rw [this, Bool.or_false]
theorem rows_next {j a b : Nat} (hl : px.length = W * H) (hj0 : r.Y ≤ (j : Int)) (hj1 : (j : Int) < r.Y + r.H) (ha : (a : Int) = max r.X 0) (hb : (b : Int) = min (r.X + r.W) W) :
    lay W S (strB (rowsP rs r j) j a b) px = lay W S (rowsP rs r (j + 1)) px := lay_ext fun i hi => by
  obtain ⟨h1, h2⟩ := in_grid hl hi
  generalize i % W = x at *
  generalize i / W = y at *
  rw [Bool.eq_iff_iff]
  unfold strB rowsP
  simp only [Bool.or_eq_true, Bool.and_eq_true, decide_eq_true_eq, hasP_iff]
  constructor
  · rintro ((h | h) | h)
    · exact .inl h
    · exact .inr ⟨h.1, by omega⟩
    · exact .inr ⟨by omega, by omega⟩
  · rintro (h | h)
    · exact .inl (.inl h)
    · by_cases hy : y = j
      · exact .inr ⟨hy, by omega⟩
      · exact .inl (.inr ⟨h.1, by omega⟩)
theorem rows_end {j : Nat} (hl : px.length = W * H) (hj : r.Y + r.H ≤ (j : Int) ∨ H ≤ j) : lay W S (rowsP rs r j) px = lay W S (anyP (rs ++ [r])) px := lay_ext fun i hi => by
  obtain ⟨h1, h2⟩ := in_grid hl hi
  generalize i % W = x at *
  generalize i / W = y at *
  rw [anyP_snoc]
  unfold rowsP
  cases h : r.hasP x y with
  | false => rfl
  | true =>
    have := (hasP_iff r _ _).1 h
    have : decide (y < j) = true := by simp; omega
    rw [this]
    rfl
theorem rows_out (hl : px.length = W * H) (h : min (r.X + r.W) W ≤ max r.X 0) : lay W S (anyP rs) px = lay W S (anyP (rs ++ [r])) px := lay_ext fun i hi => by
  obtain ⟨h1, h2⟩ := in_grid hl hi
  generalize i % W = x at *
  generalize i / W = y at *
  rw [anyP_snoc]
  have : r.hasP x y = false := by
    cases h3 : r.hasP x y with
    | false => rfl
    | true =>
      have := (hasP_iff r _ _).1 h3
      omega
  rw [this, Bool.or_false]
end

end Go.Proofs.Ytcdecglbkcllaab
