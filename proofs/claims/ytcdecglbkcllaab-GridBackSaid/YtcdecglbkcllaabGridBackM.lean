/-
  Plain facts: a grid that is cropped and laid again; filled twice; filled by a region cut to it.
-/
import Derived.Test.YtcdecglbkcllaabGridLayC
namespace Go.Proofs.Ytcdecglbkcllaab

theorem has_nat {W H x y : Nat} (hx : x < W) (hy : y < H) : hasB W H (x : Int) (y : Int) = true := (has_iff _ _ _ _).2 (by omega)
theorem gat_idx {W H : Nat} {px : List Int} (hl : px.length = W * H) {i : Nat} (hi : i < px.length) : gat W H px ((i % W : Nat) : Int) ((i / W : Nat) : Int) = px[i] := by
  obtain ⟨h1, h2⟩ := in_grid hl hi
  have hh : hasB W H ((i % W : Nat) : Int) ((i / W : Nat) : Int) = true := has_nat h1 h2
  unfold gat
  rw [if_pos hh]
  simp only [Int.toNat_natCast]
  have : i / W * W + i % W = i := by rw [Nat.mul_comm]; exact Nat.div_add_mod i W
  rw [this, List.getD_eq_getElem?_getD, List.getElem?_eq_getElem hi]
  rfl
/-- cropped whole it is the grid. -/
theorem crop_whole {W H : Nat} {px : List Int} (hl : px.length = W * H) (o : Int) : cropL W H px 0 0 W H o = px := by
  refine List.ext_getElem (by simp [cropL, hl]) fun i h1 h2 => ?_
  obtain ⟨g1, g2⟩ := in_grid hl h2
  have hh : hasB W H (0 + ((i % W : Nat) : Int)) (0 + ((i / W : Nat) : Int)) = true := by rw [Int.zero_add, Int.zero_add]; exact has_nat g1 g2
  simp only [cropL, List.getElem_map, List.getElem_range, cpx]
  rw [if_pos hh, Int.zero_add, Int.zero_add]
  exact gat_idx hl h2
/-- the whole grid as a rectangle. -/
def wholeR (W H : Nat) : RC := ⟨0, 0, W, H⟩
theorem any_whole {W H x y : Nat} (hx : x < W) (hy : y < H) : anyP [wholeR W H] x y = true := by
  simp only [anyP, List.any_cons, List.any_nil, Bool.or_false, hasP_iff, wholeR]
  omega
/-- what is cropped and laid at its place again changes nothing. -/
theorem lay_back {W H cw ch : Nat} {px : List Int} {X Y o : Int} (hl : px.length = W * H) (hX : 0 ≤ X) (hY : 0 ≤ Y) (hw : X + cw ≤ W) (hh : Y + ch ≤ H) :
    lay W (layS cw ch (cropL W H px X Y cw ch o) X Y) (anyP [wholeR W H]) px = px := by
  refine List.ext_getElem? fun i => ?_
  rw [lay_get]
  cases hp : px[i]? with
  | none => rfl
  | some v =>
    have hi := (List.getElem?_eq_some_iff.1 hp).1
    obtain ⟨g1, g2⟩ := in_grid hl hi
    have hv := gat_idx hl hi
    rw [(List.getElem?_eq_some_iff.1 hp).2] at hv
    simp only [Option.map_some, any_whole g1 g2, if_true]
    generalize hxe : i % W = x at *
    generalize hye : i / W = y at *
    unfold layS
    cases hb : hasB cw ch ((x : Int) - X) ((y : Int) - Y)
    · rfl
    · have hb' := (has_iff _ _ _ _).1 hb
      have hk := has_idx hb
      have hcw : ((x : Int) - X).toNat < cw := by omega
      obtain ⟨k1, k2⟩ := idx_div (W := cw) (y := ((y : Int) - Y).toNat) hcw
      have hh2 : hasB W H (x : Int) (y : Int) = true := (has_iff _ _ _ _).2 (by omega)
      simp only [if_true, Option.getD_some, Option.some.injEq]
      rw [← hv]
      unfold gat
      rw [if_pos hb, if_pos hh2, List.getD_eq_getElem?_getD]
      simp only [cropL, List.getElem?_map]
      rw [List.getElem?_range hk]
      simp only [Option.map_some, Option.getD_some, cpx, k1, k2]
      have e1 : X + (((x : Int) - X).toNat : Int) = x := by omega
      have e2 : Y + (((y : Int) - Y).toNat : Int) = y := by omega
      rw [e1, e2, if_pos hh2]
      unfold gat
      rw [if_pos hh2]
/-- filled twice it is as filled with the second pixel. -/
theorem lay_twice {W : Nat} {M : Nat → Nat → Bool} {px : List Int} {p q : Int} : lay W (fun _ _ => some q) M (lay W (fun _ _ => some p) M px) = lay W (fun _ _ => some q) M px := by
  refine List.ext_getElem? fun i => ?_
  rw [lay_get, lay_get, lay_get]
  cases px[i]? with
  | none => rfl
  | some v => cases M (i % W) (i / W) <;> rfl
/-- the places that count alone. -/
theorem lay_same {W H : Nat} {S : Nat → Nat → Option Int} {px : List Int} {o1 o2 : List RC} (hl : px.length = W * H) (h : ∀ x y : Nat, x < W → y < H → (InR o1 x y ↔ InR o2 x y)) : lay W S (anyP o1) px = lay W S (anyP o2) px :=
  lay_ext fun i hi => by
    obtain ⟨g1, g2⟩ := in_grid hl hi
    rw [Bool.eq_iff_iff, anyP_iff, anyP_iff]
    exact h _ _ g1 g2
theorem in_cnt {rs : List RC} (hc : ∀ r ∈ rs, 0 < r.W → 0 < r.H → r.cnt = true) (x y : Int) : InR (rs.filter RC.cnt) x y ↔ InR rs x y := by
  constructor
  · rintro ⟨r, hr, h⟩
    exact ⟨r, (List.mem_filter.1 hr).1, h⟩
  · rintro ⟨r, hr, h⟩
    exact ⟨r, List.mem_filter.2 ⟨hr, hc r hr (by omega) (by omega)⟩, h⟩

/-- the places of the grid that the small rectangles have, the first rows and the first of a row. -/
def cutR (ss : List Sm) (W y x : Nat) : List RC := ((List.range y).flatMap fun j : Nat => ((List.range W).filter fun i : Nat => inSm ss i j).map fun i : Nat => (⟨i, j, 1, 1⟩ : RC)) ++ (((List.range x).filter fun i : Nat => inSm ss i y).map fun i : Nat => (⟨i, y, 1, 1⟩ : RC))
theorem cut_start (ss : List Sm) (W : Nat) : cutR ss W 0 0 = [] := rfl
theorem cut_row (ss : List Sm) (W y : Nat) : cutR ss W (y + 1) 0 = cutR ss W y W := by simp [cutR, List.range_succ]
theorem cut_yes {ss : List Sm} {W y x : Nat} (h : inSm ss x y = true) : cutR ss W y (x + 1) = cutR ss W y x ++ [⟨x, y, 1, 1⟩] := by simp [cutR, List.range_succ, h]
theorem cut_no {ss : List Sm} {W y x : Nat} (h : inSm ss x y = false) : cutR ss W y (x + 1) = cutR ss W y x := by simp [cutR, List.range_succ, h]
theorem cut_mem {ss : List Sm} {W H : Nat} {r : RC} : r ∈ cutR ss W H 0 ↔ ∃ x y : Nat, x < W ∧ y < H ∧ inSm ss x y = true ∧ r = ⟨x, y, 1, 1⟩ := by
  simp only [cutR, List.range_zero, List.filter_nil, List.map_nil, List.append_nil, List.mem_flatMap, List.mem_range, List.mem_map, List.mem_filter]
  constructor
  · rintro ⟨y, hy, x, ⟨hx, hi⟩, rfl⟩
    exact ⟨x, y, hx, hy, hi, rfl⟩
  · rintro ⟨x, y, hx, hy, hi, rfl⟩
    exact ⟨y, hy, x, ⟨hx, hi⟩, rfl⟩
theorem cut_in {ss : List Sm} {W H x y : Nat} (hx : x < W) (hy : y < H) : InR (cutR ss W H 0) x y ↔ inSm ss x y = true := by
  constructor
  · rintro ⟨r, hr, h⟩
    obtain ⟨x', y', h1, h2, h3, rfl⟩ := cut_mem.1 hr
    dsimp only at h
    obtain rfl : x = x' := by omega
    obtain rfl : y = y' := by omega
    exact h3
  · intro h
    exact ⟨_, cut_mem.2 ⟨x, y, hx, hy, h, rfl⟩, by dsimp only; omega, by dsimp only; omega, by dsimp only; omega, by dsimp only; omega⟩
theorem cut_cnt {ss : List Sm} {W H : Nat} (hW : W ≤ 16) (hH : H ≤ 16) : ∀ r ∈ cutR ss W H 0, r.cnt = true := fun r hr => by
  obtain ⟨x, y, h1, h2, _, rfl⟩ := cut_mem.1 hr
  rw [cnt_iff]
  dsimp only
  omega
theorem cut_len (ss : List Sm) (W y x : Nat) : (cutR ss W y x).length ≤ y * W + x := by
  unfold cutR
  rw [List.length_append, List.length_map]
  have h1 := List.length_filter_le (fun i : Nat => inSm ss i y) (List.range x)
  rw [List.length_range] at h1
  have h2 : ((List.range y).flatMap fun j : Nat => ((List.range W).filter fun i : Nat => inSm ss i j).map fun i : Nat => (⟨i, j, 1, 1⟩ : RC)).length ≤ y * W := by
    induction y with
    | zero => simp
    | succ y ih =>
      rw [List.range_succ, List.flatMap_append, List.length_append, Nat.succ_mul]
      have h3 := List.length_filter_le (fun i : Nat => inSm ss i y) (List.range W)
      rw [List.length_range] at h3
      have := ih (by have h1 := List.length_filter_le (fun i : Nat => inSm ss i y) (List.range x); rwa [List.length_range] at h1)
      simp only [List.flatMap_cons, List.flatMap_nil, List.append_nil, List.length_map]
      omega
  omega

end Go.Proofs.Ytcdecglbkcllaab
