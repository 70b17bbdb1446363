/-
  Plain mathematics of a line's places: nearest whole numbers, the k-th place of a line, and that the document's answer and the program's agree. No program in sight.
-/
namespace Go.Proofs.Ytcdecglbkcllaaa.Ln

def coordB (n : Int) : Bool := decide (-1048576 ≤ n ∧ n ≤ 1048576)
def rightB (x y : Int) : Bool := coordB x && coordB y
def flatB (ax ay bx by' : Int) : Bool := decide ((by' - ay).natAbs ≤ (bx - ax).natAbs)
/-- the whole number nearest to p / n, of two as near the lesser. -/
def nr (p n : Int) : Int := if n = 0 then 0 else -((n - 2 * p) / (2 * n))
def sgn (n : Int) : Int := if n < 0 then -1 else if n = 0 then 0 else 1
/-- how many steps a line goes. -/
def stp (ax ay bx by' : Int) : Nat := if flatB ax ay bx by' then (bx - ax).natAbs else (by' - ay).natAbs
/-- the same, a whole number. -/
@[irreducible] def stpI (ax ay bx by' : Int) : Int := (stp ax ay bx by' : Int)
/-- a line's i-th place. -/
def ptx (ax ay bx by' i : Int) : Int := if flatB ax ay bx by' then ax + i * sgn (bx - ax) else ax + nr (i * (bx - ax)) (by' - ay).natAbs
def pty (ax ay bx by' i : Int) : Int := if flatB ax ay bx by' then ay + nr (i * (by' - ay)) (bx - ax).natAbs else ay + i * sgn (by' - ay)

theorem right_bd {x y : Int} (h : rightB x y = true) : -1048576 ≤ x ∧ x ≤ 1048576 ∧ -1048576 ≤ y ∧ y ≤ 1048576 := by
  simp [rightB, coordB] at h; omega
theorem right_mk {x y : Int} (h : -1048576 ≤ x ∧ x ≤ 1048576 ∧ -1048576 ≤ y ∧ y ≤ 1048576) : rightB x y = true := by
  simp [rightB, coordB]; omega
theorem stp_le {ax ay bx by' : Int} (h1 : rightB ax ay = true) (h2 : rightB bx by' = true) : stp ax ay bx by' ≤ 2097152 := by
  have := right_bd h1
  have := right_bd h2
  unfold stp; split <;> omega
theorem stpI_bd {ax ay bx by' : Int} (h1 : rightB ax ay = true) (h2 : rightB bx by' = true) : 0 ≤ stpI ax ay bx by' ∧ stpI ax ay bx by' ≤ 2097152 := by
  have := stp_le h1 h2
  unfold stpI; omega
theorem stp_max (ax ay bx by' : Int) : (stp ax ay bx by' : Int) = max ((bx - ax).natAbs : Int) (by' - ay).natAbs := by
  unfold stp flatB; split <;> (rename_i h; simp at h; omega)

/-- what fixes the nearest number. -/
theorem nr_spec (p n : Int) (hn : 0 < n) : 2 * p - n ≤ 2 * n * nr p n ∧ 2 * n * nr p n < 2 * p + n := by
  unfold nr
  rw [if_neg (by omega)]
  have h1 := Int.mul_ediv_self_le (x := n - 2 * p) (k := 2 * n) (by omega)
  have h2 := Int.lt_mul_ediv_self_add (x := n - 2 * p) (k := 2 * n) (by omega)
  have e : 2 * n * -((n - 2 * p) / (2 * n)) = -(2 * n * ((n - 2 * p) / (2 * n))) := by rw [Int.mul_neg]
  rw [e]
  omega
theorem nr_uniq (p n q : Int) (hn : 0 < n) (h1 : 2 * p - n ≤ 2 * n * q) (h2 : 2 * n * q < 2 * p + n) : q = nr p n := by
  obtain ⟨h3, h4⟩ := nr_spec p n hn
  rcases Int.lt_trichotomy q (nr p n) with h | h | h
  · have : 2 * n * (q + 1) ≤ 2 * n * nr p n := Int.mul_le_mul_of_nonneg_left (by omega) (by omega)
    rw [Int.mul_add] at this
    omega
  · exact h
  · have : 2 * n * (nr p n + 1) ≤ 2 * n * q := Int.mul_le_mul_of_nonneg_left (by omega) (by omega)
    rw [Int.mul_add] at this
    omega
theorem nr_add (p n c : Int) (hn : 0 < n) : nr (p + n * c) n = nr p n + c := by
  obtain ⟨h3, h4⟩ := nr_spec p n hn
  have e : 2 * n * (nr p n + c) = 2 * n * nr p n + 2 * (n * c) := by rw [Int.mul_add, Int.mul_assoc 2 n c]
  exact (nr_uniq _ _ _ hn (by omega) (by omega)).symm
theorem nr_exact (n c : Int) (hn : 0 < n) : nr (n * c) n = c := by
  refine (nr_uniq _ _ _ hn ?_ ?_).symm <;> (rw [Int.mul_assoc 2 n c]; omega)

theorem tdiv_eq (x y : Int) : y * x.tdiv y + x.tmod y = x := Int.mul_tdiv_add_tmod x y
theorem tmod_bd (x y : Int) (hy : 0 < y) : -y < x.tmod y ∧ x.tmod y < y := by
  have h2 := Int.tmod_lt_of_pos x hy
  have h1 := Int.tmod_lt_of_pos (-x) hy
  rw [Int.neg_tmod] at h1
  omega
theorem nr_tdiv (p n : Int) (hn : 0 < n) (h : (2 * p - n).tmod (2 * n) ≤ 0) : (2 * p - n).tdiv (2 * n) = nr p n := by
  have e := tdiv_eq (2 * p - n) (2 * n)
  have b := tmod_bd (2 * p - n) (2 * n) (by omega)
  exact nr_uniq _ _ _ hn (by omega) (by omega)
theorem nr_tdiv' (p n : Int) (hn : 0 < n) (h : 0 < (2 * p - n).tmod (2 * n)) : (2 * p - n).tdiv (2 * n) + 1 = nr p n := by
  have e := tdiv_eq (2 * p - n) (2 * n)
  have b := tmod_bd (2 * p - n) (2 * n) (by omega)
  refine nr_uniq _ _ _ hn ?_ ?_ <;> rw [Int.mul_add] <;> omega
theorem tdiv_bd (x y : Int) (h0 : -1000000000000000 ≤ x) (h1 : x ≤ 1000000000000000) : -1000000000000000 ≤ x.tdiv y ∧ x.tdiv y ≤ 1000000000000000 := by
  have := Int.natAbs_tdiv_le_natAbs x y
  omega

theorem nr_bd (p n m : Int) (hn : 0 ≤ n) (hm : 0 ≤ m) (h1 : -(m * n) ≤ p) (h2 : p ≤ m * n) : -m ≤ nr p n ∧ nr p n ≤ m := by
  by_cases h0 : n = 0
  · subst h0; simp [nr]; omega
  · have hn' : 0 < n := by omega
    obtain ⟨h3, h4⟩ := nr_spec p n hn'
    constructor
    · by_cases h : -m ≤ nr p n
      · exact h
      · have : 2 * n * (nr p n + 1) ≤ 2 * n * (-m) := Int.mul_le_mul_of_nonneg_left (by omega) (by omega)
        rw [Int.mul_add, Int.mul_neg, Int.mul_assoc 2 n m, Int.mul_comm n m] at this
        omega
    · by_cases h : nr p n ≤ m
      · exact h
      · have : 2 * n * (m + 1) ≤ 2 * n * nr p n := Int.mul_le_mul_of_nonneg_left (by omega) (by omega)
        rw [Int.mul_add, Int.mul_assoc 2 n m, Int.mul_comm n m] at this
        omega

theorem mul_bd (i d n m : Int) (hi0 : 0 ≤ i) (hi : i ≤ n) (hd : -m ≤ d ∧ d ≤ m) : -(n * m) ≤ i * d ∧ i * d ≤ n * m := by
  have hm : 0 ≤ m := by omega
  have h1 : i * m ≤ n * m := Int.mul_le_mul_of_nonneg_right hi hm
  have h2 : i * d ≤ i * m := Int.mul_le_mul_of_nonneg_left hd.2 hi0
  have h3 : i * (-m) ≤ i * d := Int.mul_le_mul_of_nonneg_left hd.1 hi0
  rw [Int.mul_neg] at h3
  omega

theorem nr_mono (p q n : Int) (hn : 0 ≤ n) (h : p ≤ q) : nr p n ≤ nr q n := by
  by_cases h0 : n = 0
  · subst h0; simp [nr]
  · obtain ⟨h3, h4⟩ := nr_spec p n (by omega)
    obtain ⟨h5, h6⟩ := nr_spec q n (by omega)
    by_cases hh : nr p n ≤ nr q n
    · exact hh
    · have : 2 * n * (nr q n + 1) ≤ 2 * n * nr p n := Int.mul_le_mul_of_nonneg_left (by omega) (by omega)
      rw [Int.mul_add] at this
      omega
theorem nr_zero (n : Int) (hn : 0 ≤ n) : nr 0 n = 0 := by
  by_cases h0 : n = 0
  · subst h0; simp [nr]
  · exact (nr_uniq _ _ _ (by omega) (by omega) (by omega)).symm
/-- the nearest number of a step on the way lies on the way. -/
theorem nr_way (i n d : Int) (h0 : 0 ≤ i) (hi : i ≤ n) (hd : -n ≤ d ∧ d ≤ n) : (0 ≤ nr (i * d) n ∧ nr (i * d) n ≤ d) ∨ (d ≤ nr (i * d) n ∧ nr (i * d) n ≤ 0) := by
  by_cases hn : n = 0
  · subst hn; simp [nr]; omega
  · have e0 := nr_zero n (by omega)
    have e1 := nr_exact n d (by omega)
    by_cases hd0 : 0 ≤ d
    · left
      have h1 : 0 ≤ i * d := Int.mul_nonneg h0 hd0
      have h2 : i * d ≤ n * d := Int.mul_le_mul_of_nonneg_right hi hd0
      have m1 := nr_mono 0 (i * d) n (by omega) h1
      have m2 := nr_mono (i * d) (n * d) n (by omega) h2
      omega
    · right
      have h1 : 0 ≤ i * (-d) := Int.mul_nonneg h0 (by omega)
      have h2 : i * (-d) ≤ n * (-d) := Int.mul_le_mul_of_nonneg_right hi (by omega)
      rw [Int.mul_neg] at h1 h2
      rw [Int.mul_neg] at h2
      have m1 := nr_mono (i * d) 0 n (by omega) (by omega)
      have m2 := nr_mono (n * d) (i * d) n (by omega) (by omega)
      omega
theorem sgn_mul (i d : Int) : i * sgn d = if d < 0 then -i else if d = 0 then 0 else i := by
  unfold sgn; split <;> (try split) <;> omega
theorem flat_iff (ax ay bx by' : Int) : flatB ax ay bx by' = true ↔ (by' - ay).natAbs ≤ (bx - ax).natAbs := by simp [flatB]
theorem flat_iff' (ax ay bx by' : Int) : flatB ax ay bx by' = false ↔ (bx - ax).natAbs < (by' - ay).natAbs := by simp [flatB]
/-- each place of a line of right points is right. -/
theorem pt_right {ax ay bx by' : Int} (h1 : rightB ax ay = true) (h2 : rightB bx by' = true) (i : Int) (hi0 : 0 ≤ i) (hi : i ≤ stp ax ay bx by') : rightB (ptx ax ay bx by' i) (pty ax ay bx by' i) = true := by
  have b1 := right_bd h1
  have b2 := right_bd h2
  refine right_mk ?_
  unfold stp at hi
  unfold ptx pty
  cases hf : flatB ax ay bx by' <;> simp only [hf, if_true, if_false, Bool.false_eq_true] at hi ⊢
  · have hf := (flat_iff' _ _ _ _).1 hf
    have := nr_way i (by' - ay).natAbs (bx - ax) hi0 hi (by omega)
    rw [sgn_mul]
    split <;> (try split) <;> omega
  · have hf := (flat_iff _ _ _ _).1 hf
    have := nr_way i (bx - ax).natAbs (by' - ay) hi0 hi (by omega)
    rw [sgn_mul]
    split <;> (try split) <;> omega

/-! the document's answer -/
/-- 'near' of the document: of the exact line the nearest, by floor. -/
def rq (n d : Int) : Int := if n < n.tdiv d * d then n.tdiv d - 1 else n.tdiv d
def rnear (n d : Int) : Int := if d < 2 * (n - rq n d * d) then rq n d + 1 else rq n d
theorem rq_spec (n d : Int) (hd : 0 < d) : rq n d * d ≤ n ∧ n < rq n d * d + d := by
  have e := tdiv_eq n d
  have b := tmod_bd n d hd
  rw [Int.mul_comm] at e
  unfold rq
  split
  · rw [Int.sub_mul]; omega
  · omega
theorem rnear_eq (n d : Int) (hd : 0 < d) : rnear n d = nr n d := by
  obtain ⟨h1, h2⟩ := rq_spec n d hd
  unfold rnear
  split
  · refine nr_uniq _ _ _ hd ?_ ?_ <;> (rw [Int.mul_assoc, Int.mul_comm d, Int.add_mul]; omega)
  · refine nr_uniq _ _ _ hd ?_ ?_ <;> (rw [Int.mul_assoc, Int.mul_comm d]; omega)
/-- the other way round the same places. -/
theorem nr_back (i n d : Int) (hn : 0 ≤ n) (hd : -n ≤ d ∧ d ≤ n) : nr ((n - i) * (-d)) n = nr (i * d) n - d := by
  by_cases h0 : n = 0
  · subst h0; simp [nr]; omega
  · have := nr_add (i * d) n (-d) (by omega)
    rw [show (n - i) * (-d) = i * d + n * (-d) from by rw [Int.sub_mul, Int.mul_neg, Int.mul_neg]; omega, this]
    omega
theorem flat_sym (ax ay bx by' : Int) : flatB bx by' ax ay = flatB ax ay bx by' := by
  rw [Bool.eq_iff_iff, flat_iff, flat_iff]; omega
theorem stp_sym (ax ay bx by' : Int) : stp bx by' ax ay = stp ax ay bx by' := by
  unfold stp; rw [flat_sym]; split <;> omega
theorem sgn_neg (d : Int) : sgn (-d) = - sgn d := by unfold sgn; split <;> (try split) <;> (try split) <;> omega
theorem sgn_abs (d : Int) : (d.natAbs : Int) * sgn d = d := by rw [sgn_mul]; split <;> (try split) <;> omega
theorem ptx_back (ax ay bx by' i : Int) : ptx bx by' ax ay (stp ax ay bx by' - i) = ptx ax ay bx by' i := by
  unfold ptx stp
  rw [flat_sym]
  cases hf : flatB ax ay bx by' <;> simp only [if_true, if_false, Bool.false_eq_true]
  · have hf := (flat_iff' _ _ _ _).1 hf
    have := nr_back i (by' - ay).natAbs (bx - ax) (by omega) (by omega)
    rw [show ax - bx = -(bx - ax) from by omega, show (ay - by').natAbs = (by' - ay).natAbs from by omega, this]
    omega
  · rw [show ax - bx = -(bx - ax) from by omega, sgn_neg, Int.sub_mul, Int.mul_neg, Int.mul_neg, sgn_abs]
    omega
theorem pty_back (ax ay bx by' i : Int) : pty bx by' ax ay (stp ax ay bx by' - i) = pty ax ay bx by' i := by
  unfold pty stp
  rw [flat_sym]
  cases hf : flatB ax ay bx by' <;> simp only [if_true, if_false, Bool.false_eq_true]
  · rw [show ay - by' = -(by' - ay) from by omega, sgn_neg, Int.sub_mul, Int.mul_neg, Int.mul_neg, sgn_abs]
    omega
  · have hf := (flat_iff _ _ _ _).1 hf
    have := nr_back i (bx - ax).natAbs (by' - ay) (by omega) (by omega)
    rw [show ay - by' = -(by' - ay) from by omega, show (ax - bx).natAbs = (bx - ax).natAbs from by omega, this]
    omega
theorem pt_first (ax ay bx by' : Int) : ptx ax ay bx by' 0 = ax ∧ pty ax ay bx by' 0 = ay := by
  unfold ptx pty
  split <;> simp [nr_zero]
theorem pt_last (ax ay bx by' : Int) : ptx ax ay bx by' (stp ax ay bx by') = bx ∧ pty ax ay bx by' (stp ax ay bx by') = by' := by
  have h := pt_first bx by' ax ay
  have h1 := ptx_back ax ay bx by' (stp ax ay bx by')
  have h2 := pty_back ax ay bx by' (stp ax ay bx by')
  rw [Int.sub_self] at h1 h2
  exact ⟨h1.symm.trans h.1, h2.symm.trans h.2⟩
/-- a step goes one place at most. -/
theorem nr_step (i n d : Int) (hn : 0 ≤ n) (hd : -n ≤ d ∧ d ≤ n) : -1 ≤ nr ((i + 1) * d) n - nr (i * d) n ∧ nr ((i + 1) * d) n - nr (i * d) n ≤ 1 := by
  by_cases h0 : n = 0
  · subst h0; simp [nr]
  · have e : (i + 1) * d = i * d + d := by rw [Int.add_mul, Int.one_mul]
    have a1 := nr_add (i * d) n 1 (by omega)
    have a2 := nr_add (i * d) n (-1) (by omega)
    have m1 := nr_mono ((i + 1) * d) (i * d + n * 1) n hn (by omega)
    have m2 := nr_mono (i * d + n * (-1)) ((i + 1) * d) n hn (by omega)
    omega
theorem pt_next (ax ay bx by' i : Int) (h : 0 < stp ax ay bx by') :
    max (max (ptx ax ay bx by' i - ptx ax ay bx by' (i + 1)) (ptx ax ay bx by' (i + 1) - ptx ax ay bx by' i)) (max (pty ax ay bx by' i - pty ax ay bx by' (i + 1)) (pty ax ay bx by' (i + 1) - pty ax ay bx by' i)) = 1 := by
  unfold stp at h
  unfold ptx pty
  cases hf : flatB ax ay bx by' <;> simp only [hf, if_true, if_false, Bool.false_eq_true] at h ⊢
  · have hf := (flat_iff' _ _ _ _).1 hf
    have := nr_step i (by' - ay).natAbs (bx - ax) (by omega) (by omega)
    rw [sgn_mul, sgn_mul]
    split <;> (try split) <;> omega
  · have hf := (flat_iff _ _ _ _).1 hf
    have := nr_step i (bx - ax).natAbs (by' - ay) (by omega) (by omega)
    rw [sgn_mul, sgn_mul]
    split <;> (try split) <;> omega
/-- moved and turned. -/
theorem pt_move (ax ay bx by' dx dy i : Int) : ptx (ax + dx) (ay + dy) (bx + dx) (by' + dy) i = ptx ax ay bx by' i + dx ∧ pty (ax + dx) (ay + dy) (bx + dx) (by' + dy) i = pty ax ay bx by' i + dy ∧ stp (ax + dx) (ay + dy) (bx + dx) (by' + dy) = stp ax ay bx by' := by
  unfold ptx pty stp flatB
  rw [show bx + dx - (ax + dx) = bx - ax from by omega, show by' + dy - (ay + dy) = by' - ay from by omega]
  split <;> omega
theorem nr_diag (i n d : Int) (h : d.natAbs = n) : nr (i * d) n = i * sgn d := by
  by_cases h0 : n = 0
  · subst h0; have : d = 0 := by omega
    subst this; simp [nr, sgn]
  · have e : i * d = n * (i * sgn d) := by
      rw [← h, Int.mul_left_comm, sgn_abs]
    rw [e, nr_exact _ _ (by omega)]
theorem pt_turn (ax ay bx by' i : Int) : ptx ay ax by' bx i = pty ax ay bx by' i ∧ pty ay ax by' bx i = ptx ax ay bx by' i ∧ stp ay ax by' bx = stp ax ay bx by' := by
  unfold ptx pty stp
  cases hf : flatB ax ay bx by' <;> cases hg : flatB ay ax by' bx <;> simp only [if_true, if_false, Bool.false_eq_true] <;> simp only [flat_iff, flat_iff'] at hf hg
  · omega
  · simp
  · simp
  · rw [nr_diag i _ (bx - ax) (by omega), nr_diag i _ (by' - ay) (by omega)]
    exact ⟨rfl, rfl, by omega⟩

/-! the document's k-th place, way by way -/
theorem at_flat_up (ax ay bx by' k : Int) (hf : flatB ax ay bx by' = true) (h : ax < bx) :
    ax + k = ptx ax ay bx by' k ∧ ay + rnear ((ax + k - ax) * (by' - ay)) (bx - ax) = pty ax ay bx by' k := by
  unfold ptx pty
  rw [if_pos hf, if_pos hf, rnear_eq _ _ (by omega), sgn_mul, if_neg (by omega), if_neg (by omega), show ax + k - ax = k from by omega, show ((bx - ax).natAbs : Int) = bx - ax from by omega]
  exact ⟨rfl, rfl⟩
theorem at_flat_down (ax ay bx by' k : Int) (hf : flatB ax ay bx by' = true) (h : bx < ax) :
    ax - k = ptx ax ay bx by' k ∧ by' + rnear ((ax - k - bx) * (ay - by')) (ax - bx) = pty ax ay bx by' k := by
  have hf' := (flat_iff _ _ _ _).1 hf
  have := nr_back k (ax - bx) (by' - ay) (by omega) (by omega)
  unfold ptx pty
  rw [if_pos hf, if_pos hf, rnear_eq _ _ (by omega), sgn_mul, if_pos (by omega), show ax - k - bx = ax - bx - k from by omega, show ay - by' = -(by' - ay) from by omega, this, show ((bx - ax).natAbs : Int) = ax - bx from by omega]
  omega
theorem at_steep_up (ax ay bx by' k : Int) (hf : flatB ax ay bx by' = false) (h : ay < by') :
    ax + rnear ((ay + k - ay) * (bx - ax)) (by' - ay) = ptx ax ay bx by' k ∧ ay + k = pty ax ay bx by' k := by
  unfold ptx pty
  rw [if_neg (by simp [hf]), if_neg (by simp [hf]), rnear_eq _ _ (by omega), sgn_mul, if_neg (by omega), if_neg (by omega), show ay + k - ay = k from by omega, show ((by' - ay).natAbs : Int) = by' - ay from by omega]
  exact ⟨rfl, rfl⟩
theorem at_steep_down (ax ay bx by' k : Int) (hf : flatB ax ay bx by' = false) (h : by' < ay) :
    bx + rnear ((ay - k - by') * (ax - bx)) (ay - by') = ptx ax ay bx by' k ∧ ay - k = pty ax ay bx by' k := by
  have hf' := (flat_iff' _ _ _ _).1 hf
  have := nr_back k (ay - by') (bx - ax) (by omega) (by omega)
  unfold ptx pty
  rw [if_neg (by simp [hf]), if_neg (by simp [hf]), rnear_eq _ _ (by omega), sgn_mul, if_pos (by omega), show ay - k - by' = ay - by' - k from by omega, show ax - bx = -(bx - ax) from by omega, this, show ((by' - ay).natAbs : Int) = ay - by' from by omega]
  omega

end Go.Proofs.Ytcdecglbkcllaaa.Ln
