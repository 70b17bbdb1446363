/-
  Regions joined, plainly: the cells that a rule keeps have just the places that it keeps.
-/
import Derived.Test.YtdaedkolpfkdjaaGreatZE10
section
namespace Go.Proofs.YtdaedkolpfkdjaaGreat

/-- numbers, rising, each once. -/
def insR (x : Int) : List Int → List Int
  | [] => [x]
  | y :: l => if x < y then x :: y :: l else if x = y then y :: l else y :: insR x l
def risesOf (zs : List Int) : List Int := zs.foldr insR []
theorem insR_mem (x : Int) (l : List Int) (z : Int) : z ∈ insR x l ↔ z = x ∨ z ∈ l := by
  induction l with
  | nil => simp [insR]
  | cons y l ih =>
    unfold insR
    split
    · simp
    · split
      · rename_i h
        subst h
        simp
      · simp only [List.mem_cons, ih]
        constructor
        · rintro (h | h | h)
          · exact .inr (.inl h)
          · exact .inl h
          · exact .inr (.inr h)
        · rintro (h | h | h)
          · exact .inr (.inl h)
          · exact .inl h
          · exact .inr (.inr h)
theorem insR_rises (x : Int) {l : List Int} (h : l.Pairwise (· < ·)) : (insR x l).Pairwise (· < ·) := by
  induction l with
  | nil => simp [insR]
  | cons y l ih =>
    rw [List.pairwise_cons] at h
    unfold insR
    split
    · rename_i hx
      rw [List.pairwise_cons]
      refine ⟨?_, List.pairwise_cons.2 h⟩
      intro z hz
      rcases List.mem_cons.1 hz with e | hz
      · rw [e]; exact hx
      · have := h.1 z hz
        omega
    · split
      · exact List.pairwise_cons.2 h
      · rw [List.pairwise_cons]
        refine ⟨?_, ih h.2⟩
        intro z hz
        rcases (insR_mem x l z).1 hz with e | hz
        · omega
        · exact h.1 z hz
theorem rises_ok (zs : List Int) : (risesOf zs).Pairwise (· < ·) ∧ ∀ z, z ∈ risesOf zs ↔ z ∈ zs := by
  induction zs with
  | nil => simp [risesOf]
  | cons x zs ih =>
    have e : risesOf (x :: zs) = insR x (risesOf zs) := rfl
    rw [e]
    refine ⟨insR_rises x ih.1, fun z => ?_⟩
    rw [insR_mem, ih.2 z, List.mem_cons]
theorem rises_uniq : ∀ {a b : List Int}, a.Pairwise (· < ·) → b.Pairwise (· < ·) → (∀ z, z ∈ a ↔ z ∈ b) → a = b := by
  intro a
  induction a with
  | nil =>
    intro b _ _ h
    cases b with
    | nil => rfl
    | cons y b => have := (h y).2 (by simp); cases this
  | cons x a ih =>
    intro b ha hb h
    cases b with
    | nil => have := (h x).1 (by simp); cases this
    | cons y b =>
      rw [List.pairwise_cons] at ha hb
      have e : x = y := by
        have h1 := (h x).1 (by simp)
        have h2 := (h y).2 (by simp)
        rcases List.mem_cons.1 h1 with e | h1
        · exact e
        · rcases List.mem_cons.1 h2 with e | h2
          · exact e.symm
          · have := ha.1 y h2
            have := hb.1 x h1
            omega
      subst e
      rw [ih ha.2 hb.2 (fun z => ?_)]
      constructor
      · intro hz
        rcases List.mem_cons.1 ((h z).1 (List.mem_cons_of_mem _ hz)) with e | h'
        · have := ha.1 z hz
          omega
        · exact h'
      · intro hz
        rcases List.mem_cons.1 ((h z).2 (List.mem_cons_of_mem _ hz)) with e | h'
        · have := hb.1 z hz
          omega
        · exact h'
theorem between_from {b v : Int} : ∀ (l : List Int) (c : Int), (c :: l).Pairwise (· < ·) → c ≤ v → b ∈ c :: l → v < b → ∃ k y u, (c :: l)[k]? = some y ∧ (c :: l)[k + 1]? = some u ∧ y ≤ v ∧ v < u := by
  intro l
  induction l with
  | nil =>
    intro c _ hc hb h2
    simp only [List.mem_singleton] at hb
    omega
  | cons d l ihl =>
    intro c hp hc hb h2
    by_cases hd : v < d
    · exact ⟨0, c, d, rfl, rfl, hc, hd⟩
    · have hb2 : b ∈ d :: l := by
        rcases List.mem_cons.1 hb with e | hb
        · omega
        · exact hb
      obtain ⟨k, y', u', h3, h4, h5, h6⟩ := ihl d (List.pairwise_cons.1 hp).2 (by omega) hb2 h2
      exact ⟨k + 1, y', u', by simpa using h3, by simpa using h4, h5, h6⟩
theorem rises_between {ys : List Int} (hs : ys.Pairwise (· < ·)) {a b v : Int} (ha : a ∈ ys) (hb : b ∈ ys) (h1 : a ≤ v) (h2 : v < b) : ∃ k y u, ys[k]? = some y ∧ ys[k + 1]? = some u ∧ y ≤ v ∧ v < u := by
  cases ys with
  | nil => cases ha
  | cons y ys =>
    refine between_from ys y hs ?_ hb h2
    rcases List.mem_cons.1 ha with e | ha
    · omega
    · have := (List.pairwise_cons.1 hs).1 a ha
      omega

/-- rectangles from above, and from the left; none touches another one of its row. -/
def Down (l : List RC) : Prop := l.Pairwise (fun a b => (a.Y = b.Y ∧ a.H = b.H ∧ a.X + a.W < b.X) ∨ a.Y + a.H ≤ b.Y) ∧ ∀ r ∈ l, 0 < r.W ∧ 0 < r.H
theorem canon_down {l : List RC} (h : Canon l) : Down l := by
  refine ⟨?_, canon_pos h⟩
  obtain ⟨bs, rfl, g⟩ := h
  have h1 := g.each
  have h2 := g.down
  clear g
  induction bs with
  | nil => simp [flatB]
  | cons b bs ih =>
    rw [List.pairwise_cons] at h2
    have e : flatB (b :: bs) = b.rc ++ flatB bs := by simp [flatB]
    rw [e, List.pairwise_append]
    refine ⟨?_, ih (fun b hb => h1 b (List.mem_cons_of_mem _ hb)) h2.2, ?_⟩
    · unfold Bd.rc bandL
      rw [List.pairwise_map]
      refine List.Pairwise.imp (fun {s t} hst => ?_) (h1 b (by simp)).2.2.1
      left
      dsimp only
      exact ⟨rfl, rfl, by omega⟩
    · intro r hr s hs
      right
      unfold Bd.rc bandL at hr
      obtain ⟨q, _, rfl⟩ := List.mem_map.1 hr
      unfold flatB at hs
      obtain ⟨c, hc, hs⟩ := List.mem_flatMap.1 hs
      unfold Bd.rc bandL at hs
      obtain ⟨q', _, rfl⟩ := List.mem_map.1 hs
      exact h2.1 c hc

/-- the rectangles that cross a row. -/
def hasY (r : RC) (y : Int) : Bool := decide (r.Y ≤ y) && decide (y < r.Y + r.H)
def hasX (r : RC) (x : Int) : Bool := decide (r.X ≤ x) && decide (x < r.X + r.W)
def rowOf (l : List RC) (y : Int) : List RC := l.filter (hasY · y)
/-- what is left of them where rows are asked from above. -/
def restY (l : List RC) (y : Int) : List RC := l.dropWhile (fun r => decide (r.Y + r.H ≤ y))
theorem restY_restY (l : List RC) {y y' : Int} (h : y ≤ y') : restY (restY l y) y' = restY l y' := by
  unfold restY
  induction l with
  | nil => rfl
  | cons r l ih =>
    rw [List.dropWhile_cons]
    split
    · rename_i hr
      rw [ih, List.dropWhile_cons, if_pos]
      simp only [decide_eq_true_eq] at hr ⊢
      omega
    · rfl
theorem row_rest {l : List RC} (h : Down l) (y : Int) : (restY l y).takeWhile (fun r => decide (r.Y ≤ y)) = rowOf l y := by
  obtain ⟨h1, h2⟩ := h
  unfold restY rowOf
  induction l with
  | nil => rfl
  | cons r l ih =>
    rw [List.pairwise_cons] at h1
    have hr := h2 r (by simp)
    have ih := ih h1.2 (fun s hs => h2 s (List.mem_cons_of_mem _ hs))
    rw [List.dropWhile_cons, List.filter_cons]
    split
    · rename_i hd
      rw [ih, if_neg]
      simp only [decide_eq_true_eq] at hd
      unfold hasY
      simp only [Bool.and_eq_true, decide_eq_true_eq]
      omega
    · rename_i hd
      simp only [decide_eq_true_eq] at hd
      rw [List.takeWhile_cons]
      by_cases hy : r.Y ≤ y
      · rw [if_pos (by simpa using hy), if_pos (by unfold hasY; simp only [Bool.and_eq_true, decide_eq_true_eq]; omega)]
        congr 1
        -- the ones behind it begin at its row, or below
        have key : ∀ (m : List RC), (∀ s ∈ m, (r.Y = s.Y ∧ r.H = s.H) ∨ r.Y + r.H ≤ s.Y) → (m.Pairwise (fun a b => (a.Y = b.Y ∧ a.H = b.H ∧ a.X + a.W < b.X) ∨ a.Y + a.H ≤ b.Y)) → (∀ s ∈ m, 0 < s.W ∧ 0 < s.H) → m.takeWhile (fun r => decide (r.Y ≤ y)) = m.filter (hasY · y) := by
          intro m
          induction m with
          | nil => intro _ _ _; rfl
          | cons s m ihm =>
            intro hm hp hpos
            rw [List.pairwise_cons] at hp
            have hs := hpos s (by simp)
            rw [List.takeWhile_cons, List.filter_cons]
            rcases hm s (by simp) with ⟨e1, e2⟩ | hge
            · rw [if_pos (by simp only [decide_eq_true_eq]; omega), if_pos (by unfold hasY; simp only [Bool.and_eq_true, decide_eq_true_eq]; omega), ihm (fun t ht => hm t (List.mem_cons_of_mem _ ht)) hp.2 (fun t ht => hpos t (List.mem_cons_of_mem _ ht))]
            · rw [if_neg (by simp only [decide_eq_true_eq]; omega), if_neg (by unfold hasY; simp only [Bool.and_eq_true, decide_eq_true_eq]; omega)]
              symm
              rw [List.filter_eq_nil_iff]
              intro t ht
              unfold hasY
              simp only [Bool.and_eq_true, decide_eq_true_eq]
              have := hp.1 t ht
              omega
        refine key l (fun s hs => ?_) h1.2 (fun s hs => h2 s (List.mem_cons_of_mem _ hs))
        rcases h1.1 s hs with ⟨a, b, _⟩ | c
        · exact .inl ⟨a, b⟩
        · exact .inr c
      · rw [if_neg (by simpa using hy), if_neg (by unfold hasY; simp only [Bool.and_eq_true, decide_eq_true_eq]; omega)]
        symm
        rw [List.filter_eq_nil_iff]
        intro t ht
        unfold hasY
        simp only [Bool.and_eq_true, decide_eq_true_eq]
        have := h1.1 t ht
        omega
/-- a row's rectangles stand from the left. -/
def Right (p : List RC) : Prop := p.Pairwise (fun a b => a.X + a.W < b.X) ∧ ∀ r ∈ p, 0 < r.W
theorem row_right {l : List RC} (h : Down l) (y : Int) : Right (rowOf l y) := by
  refine ⟨?_, fun r hr => (h.2 r (List.mem_filter.1 hr).1).1⟩
  unfold rowOf
  rw [List.pairwise_filter]
  refine h.1.imp (fun {a b} hab ha hb => ?_)
  unfold hasY at ha hb
  simp only [Bool.and_eq_true, decide_eq_true_eq] at ha hb
  rcases hab with ⟨_, _, c⟩ | c
  · exact c
  · omega
def restX (p : List RC) (x : Int) : List RC := p.dropWhile (fun r => decide (r.X + r.W ≤ x))
def anyX (p : List RC) (x : Int) : Bool := p.any (hasX · x)
theorem restX_restX (l : List RC) {y y' : Int} (h : y ≤ y') : restX (restX l y) y' = restX l y' := by
  unfold restX
  induction l with
  | nil => rfl
  | cons r l ih =>
    rw [List.dropWhile_cons]
    split
    · rename_i hr
      rw [ih, List.dropWhile_cons, if_pos]
      simp only [decide_eq_true_eq] at hr ⊢
      omega
    · rfl
theorem any_rest {p : List RC} (h : Right p) (x : Int) : anyX p x = (match restX p x with | [] => false | r :: _ => decide (r.X ≤ x)) := by
  obtain ⟨h1, h2⟩ := h
  unfold anyX restX
  induction p with
  | nil => rfl
  | cons r p ih =>
    rw [List.pairwise_cons] at h1
    have hr := h2 r (by simp)
    have ih := ih h1.2 (fun s hs => h2 s (List.mem_cons_of_mem _ hs))
    rw [List.any_cons]
    by_cases hd : r.X + r.W ≤ x
    · rw [List.dropWhile_cons, if_pos (by simpa using hd), ← ih, show hasX r x = false by unfold hasX; simp only [Bool.and_eq_false_iff, decide_eq_false_iff_not]; omega, Bool.false_or]
    · rw [List.dropWhile_cons, if_neg (by simpa using hd)]
      by_cases hx : r.X ≤ x
      · rw [show hasX r x = true by unfold hasX; simp only [Bool.and_eq_true, decide_eq_true_eq]; omega]
        simp [hx]
      · rw [show hasX r x = false by unfold hasX; simp only [Bool.and_eq_false_iff, decide_eq_false_iff_not]; omega, Bool.false_or]
        show p.any (hasX · x) = decide (r.X ≤ x)
        rw [show decide (r.X ≤ x) = false by simpa using hx, List.any_eq_false]
        intro s hs
        have := h1.1 s hs
        unfold hasX
        simp only [Bool.and_eq_true, decide_eq_true_eq]
        omega
/-- has one of the rectangles a place? -/
def inB (l : List RC) (x y : Int) : Bool := l.any (fun r => hasX r x && hasY r y)
theorem inB_iff (l : List RC) (x y : Int) : inB l x y = true ↔ InR l x y := by
  unfold inB InR hasX hasY
  rw [List.any_eq_true]
  constructor
  · rintro ⟨r, hr, h⟩
    simp only [Bool.and_eq_true, decide_eq_true_eq] at h
    exact ⟨r, hr, by omega⟩
  · rintro ⟨r, hr, h⟩
    refine ⟨r, hr, ?_⟩
    simp only [Bool.and_eq_true, decide_eq_true_eq]
    omega
theorem inB_row (l : List RC) (x y : Int) : inB l x y = anyX (rowOf l y) x := by
  unfold inB anyX rowOf
  rw [List.any_filter]
  congr 1
  funext r
  exact Bool.and_comm _ _

/-- where rectangles begin and end. -/
def ysE (l : List RC) : List Int := l.flatMap fun r => [r.Y, r.Y + r.H]
def xsE (l : List RC) : List Int := l.flatMap fun r => [r.X, r.X + r.W]
theorem mem_ysE (l : List RC) (y : Int) : y ∈ ysE l ↔ ∃ r ∈ l, y = r.Y ∨ y = r.Y + r.H := by simp [ysE]
theorem mem_xsE (l : List RC) (y : Int) : y ∈ xsE l ↔ ∃ r ∈ l, y = r.X ∨ y = r.X + r.W := by simp [xsE]
/-- the cells of a row that are kept, the first m of them. -/
def cellsX (keep : Bool → Bool → Bool) (p q : List RC) (y h : Int) (xs : List Int) (m : Nat) : List RC :=
  (List.range m).flatMap fun j => if keep (anyX p (xs.getD j 0)) (anyX q (xs.getD j 0)) then [⟨xs.getD j 0, y, xs.getD (j + 1) 0 - xs.getD j 0, h⟩] else []
def rowX (keep : Bool → Bool → Bool) (a b : List RC) (y h : Int) : List RC :=
  cellsX keep (rowOf a y) (rowOf b y) y h (risesOf (xsE (rowOf a y ++ rowOf b y))) ((risesOf (xsE (rowOf a y ++ rowOf b y))).length - 1)
def cellsY (keep : Bool → Bool → Bool) (a b : List RC) (ys : List Int) (m : Nat) : List RC :=
  (List.range m).flatMap fun j => rowX keep a b (ys.getD j 0) (ys.getD (j + 1) 0 - ys.getD j 0)
def joinR (keep : Bool → Bool → Bool) (a b : List RC) : List RC := cellsY keep a b (risesOf (ysE (a ++ b))) ((risesOf (ysE (a ++ b))).length - 1)
theorem cellsX_succ (keep : Bool → Bool → Bool) (p q : List RC) (y h : Int) (xs : List Int) (m : Nat) :
    cellsX keep p q y h xs (m + 1) = cellsX keep p q y h xs m ++ (if keep (anyX p (xs.getD m 0)) (anyX q (xs.getD m 0)) then [⟨xs.getD m 0, y, xs.getD (m + 1) 0 - xs.getD m 0, h⟩] else []) := by
  unfold cellsX
  rw [List.range_succ, List.flatMap_append]
  simp
theorem cellsY_succ (keep : Bool → Bool → Bool) (a b : List RC) (ys : List Int) (m : Nat) :
    cellsY keep a b ys (m + 1) = cellsY keep a b ys m ++ rowX keep a b (ys.getD m 0) (ys.getD (m + 1) 0 - ys.getD m 0) := by
  unfold cellsY
  rw [List.range_succ, List.flatMap_append]
  simp
theorem cellsX_len (keep : Bool → Bool → Bool) (p q : List RC) (y h : Int) (xs : List Int) (m : Nat) : (cellsX keep p q y h xs m).length ≤ m := by
  induction m with
  | zero => simp [cellsX]
  | succ m ih =>
    rw [cellsX_succ, List.length_append]
    split <;> simp <;> omega
theorem getD_of {l : List Int} {k : Nat} {v : Int} (h : l[k]? = some v) : l.getD k 0 = v := by simp [List.getD, h]
theorem of_getD {l : List Int} {k : Nat} (h : k < l.length) : l[k]? = some (l.getD k 0) := by simp [List.getD, h]
theorem in_cellsX (keep : Bool → Bool → Bool) (p q : List RC) (y h : Int) (xs : List Int) (r : RC) (m : Nat) (hm : m + 1 ≤ xs.length ∨ m = 0) :
    r ∈ cellsX keep p q y h xs m ↔ ∃ j x u, j < m ∧ xs[j]? = some x ∧ xs[j + 1]? = some u ∧ keep (anyX p x) (anyX q x) = true ∧ r = ⟨x, y, u - x, h⟩ := by
  unfold cellsX
  rw [List.mem_flatMap]
  constructor
  · rintro ⟨j, hj, hr⟩
    rw [List.mem_range] at hj
    split at hr
    · rename_i hk
      simp only [List.mem_singleton] at hr
      exact ⟨j, _, _, hj, of_getD (by omega), of_getD (by omega), hk, hr⟩
    · cases hr
  · rintro ⟨j, x, u, hj, hx, hu, hk, rfl⟩
    refine ⟨j, List.mem_range.2 hj, ?_⟩
    rw [getD_of hx, getD_of hu, if_pos hk]
    simp
/-- THE LAW: the cells that are kept have just the places that the rule keeps. -/
theorem join_places {keep : Bool → Bool → Bool} (hk : keep false false = false) {a b : List RC} (_ha : ∀ r ∈ a, 0 < r.W ∧ 0 < r.H) (_hb : ∀ r ∈ b, 0 < r.W ∧ 0 < r.H) (x y : Int) :
    InR (joinR keep a b) x y ↔ keep (inB a x y) (inB b x y) = true := by
  have hys := rises_ok (ysE (a ++ b))
  obtain ⟨ys, hY⟩ : ∃ ys, risesOf (ysE (a ++ b)) = ys := ⟨_, rfl⟩
  unfold joinR
  rw [hY] at hys ⊢
  have hmem : ∀ z, z ∈ ys ↔ ∃ r ∈ a ++ b, z = r.Y ∨ z = r.Y + r.H := fun z => (hys.2 z).trans (mem_ysE _ z)
  -- a row between two edges is the upper edge's
  have hrow : ∀ (l : List RC), (∀ r ∈ l, r ∈ a ++ b) → ∀ k v u, ys[k]? = some v → ys[k + 1]? = some u → v ≤ y → y < u → rowOf l y = rowOf l v := fun l hl k v u hv hu h1 h2 => by
    have hn := (edges_next hys.1 hv hu).2
    unfold rowOf
    refine List.filter_congr (fun r hr => ?_)
    have e1 := hn r.Y ((hmem _).2 ⟨r, hl r hr, .inl rfl⟩)
    have e2 := hn (r.Y + r.H) ((hmem _).2 ⟨r, hl r hr, .inr rfl⟩)
    unfold hasY
    rw [Bool.eq_iff_iff]
    simp only [Bool.and_eq_true, decide_eq_true_eq]
    omega
  -- and so is a column
  have hcol : ∀ (p q l : List RC), (∀ r ∈ l, r ∈ p ++ q) → ∀ j v u, (risesOf (xsE (p ++ q)))[j]? = some v → (risesOf (xsE (p ++ q)))[j + 1]? = some u → v ≤ x → x < u → anyX l x = anyX l v := fun p q l hl j v u hv hu h1 h2 => by
    have ho := rises_ok (xsE (p ++ q))
    have hn := (edges_next ho.1 hv hu).2
    unfold anyX
    have key : ∀ (m : List RC), (∀ r ∈ m, r ∈ p ++ q) → m.any (hasX · x) = m.any (hasX · v) := by
      intro m
      induction m with
      | nil => intro _; rfl
      | cons r m ihm =>
        intro hm
        have hr := hm r (by simp)
        have e1 := hn r.X ((ho.2 _).2 ((mem_xsE _ _).2 ⟨r, hr, .inl rfl⟩))
        have e2 := hn (r.X + r.W) ((ho.2 _).2 ((mem_xsE _ _).2 ⟨r, hr, .inr rfl⟩))
        rw [List.any_cons, List.any_cons, ihm (fun s hs => hm s (List.mem_cons_of_mem _ hs))]
        congr 1
        unfold hasX
        rw [Bool.eq_iff_iff]
        simp only [Bool.and_eq_true, decide_eq_true_eq]
        omega
    exact key l hl
  have hA : ∀ r ∈ a, r ∈ a ++ b := fun r hr => List.mem_append_left _ hr
  have hB : ∀ r ∈ b, r ∈ a ++ b := fun r hr => List.mem_append_right _ hr
  constructor
  · rintro ⟨r, hr, h1, h2, h3, h4⟩
    unfold cellsY at hr
    obtain ⟨k, hkm, hr⟩ := List.mem_flatMap.1 hr
    rw [List.mem_range] at hkm
    have hv := of_getD (l := ys) (k := k) (by omega)
    have hu := of_getD (l := ys) (k := k + 1) (by omega)
    obtain ⟨v, ev⟩ : ∃ v, ys.getD k 0 = v := ⟨_, rfl⟩
    obtain ⟨u, eu⟩ : ∃ u, ys.getD (k + 1) 0 = u := ⟨_, rfl⟩
    rw [ev] at hv hr
    rw [eu] at hu hr
    unfold rowX at hr
    obtain ⟨j, c, d, hj, hc, hd, hkeep, rfl⟩ := (in_cellsX _ _ _ _ _ _ _ _ (by omega)).1 hr
    dsimp only at h1 h2 h3 h4
    rw [inB_row, inB_row, hrow a hA k v u hv hu h3 (by omega), hrow b hB k v u hv hu h3 (by omega)]
    rw [hcol _ _ (rowOf a v) (fun r hr => List.mem_append_left _ hr) j c d hc hd h1 (by omega), hcol _ _ (rowOf b v) (fun r hr => List.mem_append_right _ hr) j c d hc hd h1 (by omega)]
    exact hkeep
  · intro hkeep
    have hin : ∃ r ∈ a ++ b, hasX r x = true ∧ hasY r y = true := by
      cases h1 : inB a x y with
      | true =>
        unfold inB at h1
        obtain ⟨r, hr, h⟩ := List.any_eq_true.1 h1
        rw [Bool.and_eq_true] at h
        exact ⟨r, hA r hr, h⟩
      | false =>
        cases h2 : inB b x y with
        | true =>
          unfold inB at h2
          obtain ⟨r, hr, h⟩ := List.any_eq_true.1 h2
          rw [Bool.and_eq_true] at h
          exact ⟨r, hB r hr, h⟩
        | false => rw [h1, h2, hk] at hkeep; cases hkeep
    obtain ⟨r, hr, hx, hy⟩ := hin
    have hy' := hy
    have hx' := hx
    unfold hasX at hx
    unfold hasY at hy
    simp only [Bool.and_eq_true, decide_eq_true_eq] at hx hy
    obtain ⟨k, v, u, hv, hu, h1, h2⟩ := rises_between hys.1 ((hmem _).2 ⟨r, hr, .inl rfl⟩) ((hmem _).2 ⟨r, hr, .inr rfl⟩) hy.1 hy.2
    have ra := hrow a hA k v u hv hu h1 h2
    have rb := hrow b hB k v u hv hu h1 h2
    have hrr : r ∈ rowOf a v ++ rowOf b v := by
      rw [← ra, ← rb]
      rcases List.mem_append.1 hr with hr | hr
      · exact List.mem_append_left _ (List.mem_filter.2 ⟨hr, hy'⟩)
      · exact List.mem_append_right _ (List.mem_filter.2 ⟨hr, hy'⟩)
    have ho := rises_ok (xsE (rowOf a v ++ rowOf b v))
    obtain ⟨j, c, d, hc, hd, h3, h4⟩ := rises_between ho.1 ((ho.2 _).2 ((mem_xsE _ _).2 ⟨r, hrr, .inl rfl⟩)) ((ho.2 _).2 ((mem_xsE _ _).2 ⟨r, hrr, .inr rfl⟩)) hx.1 hx.2
    rw [inB_row, inB_row, ra, rb, hcol _ _ (rowOf a v) (fun r hr => List.mem_append_left _ hr) j c d hc hd h3 h4, hcol _ _ (rowOf b v) (fun r hr => List.mem_append_right _ hr) j c d hc hd h3 h4] at hkeep
    have hkl := (List.getElem?_eq_some_iff.1 hu).1
    have hjl := (List.getElem?_eq_some_iff.1 hd).1
    refine ⟨⟨c, v, d - c, u - v⟩, ?_, h3, by dsimp only; omega, h1, by dsimp only; omega⟩
    unfold cellsY
    refine List.mem_flatMap.2 ⟨k, List.mem_range.2 (by omega), ?_⟩
    rw [getD_of hv, getD_of hu]
    unfold rowX
    exact (in_cellsX _ _ _ _ _ _ _ _ (by omega)).2 ⟨j, c, d, by omega, hc, hd, hkeep, rfl⟩

end Go.Proofs.YtdaedkolpfkdjaaGreat
end
