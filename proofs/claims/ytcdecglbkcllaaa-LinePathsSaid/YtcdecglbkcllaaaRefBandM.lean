/-
  Plain facts of the document's answer for a band: edges that rise, stretches of a row, rows put together: what it tells is Canon and has the places.
-/
import Derived.Test.YtcdecglbkcllaaaBandOf
import Derived.Test.YtcdecglbkcllaaaRefPutM
namespace Go.Proofs.Ytcdecglbkcllaaa

/-- a stretch more: the last one goes on, or a new one begins. -/
def spAdd (acc : List Span) (a b : Int) : List Span := match acc.getLast? with
  | some s => if s.2 = a then acc.dropLast ++ [(s.1, b)] else acc ++ [(a, b)]
  | none => [(a, b)]
theorem spAdd_nil (a b : Int) : spAdd [] a b = [(a, b)] := rfl
theorem spAdd_last (l : List Span) (s : Span) (a b : Int) : spAdd (l ++ [s]) a b = if s.2 = a then l ++ [(s.1, b)] else l ++ [s] ++ [(a, b)] := by simp [spAdd]
theorem InS_append (l m : List Span) (x : Int) : InS (l ++ m) x ↔ InS l x ∨ InS m x := by
  unfold InS
  constructor
  · rintro ⟨s, hs, h⟩
    rcases List.mem_append.1 hs with hs | hs
    · exact .inl ⟨s, hs, h⟩
    · exact .inr ⟨s, hs, h⟩
  · rintro (⟨s, hs, h⟩ | ⟨s, hs, h⟩)
    · exact ⟨s, by simp [hs], h⟩
    · exact ⟨s, by simp [hs], h⟩
theorem InS_one (s : Span) (x : Int) : InS [s] x ↔ s.1 ≤ x ∧ x < s.2 := by simp [InS]
theorem spAdd_ok {acc : List Span} {a b : Int} (h : Apart acc) (hl : ∀ s ∈ acc, s.2 ≤ a) (hab : a < b) :
    Apart (spAdd acc a b) ∧ (∀ s ∈ spAdd acc a b, s.2 ≤ b) ∧ ∀ x, InS (spAdd acc a b) x ↔ InS acc x ∨ (a ≤ x ∧ x < b) := by
  rcases List.eq_nil_or_concat acc with rfl | ⟨l, s, rfl⟩
  · rw [spAdd_nil]
    refine ⟨⟨by simp, fun s hs => ?_⟩, fun s hs => ?_, fun x => ?_⟩
    · simp only [List.mem_singleton] at hs; subst hs; exact hab
    · simp only [List.mem_singleton] at hs; subst hs; exact Int.le_refl _
    · rw [InS_one]
      constructor
      · exact fun h => .inr h
      · rintro (⟨s, hs, _⟩ | h)
        · cases hs
        · exact h
  · rw [List.concat_eq_append] at h hl ⊢
    rw [spAdd_last]
    obtain ⟨h1, h2⟩ := h
    have hs := h2 s (by simp)
    have hsl := hl s (by simp)
    obtain ⟨p1, p2, p3⟩ := List.pairwise_append.1 h1
    have hls : ∀ q ∈ l, q.2 < s.1 := fun q hq => p3 q hq s (by simp)
    split
    · rename_i hsa
      refine ⟨⟨List.pairwise_append.2 ⟨p1, by simp, fun q hq r hr => ?_⟩, fun q hq => ?_⟩, fun q hq => ?_, fun x => ?_⟩
      · simp only [List.mem_singleton] at hr; subst hr; exact hls q hq
      · rcases List.mem_append.1 hq with hq | hq
        · exact h2 q (by simp [hq])
        · simp only [List.mem_singleton] at hq; subst hq; dsimp only; omega
      · rcases List.mem_append.1 hq with hq | hq
        · have := hl q (by simp [hq]); omega
        · simp only [List.mem_singleton] at hq; subst hq; exact Int.le_refl _
      · rw [InS_append, InS_append, InS_one, InS_one]
        dsimp only
        constructor
        · rintro (h | h)
          · exact .inl (.inl h)
          · by_cases hx : x < s.2
            · exact .inl (.inr ⟨h.1, hx⟩)
            · exact .inr (by omega)
        · rintro ((h | h) | h)
          · exact .inl h
          · exact .inr (by omega)
          · exact .inr (by omega)
    · rename_i hsa
      refine ⟨⟨List.pairwise_append.2 ⟨h1, by simp, fun q hq r hr => ?_⟩, fun q hq => ?_⟩, fun q hq => ?_, fun x => ?_⟩
      · simp only [List.mem_singleton] at hr
        subst hr
        dsimp only
        rcases List.mem_append.1 hq with hq | hq
        · have := hls q hq; omega
        · simp only [List.mem_singleton] at hq; subst hq; omega
      · rcases List.mem_append.1 hq with hq | hq
        · exact h2 q hq
        · simp only [List.mem_singleton] at hq; subst hq; exact hab
      · rcases List.mem_append.1 hq with hq | hq
        · have := hl q hq; omega
        · simp only [List.mem_singleton] at hq; subst hq; exact Int.le_refl _
      · rw [InS_append, InS_one]
/-- the stretches of a row, edge by edge. -/
def spGo (C : Int → Bool) : List Span → List Int → List Span
  | acc, a :: b :: r => spGo C (if C a then spAdd acc a b else acc) (b :: r)
  | acc, _ => acc
/-- the last edge. -/
def lastD (a : Int) : List Int → Int
  | [] => a
  | b :: r => lastD b r
/-- between two edges the row is alike. -/
def ConstR (C : Int → Bool) : List Int → Prop
  | a :: b :: r => (a < b ∧ ∀ x, a ≤ x → x < b → C x = C a) ∧ ConstR C (b :: r)
  | _ => True
theorem spGo_ok (C : Int → Bool) : ∀ (r : List Int) (a : Int) (acc : List Span), ConstR C (a :: r) → Apart acc → (∀ s ∈ acc, s.2 ≤ a) →
    Apart (spGo C acc (a :: r)) ∧ (∀ s ∈ spGo C acc (a :: r), s.2 ≤ lastD a r) ∧ ∀ x, InS (spGo C acc (a :: r)) x ↔ InS acc x ∨ (C x = true ∧ a ≤ x ∧ x < lastD a r)
  | [], a, acc, _, h, hl => by
    refine ⟨h, hl, fun x => ?_⟩
    simp only [spGo, lastD]
    constructor
    · exact fun h => .inl h
    · rintro (h | h)
      · exact h
      · omega
  | b :: r, a, acc, hc, h, hl => by
    obtain ⟨⟨hab, hcc⟩, hc2⟩ := hc
    have e : lastD a (b :: r) = lastD b r := rfl
    have hlast : b ≤ lastD b r := by
      clear e hcc hab
      have : ∀ (r : List Int) (b : Int), ConstR C (b :: r) → b ≤ lastD b r := by
        intro r
        induction r with
        | nil => intro b _; exact Int.le_refl _
        | cons c r ih =>
          intro b h
          have := ih c h.2
          have h1 := h.1.1
          show b ≤ lastD c r
          omega
      exact this r b hc2
    rw [e]
    simp only [spGo]
    cases hca : C a
    · simp only [Bool.false_eq_true, if_false]
      obtain ⟨g1, g2, g3⟩ := spGo_ok C r b acc hc2 h (fun s hs => by have := hl s hs; omega)
      refine ⟨g1, g2, fun x => ?_⟩
      rw [g3]
      constructor
      · rintro (h | ⟨h1, h2, h3⟩)
        · exact .inl h
        · exact .inr ⟨h1, by omega, h3⟩
      · rintro (h | ⟨h1, h2, h3⟩)
        · exact .inl h
        · by_cases hx : x < b
          · rw [hcc x h2 hx, hca] at h1
            cases h1
          · exact .inr ⟨h1, by omega, h3⟩
    · simp only [if_true]
      obtain ⟨k1, k2, k3⟩ := spAdd_ok h hl hab
      obtain ⟨g1, g2, g3⟩ := spGo_ok C r b (spAdd acc a b) hc2 k1 k2
      refine ⟨g1, g2, fun x => ?_⟩
      rw [g3, k3]
      constructor
      · rintro ((h | h) | ⟨h1, h2, h3⟩)
        · exact .inl h
        · exact .inr ⟨by rw [hcc x h.1 h.2]; exact hca, h.1, by omega⟩
        · exact .inr ⟨h1, by omega, h3⟩
      · rintro (h | ⟨h1, h2, h3⟩)
        · exact .inl (.inl h)
        · by_cases hx : x < b
          · exact .inl (.inr ⟨h2, hx⟩)
          · exact .inr ⟨h1, by omega, h3⟩

/-- the rows, edge by edge: a band goes on, or a new one begins. -/
def rwGo (S : Int → List Span) : List Bd → List Span → List Int → List Bd
  | bs, last, a :: b :: r =>
    if last ≠ [] ∧ S a = last then (match bs.getLast? with
      | some d => rwGo S (bs.dropLast ++ [⟨d.y, d.h + (b - a), d.sp⟩]) last (b :: r)
      | none => rwGo S bs last (b :: r))
    else if S a = [] then rwGo S bs [] (b :: r) else rwGo S (bs ++ [⟨a, b - a, S a⟩]) (S a) (b :: r)
  | bs, _, _ => bs
/-- what holds between two rows. -/
structure RwInv (bs : List Bd) (last : List Span) (a : Int) : Prop where
  good : GoodB bs
  above : ∀ d ∈ bs, d.y + d.h ≤ a
  on : last ≠ [] → ∃ bs0 d, bs = bs0 ++ [d] ∧ d.sp = last ∧ d.y + d.h = a
  off : last = [] → ∀ d ∈ bs, d.y + d.h < a
def ConstS (K : Int → Int → Prop) (S : Int → List Span) : List Int → Prop
  | a :: b :: r => (a < b ∧ Apart (S a) ∧ ∀ v, a ≤ v → v < b → ∀ x, K x v ↔ InS (S a) x) ∧ ConstS K S (b :: r)
  | _ => True
theorem inB_snoc (bs : List Bd) (d : Bd) (x y : Int) : InR (flatB (bs ++ [d])) x y ↔ InR (flatB bs) x y ∨ (InS d.sp x ∧ d.y ≤ y ∧ y < d.y + d.h) := by
  rw [flatB_append, flatB_one, in_append, Bd.rc, in_band]
theorem rwGo_ok (K : Int → Int → Prop) (S : Int → List Span) : ∀ (r : List Int) (a : Int) (bs : List Bd) (last : List Span), ConstS K S (a :: r) → RwInv bs last a →
    GoodB (rwGo S bs last (a :: r)) ∧ ∀ x v, InR (flatB (rwGo S bs last (a :: r))) x v ↔ InR (flatB bs) x v ∨ (K x v ∧ a ≤ v ∧ v < lastD a r)
  | [], a, bs, last, _, I => by
    refine ⟨I.good, fun x v => ?_⟩
    simp only [rwGo, lastD]
    exact ⟨fun h => .inl h, fun h => h.elim id (fun h => by omega)⟩
  | b :: r, a, bs, last, hc, I => by
    obtain ⟨⟨hab, hap, hk⟩, hc2⟩ := hc
    have hlast : b ≤ lastD b r := by
      have : ∀ (r : List Int) (b : Int), ConstS K S (b :: r) → b ≤ lastD b r := by
        intro r
        induction r with
        | nil => intro b _; exact Int.le_refl _
        | cons c r ih =>
          intro b h
          have := ih c h.2
          have h1 := h.1.1
          show b ≤ lastD c r
          omega
      exact this r b hc2
    show GoodB (rwGo S bs last (a :: b :: r)) ∧ ∀ x v, InR (flatB (rwGo S bs last (a :: b :: r))) x v ↔ InR (flatB bs) x v ∨ (K x v ∧ a ≤ v ∧ v < lastD b r)
    unfold rwGo
    by_cases h1 : last ≠ [] ∧ S a = last
    · rw [if_pos h1]
      obtain ⟨bs0, d, rfl, hsp, hd⟩ := I.on h1.1
      have hg := (good_snoc bs0 d).1 I.good
      simp only [List.getLast?_append, List.getLast?_singleton, Option.some_or, List.dropLast_concat]
      have I2 : RwInv (bs0 ++ [⟨d.y, d.h + (b - a), d.sp⟩]) last b := by
        refine ⟨(good_snoc _ _).2 ⟨hg.1, ⟨by have := hg.2.1.1; dsimp only; omega, hg.2.1.2⟩, hg.2.2.1, hg.2.2.2⟩, fun q hq => ?_, fun _ => ⟨bs0, _, rfl, hsp, by dsimp only; omega⟩, fun h => absurd h h1.1⟩
        rcases List.mem_append.1 hq with hq | hq
        · have := I.above q (by simp [hq]); omega
        · simp only [List.mem_singleton] at hq; subst hq; dsimp only; omega
      obtain ⟨g1, g2⟩ := rwGo_ok K S r b _ last hc2 I2
      refine ⟨g1, fun x v => ?_⟩
      rw [g2, inB_snoc, inB_snoc]
      dsimp only
      have hkk : ∀ v, a ≤ v → v < b → (K x v ↔ InS d.sp x) := fun v h3 h4 => by rw [hk v h3 h4, h1.2, hsp]
      constructor
      · rintro ((h | ⟨h2, h3, h4⟩) | ⟨h2, h3, h4⟩)
        · exact .inl (.inl h)
        · by_cases hv : v < d.y + d.h
          · exact .inl (.inr ⟨h2, h3, hv⟩)
          · exact .inr ⟨(hkk v (by omega) (by omega)).2 h2, by omega, by omega⟩
        · exact .inr ⟨h2, by omega, h4⟩
      · rintro ((h | ⟨h2, h3, h4⟩) | ⟨h2, h3, h4⟩)
        · exact .inl (.inl h)
        · exact .inl (.inr ⟨h2, h3, by omega⟩)
        · by_cases hv : v < b
          · have hdh := hg.2.1.1
            exact .inl (.inr ⟨(hkk v h3 hv).1 h2, by omega, by omega⟩)
          · exact .inr ⟨h2, by omega, h4⟩
    · rw [if_neg h1]
      by_cases h2 : S a = []
      · rw [if_pos h2]
        have I2 : RwInv bs [] b := ⟨I.good, fun q hq => by have := I.above q hq; omega, fun h => absurd rfl h, fun _ q hq => by have := I.above q hq; omega⟩
        obtain ⟨g1, g2⟩ := rwGo_ok K S r b bs [] hc2 I2
        refine ⟨g1, fun x v => ?_⟩
        rw [g2]
        constructor
        · rintro (h | ⟨h3, h4, h5⟩)
          · exact .inl h
          · exact .inr ⟨h3, by omega, h5⟩
        · rintro (h | ⟨h3, h4, h5⟩)
          · exact .inl h
          · by_cases hv : v < b
            · have := (hk v h4 hv x).1 h3
              rw [h2] at this
              obtain ⟨s, hs, _⟩ := this
              cases hs
            · exact .inr ⟨h3, by omega, h5⟩
      · rw [if_neg h2]
        have I2 : RwInv (bs ++ [⟨a, b - a, S a⟩]) (S a) b := by
          refine ⟨(good_snoc _ _).2 ⟨I.good, ⟨by dsimp only; omega, h2, hap⟩, fun q hq => I.above q hq, fun bs0 q e hq => ?_⟩, fun q hq => ?_, fun _ => ⟨bs, _, rfl, rfl, by dsimp only; omega⟩, fun h => absurd h h2⟩
          · dsimp only at hq ⊢
            by_cases hl : last = []
            · have := I.off hl q (by rw [e]; simp)
              omega
            · obtain ⟨bs1, d, e1, hsp, _⟩ := I.on hl
              rw [e1] at e
              obtain ⟨_, e2⟩ := List.append_inj' e rfl
              injection e2 with e2 _
              subst e2
              rw [hsp]
              exact fun h => h1 ⟨hl, h.symm⟩
          · rcases List.mem_append.1 hq with hq | hq
            · have := I.above q hq; omega
            · simp only [List.mem_singleton] at hq; subst hq; dsimp only; omega
        obtain ⟨g1, g2⟩ := rwGo_ok K S r b _ (S a) hc2 I2
        refine ⟨g1, fun x v => ?_⟩
        rw [g2, inB_snoc]
        dsimp only
        constructor
        · rintro ((h | ⟨h3, h4, h5⟩) | ⟨h3, h4, h5⟩)
          · exact .inl h
          · exact .inr ⟨(hk v h4 (by omega) x).2 h3, h4, by omega⟩
          · exact .inr ⟨h3, by omega, h5⟩
        · rintro (h | ⟨h3, h4, h5⟩)
          · exact .inl (.inl h)
          · by_cases hv : v < b
            · exact .inl (.inr ⟨(hk v h4 hv x).1 h3, h4, by omega⟩)
            · exact .inr ⟨h3, by omega, h5⟩

theorem rise_bd : ∀ (r : List Int) (a : Int), (a :: r).Pairwise (· < ·) → ∀ e ∈ a :: r, a ≤ e ∧ e ≤ lastD a r
  | [], a, _, e, he => by simp only [List.mem_singleton] at he; subst he; exact ⟨Int.le_refl _, Int.le_refl _⟩
  | b :: r, a, h, e, he => by
    obtain ⟨h1, h2⟩ := List.pairwise_cons.1 h
    have hab := h1 b (by simp)
    have hb := rise_bd r b h2 b (by simp)
    show a ≤ e ∧ e ≤ lastD b r
    rcases List.mem_cons.1 he with rfl | he
    · omega
    · have := rise_bd r b h2 e he
      omega
theorem constR_of (E : Int → Prop) (C : Int → Bool) (hC : ∀ a x, (∀ e, E e → (e ≤ a ↔ e ≤ x)) → C x = C a) : ∀ (r : List Int) (a : Int), (a :: r).Pairwise (· < ·) → (∀ e, E e → e ∈ a :: r ∨ e < a) → ConstR C (a :: r)
  | [], _, _, _ => trivial
  | b :: r, a, h, he => by
    obtain ⟨h1, h2⟩ := List.pairwise_cons.1 h
    have hab := h1 b (by simp)
    refine ⟨⟨hab, fun x h3 h4 => hC a x (fun e hE => ?_)⟩, constR_of E C hC r b h2 (fun e hE => ?_)⟩
    · rcases he e hE with h5 | h5
      · rcases List.mem_cons.1 h5 with rfl | h5
        · omega
        · have := (rise_bd r b h2 e h5).1
          omega
      · omega
    · rcases he e hE with h5 | h5
      · rcases List.mem_cons.1 h5 with rfl | h5
        · exact .inr hab
        · exact .inl h5
      · exact .inr (by omega)
/-- has one of the rectangles that count a place? -/
def covB (l : List RC) (x y : Int) : Bool := l.any fun r => r.cnt && (decide (r.X ≤ x) && decide (x < r.X + r.W) && (decide (r.Y ≤ y) && decide (y < r.Y + r.H)))
theorem cov_iff (l : List RC) (x y : Int) : covB l x y = true ↔ InR (l.filter RC.cnt) x y := by
  unfold covB InR
  rw [List.any_eq_true]
  constructor
  · rintro ⟨r, hr, h⟩
    simp only [Bool.and_eq_true, decide_eq_true_eq] at h
    exact ⟨r, List.mem_filter.2 ⟨hr, h.1⟩, h.2.1.1, h.2.1.2, h.2.2.1, h.2.2.2⟩
  · rintro ⟨r, hr, h1, h2, h3, h4⟩
    obtain ⟨h5, h6⟩ := List.mem_filter.1 hr
    exact ⟨r, h5, by simp [h6, h1, h2, h3, h4]⟩
theorem cov_alikeX (l : List RC) (y a x : Int) (h : ∀ e, e ∈ xsR l → (e ≤ a ↔ e ≤ x)) : covB l x y = covB l a y := by
  have key : ∀ r ∈ l, r.cnt = true → ((r.X ≤ x ∧ x < r.X + r.W) ↔ (r.X ≤ a ∧ a < r.X + r.W)) := fun r hr hc => by
    have h1 := h r.X (((xsR_ok l).2 _).2 ⟨r, hr, hc, .inl rfl⟩)
    have h2 := h (r.X + r.W) (((xsR_ok l).2 _).2 ⟨r, hr, hc, .inr rfl⟩)
    omega
  rw [Bool.eq_iff_iff, cov_iff, cov_iff]
  constructor
  · rintro ⟨r, hr, h1, h2, h3⟩
    obtain ⟨h5, h6⟩ := List.mem_filter.1 hr
    have := (key r h5 h6).1 ⟨h1, h2⟩
    exact ⟨r, hr, this.1, this.2, h3⟩
  · rintro ⟨r, hr, h1, h2, h3⟩
    obtain ⟨h5, h6⟩ := List.mem_filter.1 hr
    have := (key r h5 h6).2 ⟨h1, h2⟩
    exact ⟨r, hr, this.1, this.2, h3⟩
theorem cov_alikeY (l : List RC) (x a y : Int) (h : ∀ e, e ∈ ysR l → (e ≤ a ↔ e ≤ y)) : covB l x y = covB l x a := by
  have key : ∀ r ∈ l, r.cnt = true → ((r.Y ≤ y ∧ y < r.Y + r.H) ↔ (r.Y ≤ a ∧ a < r.Y + r.H)) := fun r hr hc => by
    have h1 := h r.Y (((ysR_ok l).2 _).2 ⟨r, hr, hc, .inl rfl⟩)
    have h2 := h (r.Y + r.H) (((ysR_ok l).2 _).2 ⟨r, hr, hc, .inr rfl⟩)
    omega
  rw [Bool.eq_iff_iff, cov_iff, cov_iff]
  constructor
  · rintro ⟨r, hr, h1, h2, h3⟩
    obtain ⟨h5, h6⟩ := List.mem_filter.1 hr
    have := (key r h5 h6).1 h3
    exact ⟨r, hr, h1, h2, this⟩
  · rintro ⟨r, hr, h1, h2, h3⟩
    obtain ⟨h5, h6⟩ := List.mem_filter.1 hr
    have := (key r h5 h6).2 h3
    exact ⟨r, hr, h1, h2, this⟩
/-- the document's stretches of a row. -/
def spR (l : List RC) (y : Int) : List Span := spGo (fun x => covB l x y) [] (xsR l)
theorem apart_nil : Apart [] := ⟨List.Pairwise.nil, fun s hs => by cases hs⟩
theorem spR_ok (l : List RC) (y : Int) : Apart (spR l y) ∧ ∀ x, covB l x y = true ↔ InS (spR l y) x := by
  unfold spR
  obtain ⟨hr, hm⟩ := xsR_ok l
  have hin : ∀ x, covB l x y = true → ∃ e f, e ∈ xsR l ∧ f ∈ xsR l ∧ e ≤ x ∧ x < f := fun x hx => by
    obtain ⟨r, hr, h1, h2, _⟩ := (cov_iff l x y).1 hx
    obtain ⟨h5, h6⟩ := List.mem_filter.1 hr
    exact ⟨_, _, (hm _).2 ⟨r, h5, h6, .inl rfl⟩, (hm _).2 ⟨r, h5, h6, .inr rfl⟩, h1, h2⟩
  cases hxs : xsR l with
  | nil =>
    refine ⟨apart_nil, fun x => ?_⟩
    constructor
    · intro hx
      obtain ⟨e, _, he, _⟩ := hin x hx
      rw [hxs] at he
      cases he
    · rintro ⟨s, hs, _⟩
      cases hs
  | cons a r =>
    rw [hxs] at hr
    have hc : ConstR (fun x => covB l x y) (a :: r) := constR_of (fun e => e ∈ xsR l) _ (fun a x h => cov_alikeX l y a x h) r a hr (fun e he => .inl (by rw [← hxs]; exact he))
    obtain ⟨g1, _, g3⟩ := spGo_ok _ r a [] hc apart_nil (fun s hs => by cases hs)
    refine ⟨g1, fun x => ?_⟩
    rw [g3]
    constructor
    · intro hx
      obtain ⟨e, f, he, hf, h1, h2⟩ := hin x hx
      rw [hxs] at he hf
      have := rise_bd r a hr e he
      have := rise_bd r a hr f hf
      exact .inr ⟨hx, by omega, by omega⟩
    · rintro (⟨s, hs, _⟩ | h)
      · cases hs
      · exact h.1
/-- the document's rectangles. -/
def refR (l : List RC) : List RC := flatB (rwGo (spR l) [] [] (ysR l))
theorem constS_of (l : List RC) : ∀ (r : List Int) (a : Int), (a :: r).Pairwise (· < ·) → (∀ e, e ∈ ysR l → e ∈ a :: r ∨ e < a) → ConstS (fun x v => covB l x v = true) (spR l) (a :: r)
  | [], _, _, _ => trivial
  | b :: r, a, h, he => by
    obtain ⟨h1, h2⟩ := List.pairwise_cons.1 h
    have hab := h1 b (by simp)
    refine ⟨⟨hab, (spR_ok l a).1, fun v h3 h4 x => ?_⟩, constS_of l r b h2 (fun e hE => ?_)⟩
    · show covB l x v = true ↔ _
      rw [← (spR_ok l a).2, cov_alikeY l x a v (fun e hE => ?_)]
      rcases he e hE with h5 | h5
      · rcases List.mem_cons.1 h5 with rfl | h5
        · omega
        · have := (rise_bd r b h2 e h5).1
          omega
      · omega
    · rcases he e hE with h5 | h5
      · rcases List.mem_cons.1 h5 with rfl | h5
        · exact .inr hab
        · exact .inl h5
      · exact .inr (by omega)
theorem good_nil : GoodB [] := ⟨fun b hb => (by cases hb), List.Pairwise.nil, fun pre a b post e => by have := congrArg List.length e; simp at this⟩
/-- what the document tells is Canon, and has the places. -/
theorem refR_ok (l : List RC) : Canon (refR l) ∧ ∀ x y, InR (refR l) x y ↔ InR (l.filter RC.cnt) x y := by
  unfold refR
  obtain ⟨hr, hm⟩ := ysR_ok l
  cases hys : ysR l with
  | nil =>
    refine ⟨⟨[], rfl, good_nil⟩, fun x y => ?_⟩
    constructor
    · rintro ⟨r, hr, _⟩
      cases hr
    · rintro ⟨r, hr, _⟩
      obtain ⟨h5, h6⟩ := List.mem_filter.1 hr
      have := (hm r.Y).2 ⟨r, h5, h6, .inl rfl⟩
      rw [hys] at this
      cases this
  | cons a r =>
    have hr' := hr
    rw [hys] at hr'
    obtain ⟨g1, g2⟩ := rwGo_ok (fun x v => covB l x v = true) (spR l) r a [] [] (constS_of l r a hr' (fun e he => .inl (by rw [← hys]; exact he))) ⟨good_nil, fun d hd => (by cases hd), fun h => absurd rfl h, fun _ d hd => (by cases hd)⟩
    refine ⟨⟨_, rfl, g1⟩, fun x y => ?_⟩
    rw [g2, ← cov_iff]
    constructor
    · rintro (⟨q, hq, _⟩ | h)
      · cases hq
      · exact h.1
    · intro h
      obtain ⟨q, hq, _, _, h3, h4⟩ := (cov_iff l x y).1 h
      obtain ⟨h5, h6⟩ := List.mem_filter.1 hq
      have e1 := (hm q.Y).2 ⟨q, h5, h6, .inl rfl⟩
      have e2 := (hm (q.Y + q.H)).2 ⟨q, h5, h6, .inr rfl⟩
      rw [hys] at e1 e2
      have := rise_bd r a hr' _ e1
      have := rise_bd r a hr' _ e2
      exact .inr ⟨h, by omega, by omega⟩

end Go.Proofs.Ytcdecglbkcllaaa
