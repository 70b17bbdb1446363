/-
  Plain facts on stretches: what spans tells of a row that stands from the left has just the row's places; its stretches are apart; and such a list is the only one of its places.
-/
import Derived.Test.YtbfefkhejknmoaaGreatDoorCh20
namespace Go.Proofs.YtbfefkhejknmoaaGreatDoor

/-- has one of the stretches a place? -/
def InS (l : List Span) (x : Int) : Prop := ∃ s ∈ l, s.1 ≤ x ∧ x < s.2
/-- stretches that have places, rising, with a gap between two. -/
def Apart (l : List Span) : Prop := l.Pairwise (fun a b => a.2 < b.1) ∧ ∀ s ∈ l, s.1 < s.2

theorem spansGo_ok (l : List RC) : ∀ (f t : Int), f < t → (∀ r ∈ l, f ≤ r.X ∧ 0 < r.W) → l.Pairwise (fun a b => a.X ≤ b.X) →
    (∀ x, InS (spansGo f t l) x ↔ (f ≤ x ∧ x < t) ∨ ∃ r ∈ l, r.X ≤ x ∧ x < r.X + r.W) ∧ Apart (spansGo f t l) ∧ ∀ s ∈ spansGo f t l, f ≤ s.1 := by
  induction l with
  | nil =>
    intro f t hft _ _
    refine ⟨fun x => by simp [spansGo, InS], ⟨by simp [spansGo], by simp [spansGo, hft]⟩, by simp [spansGo]⟩
  | cons r l ih =>
    intro f t hft hr hs
    obtain ⟨hr1, hr2⟩ := hr r (by simp)
    have hs2 := List.pairwise_cons.1 hs
    by_cases hle : r.X ≤ t
    · obtain ⟨h1, h2, h3⟩ := ih f (max t (r.X + r.W)) (by omega) (fun q hq => hr q (by simp [hq])) hs2.2
      have e : spansGo f t (r :: l) = spansGo f (max t (r.X + r.W)) l := by simp [spansGo, hle]
      rw [e]
      refine ⟨fun x => ?_, h2, h3⟩
      rw [h1 x]
      constructor
      · rintro (⟨a, b⟩ | ⟨q, hq, hx⟩)
        · by_cases hx : x < t
          · exact .inl ⟨a, hx⟩
          · exact .inr ⟨r, by simp, by omega, by omega⟩
        · exact .inr ⟨q, by simp [hq], hx⟩
      · rintro (⟨a, b⟩ | ⟨q, hq, hx⟩)
        · exact .inl ⟨a, by omega⟩
        · rcases List.mem_cons.1 hq with rfl | hq
          · exact .inl ⟨by omega, by omega⟩
          · exact .inr ⟨q, hq, hx⟩
    · obtain ⟨h1, h2, h3⟩ := ih r.X (r.X + r.W) (by omega) (fun q hq => ⟨hs2.1 q hq, (hr q (by simp [hq])).2⟩) hs2.2
      have e : spansGo f t (r :: l) = (f, t) :: spansGo r.X (r.X + r.W) l := by simp [spansGo, hle]
      rw [e]
      refine ⟨fun x => ?_, ⟨List.pairwise_cons.2 ⟨fun s hs' => by have := h3 s hs'; dsimp only; omega, h2.1⟩, fun s hs' => ?_⟩, fun s hs' => ?_⟩
      · have := h1 x
        constructor
        · rintro ⟨s, hs', hx⟩
          rcases List.mem_cons.1 hs' with rfl | hs'
          · exact .inl hx
          · rcases this.1 ⟨s, hs', hx⟩ with hx' | ⟨q, hq, hx'⟩
            · exact .inr ⟨r, by simp, hx'⟩
            · exact .inr ⟨q, by simp [hq], hx'⟩
        · rintro (hx | ⟨q, hq, hx⟩)
          · exact ⟨(f, t), by simp, hx⟩
          · have hin : InS (spansGo r.X (r.X + r.W) l) x := this.2 (by
              rcases List.mem_cons.1 hq with rfl | hq
              · exact .inl hx
              · exact .inr ⟨q, hq, hx⟩)
            obtain ⟨s, hs', hx'⟩ := hin
            exact ⟨s, by simp [hs'], hx'⟩
      · rcases List.mem_cons.1 hs' with rfl | hs'
        · exact hft
        · exact h2.2 s hs'
      · rcases List.mem_cons.1 hs' with rfl | hs'
        · exact Int.le_refl _
        · have := h3 s hs'
          omega

/-- what spans tells of a row. -/
theorem spansL_ok {l : List RC} (hw : ∀ r ∈ l, 0 < r.W) (hs : l.Pairwise (fun a b => a.X ≤ b.X)) :
    (∀ x, InS (spansL l) x ↔ ∃ r ∈ l, r.X ≤ x ∧ x < r.X + r.W) ∧ Apart (spansL l) := by
  cases l with
  | nil => exact ⟨fun x => by simp [spansL, InS], by simp [spansL, Apart]⟩
  | cons r l =>
    have hs2 := List.pairwise_cons.1 hs
    have h0 := hw r (by simp)
    obtain ⟨h1, h2, _⟩ := spansGo_ok l r.X (r.X + r.W) (by omega) (fun q hq => ⟨hs2.1 q hq, hw q (by simp [hq])⟩) hs2.2
    refine ⟨fun x => ?_, h2⟩
    show InS (spansGo r.X (r.X + r.W) l) x ↔ _
    rw [h1 x]
    simp

/-- stretches apart are the only ones of their places. -/
theorem apart_uniq : ∀ (a b : List Span), Apart a → Apart b → (∀ x, InS a x ↔ InS b x) → a = b
  | [], [], _, _, _ => rfl
  | [], s :: b, _, hb, h => by
    have := (h s.1).2 ⟨s, by simp, Int.le_refl _, hb.2 s (by simp)⟩
    obtain ⟨q, hq, _⟩ := this
    simp at hq
  | s :: a, [], ha, _, h => by
    have := (h s.1).1 ⟨s, by simp, Int.le_refl _, ha.2 s (by simp)⟩
    obtain ⟨q, hq, _⟩ := this
    simp at hq
  | s :: a, q :: b, ha, hb, h => by
    have ha1 := List.pairwise_cons.1 ha.1
    have hb1 := List.pairwise_cons.1 hb.1
    have hs0 := ha.2 s (by simp)
    have hq0 := hb.2 q (by simp)
    have lowa : ∀ x, InS (s :: a) x → s.1 ≤ x := fun x ⟨u, hu, hx⟩ => by
      rcases List.mem_cons.1 hu with rfl | hu
      · exact hx.1
      · have := ha1.1 u hu
        omega
    have lowb : ∀ x, InS (q :: b) x → q.1 ≤ x := fun x ⟨u, hu, hx⟩ => by
      rcases List.mem_cons.1 hu with rfl | hu
      · exact hx.1
      · have := hb1.1 u hu
        omega
    have e1 : s.1 = q.1 := by
      have h1 := lowb s.1 ((h s.1).1 ⟨s, by simp, Int.le_refl _, hs0⟩)
      have h2 := lowa q.1 ((h q.1).2 ⟨q, by simp, Int.le_refl _, hq0⟩)
      omega
    have outa : ∀ x, s.2 ≤ x → InS (s :: a) x → s.2 < x := fun x hx ⟨u, hu, hx'⟩ => by
      rcases List.mem_cons.1 hu with rfl | hu
      · omega
      · have := ha1.1 u hu
        omega
    have outb : ∀ x, q.2 ≤ x → InS (q :: b) x → q.2 < x := fun x hx ⟨u, hu, hx'⟩ => by
      rcases List.mem_cons.1 hu with rfl | hu
      · omega
      · have := hb1.1 u hu
        omega
    have e2 : s.2 = q.2 := by
      rcases Int.lt_trichotomy s.2 q.2 with hlt | heq | hlt
      · have := outa s.2 (Int.le_refl _) ((h s.2).2 ⟨q, by simp, by omega, hlt⟩)
        omega
      · exact heq
      · have := outb q.2 (Int.le_refl _) ((h q.2).1 ⟨s, by simp, by omega, hlt⟩)
        omega
    have e : s = q := Prod.ext e1 e2
    subst e
    have hab : a = b := apart_uniq a b ⟨ha1.2, fun u hu => ha.2 u (by simp [hu])⟩ ⟨hb1.2, fun u hu => hb.2 u (by simp [hu])⟩ (fun x => by
      constructor
      · rintro ⟨u, hu, hx⟩
        have hu' := ha1.1 u hu
        obtain ⟨v, hv, hx'⟩ := (h x).1 ⟨u, by simp [hu], hx⟩
        rcases List.mem_cons.1 hv with rfl | hv
        · omega
        · exact ⟨v, hv, hx'⟩
      · rintro ⟨u, hu, hx⟩
        have hu' := hb1.1 u hu
        obtain ⟨v, hv, hx'⟩ := (h x).2 ⟨u, by simp [hu], hx⟩
        rcases List.mem_cons.1 hv with rfl | hv
        · omega
        · exact ⟨v, hv, hx'⟩)
    rw [hab]

end Go.Proofs.YtbfefkhejknmoaaGreatDoor
