/-
  tree.Add and place.Set, each in one contract.
-/
import Derived.Test.YtbfefkhejknmoaaGreatDoorPlaceE
import Derived.Test.YtbfefkhejknmoaaGreatDoorTreeE
namespace Go.Proofs.YtbfefkhejknmoaaGreatDoor
open Go.RowKit Go.Maps Go.Shelf

theorem tadd_any (v : Value) (ns : Nodes) (mk mu : Option Nat) (nk : Nat) (fk : Int → Option Value) (id p : Int) (w : World) (hid : 0 ≤ id ∧ id ≤ 4294967295) (hp : 0 ≤ p ∧ p ≤ 4294967295) (h : TreeIs w v ns mk mu nk fk) :
    Calls Tryz.prog 29 #[v, .int .u32 id, .int .u32 p] w fun e w' => (∃ v' mk' mu' nk' fk', e = .returned (.tuple #[v', .int .i64 (addC ns id p)]) ∧ TreeIs w' v' (addN ns id p) mk' mu' nk' fk') ∧ Below w.heap.size w w' := by
  have keep : ∀ code : Int, code ≠ 0 → addC ns id p = code → ((idC id = code ∧ (code != 0) = true) ∨ (idC id = 0 ∧ ((hasN ns id = true ∧ code = 7) ∨ (hasN ns id = false ∧ ((hasN ns p = false ∧ code = 6) ∨ (hasN ns p = true ∧ decide ((64 : Int) ≤ (ns.length : Int) + 1) = true ∧ code = 5)))))) → Calls Tryz.prog 29 #[v, .int .u32 id, .int .u32 p] w fun e w' => (∃ v' mk' mu' nk' fk', e = .returned (.tuple #[v', .int .i64 (addC ns id p)]) ∧ TreeIs w' v' (addN ns id p) mk' mu' nk' fk') ∧ Below w.heap.size w w' := by
    intro code h0 hc hh
    refine (tadd_err v ns mk mu nk fk id p code w hid hp h hh).mono ?_
    rintro e w' ⟨rfl, hb⟩
    have e0 : addN ns id p = ns := by unfold addN; rw [hc, if_neg h0]
    rw [hc, e0]
    exact ⟨⟨v, mk, mu, nk, fk, rfl, h.below hb⟩, hb⟩
  by_cases h1 : idC id = 0
  · cases h2 : hasN ns id
    · cases h3 : hasN ns p
      · exact keep 6 (by decide) (by simp [addC, h1, h2, h3]) (.inr ⟨h1, .inr ⟨h2, .inl ⟨h3, rfl⟩⟩⟩)
      · by_cases h4 : 64 ≤ ns.length + 1
        · exact keep 5 (by decide) (by simp [addC, h1, h2, h3, h4]) (.inr ⟨h1, .inr ⟨h2, .inr ⟨h3, decide_eq_true (by omega), rfl⟩⟩⟩)
        · have hc : addC ns id p = 0 := by simp [addC, h1, h2, h3, h4]
          refine (tadd_ok v ns mk mu nk fk id p w hid hp h h1 h2 h3 (decide_eq_false (by omega))).mono ?_
          rintro e w' ⟨⟨v', mk', mu', nk', fk', rfl, h'⟩, hb⟩
          have e0 : addN ns id p = ns ++ [(id, p)] := by unfold addN; rw [hc, if_pos rfl]
          rw [hc, e0]
          exact ⟨⟨v', mk', mu', nk', fk', rfl, h'⟩, hb⟩
    · exact keep 7 (by decide) (by simp [addC, h1, h2]) (.inr ⟨h1, .inl ⟨h2, rfl⟩⟩)
  · exact keep (idC id) h1 (by simp [addC, h1]) (.inl ⟨rfl, by simp [h1]⟩)

/-- what Set answers. -/
def setC (bs : Bxs) (n : Nat) (id : Int) (b : BX) : Int :=
  if id = 1 then 23 else if idC id ≠ 0 then idC id else if (coordB b.X && coordB b.Y) = false then 1 else if (sideB b.W && sideB b.H) = false then 17 else if gravC b.G = 10 ∨ gravC b.B = 10 then 10 else if b.S = false ∧ b.n ≠ 0 then 14 else if (bs id).isSome = false ∧ 64 ≤ n then 5 else if n = 0 then 9 else 0
/-- the boxes behind it. -/
def setB (bs : Bxs) (n : Nat) (id : Int) (b : BX) : Bxs := if setC bs n id b = 0 then fun j => if j = id then some b else bs j else bs
def setN (bs : Bxs) (n : Nat) (id : Int) (b : BX) : Nat := if setC bs n id b = 0 then (if (bs id).isSome then n else n + 1) else n
theorem gravC_or (g : Int) : gravC g = 0 ∨ gravC g = 10 := by
  unfold gravC
  split
  · exact .inl rfl
  · exact .inr rfl

theorem pset_any (pv : Value) (n : Nat) (bs : Bxs) (id : Int) (b : BX) (w : World) (hid : 0 ≤ id ∧ id ≤ 4294967295) (hn : n ≤ 1000) (hp : PlaceIs w pv n bs) (hz : n = 0 → bs id = none) :
    Calls Tryz.prog 15 #[pv, .int .u32 id, b.v] w fun e w' => ∃ pv', e = .returned (.tuple #[pv', .int .i64 (setC bs n id b)]) ∧ PlaceIs w' pv' (setN bs n id b) (setB bs n id b) ∧ Below w.heap.size w w' := by
  have keep : ∀ code : Int, code ≠ 0 → setC bs n id b = code → SetErr id b n (bs id).isSome code → Calls Tryz.prog 15 #[pv, .int .u32 id, b.v] w fun e w' => ∃ pv', e = .returned (.tuple #[pv', .int .i64 (setC bs n id b)]) ∧ PlaceIs w' pv' (setN bs n id b) (setB bs n id b) ∧ Below w.heap.size w w' := by
    intro code h0 hc hh
    refine (pset_err pv n bs id b code w hid hn hp hh).mono ?_
    rintro e w' ⟨rfl, hb⟩
    have e0 : setB bs n id b = bs := by unfold setB; rw [hc, if_neg h0]
    have e1 : setN bs n id b = n := by unfold setN; rw [hc, if_neg h0]
    rw [hc, e0, e1]
    exact ⟨pv, rfl, hp.below hb, hb⟩
  by_cases h1 : id = 1
  · exact keep 23 (by decide) (by simp [setC, h1]) (.inl ⟨h1, rfl⟩)
  by_cases h2 : idC id = 0
  rotate_left
  · exact keep (idC id) h2 (by simp [setC, h1, h2]) (.inr ⟨h1, .inl ⟨h2, rfl⟩⟩)
  have s2 : ∀ {code}, _ → SetErr id b n (bs id).isSome code := fun {code} x => .inr ⟨h1, .inr ⟨h2, x⟩⟩
  cases hx : coordB b.X
  · exact keep 1 (by decide) (by simp [setC, h1, h2, hx]) (s2 (.inl ⟨hx, rfl⟩))
  cases hy : coordB b.Y
  · exact keep 1 (by decide) (by simp [setC, h1, h2, hx, hy]) (s2 (.inr ⟨hx, .inl ⟨hy, rfl⟩⟩))
  cases hw : sideB b.W
  · exact keep 17 (by decide) (by simp [setC, h1, h2, hx, hy, hw]) (s2 (.inr ⟨hx, .inr ⟨hy, .inl ⟨hw, rfl⟩⟩⟩))
  cases hh : sideB b.H
  · exact keep 17 (by decide) (by simp [setC, h1, h2, hx, hy, hw, hh]) (s2 (.inr ⟨hx, .inr ⟨hy, .inr ⟨hw, .inl ⟨hh, rfl⟩⟩⟩⟩))
  have s3 : ∀ {code}, _ → SetErr id b n (bs id).isSome code := fun {code} x => s2 (.inr ⟨hx, .inr ⟨hy, .inr ⟨hw, .inr ⟨hh, x⟩⟩⟩⟩)
  rcases gravC_or b.G with hg | hg
  rotate_left
  · exact keep 10 (by decide) (by simp [setC, h1, h2, hx, hy, hw, hh, hg]) (s3 (.inl ⟨hg, rfl⟩))
  rcases gravC_or b.B with hb | hb
  rotate_left
  · exact keep 10 (by decide) (by simp [setC, h1, h2, hx, hy, hw, hh, hg, hb]) (s3 (.inr ⟨hg, .inl ⟨hb, rfl⟩⟩))
  by_cases hs : b.S = false ∧ b.n ≠ 0
  · exact keep 14 (by decide) (by simp [setC, h1, h2, hx, hy, hw, hh, hg, hb, hs]) (s3 (.inr ⟨hg, .inr ⟨hb, .inl ⟨hs.1, decide_eq_false hs.2, rfl⟩⟩⟩))
  have hS : b.S = true ∨ (b.S = false ∧ decide (b.n = 0) = true) := by
    cases e : b.S
    · exact .inr ⟨rfl, decide_eq_true (Classical.byContradiction fun h => hs ⟨e, h⟩)⟩
    · exact .inl rfl
  have hs' : ¬ (b.S = false ∧ ¬ b.n = 0) := hs
  by_cases hm : (bs id).isSome = false ∧ 64 ≤ n
  · have hm1 : bs id = none := by simpa using hm.1
    exact keep 5 (by decide) (by simp [setC, h1, h2, hx, hy, hw, hh, hg, hb, hs', hm1, hm.2]) (s3 (.inr ⟨hg, .inr ⟨hb, .inr ⟨hS, .inl ⟨hm.1, decide_eq_true (by omega), rfl⟩⟩⟩⟩))
  have hc1 : setC bs n id b = if n = 0 then 9 else 0 := by
    unfold setC
    rw [if_neg h1, if_neg (by simp [h2]), if_neg (by simp [hx, hy]), if_neg (by simp [hw, hh]), if_neg (by simp [hg, hb]), if_neg hs, if_neg hm]
  by_cases h0 : n = 0
  · have hno : (bs id).isSome = false := by rw [hz h0]; rfl
    exact keep 9 (by decide) (by rw [hc1, if_pos h0]) (s3 (.inr ⟨hg, .inr ⟨hb, .inr ⟨hS, .inr ⟨hno, decide_eq_false (by omega), by rw [h0]; rfl, rfl⟩⟩⟩⟩))
  · have hc : setC bs n id b = 0 := by rw [hc1, if_neg h0]
    refine (pset_ok pv n bs id b w hid hn hp h1 h2 hx hy hw hh hg hb hS ?_ (by simp; omega)).mono ?_
    · cases e : (bs id).isSome
      · refine .inr ⟨rfl, decide_eq_false fun h => hm ⟨e, by omega⟩⟩
      · exact .inl rfl
    · rintro e w' ⟨pv', rfl, hp', hb'⟩
      have e0 : setB bs n id b = fun j => if j = id then some b else bs j := by unfold setB; rw [hc, if_pos rfl]
      have e1 : setN bs n id b = if (bs id).isSome then n else n + 1 := by unfold setN; rw [hc, if_pos rfl]
      rw [hc, e0, e1]
      exact ⟨pv', rfl, hp', hb'⟩

end Go.Proofs.YtbfefkhejknmoaaGreatDoor
