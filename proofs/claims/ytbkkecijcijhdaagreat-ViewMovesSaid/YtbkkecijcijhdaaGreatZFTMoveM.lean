/-
  Plainly: a window that is whole on the root, moved, takes what shows of it along.
-/
import Derived.Test.YtbkkecijcijhdaaGreatZF29
section
namespace Go.Proofs.YtbkkecijcijhdaaGreat

section
variable {d e : DW}
/-- the window at a place, of two of which the second lies in the first one. -/
def two (d e : DW) (x y : Int) : Int := if d.M && d.has (x - d.X) (y - d.Y) then (if e.M && e.has (x - d.X - e.X) (y - d.Y - e.Y) then 1 else 0) else -1
theorem hit2 (p x y : Int) (hd : d.P = -1) (he : e.P = 0) : lastHit (hitW p x y) [d, e].zipIdx = (if p = 0 then (if e.M && e.has (x - e.X) (y - e.Y) then 1 else -1) else if p = -1 then (if d.M && d.has (x - d.X) (y - d.Y) then 0 else -1) else -1) := by
  show lastHit (hitW p x y) ([(d, 0)] ++ [(e, 1)]) = _
  rw [lastHit_snoc, show [(d, 0)] = [] ++ [(d, 0)] from rfl, lastHit_snoc]
  unfold hitW
  rw [hd, he]
  by_cases h0 : p = 0
  · subst h0
    simp [lastHit]
  · by_cases h1 : p = -1
    · subst h1
      simp [lastHit]
    · simp [h0, h1, lastHit, Ne.symm h0, Ne.symm h1]
theorem up2 (hd : d.P = -1) (he : e.P = 0) : UpOk [d, e] := fun i q hq => by
  match i, hq with
  | 0, hq =>
    obtain rfl : d = q := by simpa using hq
    rw [hd]; omega
  | 1, hq =>
    obtain rfl : e = q := by simpa using hq
    rw [he]; omega
  | i + 2, hq => simp at hq
theorem atD_two (hd : d.P = -1) (he : e.P = 0) (f : Nat) (x y : Int) : atD [d, e] (f + 3) (-1) x y = two d e x y := by
  have h1 : ∀ (g : Nat) (x y : Int), atD [d, e] (g + 1) 1 x y = 1 := fun g x y => by
    refine atD_no ?_
    rw [hit2 1 x y hd he, if_neg (by decide), if_neg (by decide)]
    decide
  have h0 : ∀ (g : Nat) (x y : Int), atD [d, e] (g + 2) 0 x y = if e.M && e.has (x - e.X) (y - e.Y) then 1 else 0 := fun g x y => by
    have hh := hit2 (d := d) (e := e) 0 x y hd he
    rw [if_pos rfl] at hh
    cases hb : e.M && e.has (x - e.X) (y - e.Y) with
    | false =>
      rw [hb, if_neg (by decide)] at hh
      rw [if_neg (by decide)]
      exact atD_no (by rw [hh]; decide)
    | true =>
      rw [hb, if_pos rfl] at hh
      rw [if_pos rfl, atD_yes (i := 1) (d := e) hh rfl]
      exact h1 g _ _
  have hh := hit2 (d := d) (e := e) (-1) x y hd he
  rw [if_neg (by decide), if_pos rfl] at hh
  unfold two
  cases hb : d.M && d.has (x - d.X) (y - d.Y) with
  | false =>
    rw [hb, if_neg (by decide)] at hh
    rw [if_neg (by decide)]
    exact atD_no (by rw [hh]; decide)
  | true =>
    rw [hb, if_pos rfl] at hh
    rw [if_pos rfl, atD_yes (i := 0) (d := d) hh rfl]
    exact h0 f _ _
theorem top2 {RW RH : Nat} (hd : d.P = -1) (he : e.P = 0) (x y : Int) : topN (nodesW [d, e]) (bxS RW RH [d, e]) x y = idW (two d e x y) := by
  have hu := up2 hd he
  rw [← atD_root (RW := (RW : Int)) (RH := (RH : Int)) hu]
  have h3 := below_lenW hu
  obtain ⟨f, hf⟩ : ∃ f, (belowAt (nodesW [d, e]) 1).length = f + 3 := ⟨(belowAt (nodesW [d, e]) 1).length - 3, by simp only [List.length_cons, List.length_nil] at h3; omega⟩
  rw [hf, atD_two hd he]
theorem org2 {RW RH : Nat} (hd : d.P = -1) (he : e.P = 0) : orgN (nodesW [d, e]) (bxS RW RH [d, e]) (idW 0) = (d.X, d.Y) ∧ orgN (nodesW [d, e]) (bxS RW RH [d, e]) (idW 1) = (e.X + d.X, e.Y + d.Y) := by
  have hu := up2 hd he
  have h0 : orgN (nodesW [d, e]) (bxS RW RH [d, e]) (idW ((0 : Nat) : Int)) = _ := orgW (RW := (RW : Int)) (RH := (RH : Int)) hu (i := 0) (d := d) rfl
  have h1 : orgN (nodesW [d, e]) (bxS RW RH [d, e]) (idW ((1 : Nat) : Int)) = _ := orgW (RW := (RW : Int)) (RH := (RH : Int)) hu (i := 1) (d := e) rfl
  rw [hd, idW_root] at h0
  rw [he] at h1
  have hr : orgN (nodesW [d, e]) (bxS RW RH [d, e]) 1 = (0, 0) := orgN_root (nodesW_ok hu)
  rw [hr] at h0
  simp only [Int.add_zero] at h0
  refine ⟨h0, ?_⟩
  rw [show idW (0 : Int) = idW ((0 : Nat) : Int) from rfl, h0] at h1
  exact h1
end
/-- what shows of the two, seen from themselves, is the same wherever the first one is whole. -/
theorem move_show {d d' e : DW} {RW RH : Nat} (hd : d.P = -1) (hd' : d'.P = -1) (he : e.P = 0) (hM : d.M = true) (hM' : d'.M = true) (hh : d'.has = d.has) (hin : ∀ x y, d.has x y = true → rectP RW RH (x + d.X) (y + d.Y) = true ∧ rectP RW RH (x + d'.X) (y + d'.Y) = true)
    (i : Nat) (hi : i < 2) (x y : Int) : shG RW RH (nodesW [d, e]) (bxS RW RH [d, e]) (x + (ogG (nodesW [d, e]) (bxS RW RH [d, e]) (idW i)).1) (y + (ogG (nodesW [d, e]) (bxS RW RH [d, e]) (idW i)).2) (idW i) =
      shG RW RH (nodesW [d', e]) (bxS RW RH [d', e]) (x + (ogG (nodesW [d', e]) (bxS RW RH [d', e]) (idW i)).1) (y + (ogG (nodesW [d', e]) (bxS RW RH [d', e]) (idW i)).2) (idW i) := by
  have hu := up2 hd he
  have hu' := up2 hd' he
  have h0 : vw (nodesW [d, e]) (bxS RW RH [d, e]) (idW ((0 : Nat) : Int)) = true := by
    rw [vwW hu (i := 0) (d := d) rfl, hM, hd, idW_root, vw_root (nodesW_ok hu)]; rfl
  have h0' : vw (nodesW [d', e]) (bxS RW RH [d', e]) (idW ((0 : Nat) : Int)) = true := by
    rw [vwW hu' (i := 0) (d := d') rfl, hM', hd', idW_root, vw_root (nodesW_ok hu')]; rfl
  have hv : vw (nodesW [d, e]) (bxS RW RH [d, e]) (idW ((1 : Nat) : Int)) = e.M := by
    rw [vwW hu (i := 1) (d := e) rfl, he]
    show (e.M && vw _ _ (idW ((0 : Nat) : Int))) = _
    rw [h0, Bool.and_true]
  have hv' : vw (nodesW [d', e]) (bxS RW RH [d', e]) (idW ((1 : Nat) : Int)) = e.M := by
    rw [vwW hu' (i := 1) (d := e) rfl, he]
    show (e.M && vw _ _ (idW ((0 : Nat) : Int))) = _
    rw [h0', Bool.and_true]
  have key : ∀ (d : DW), d.P = -1 → d.M = true → ∀ (i : Nat), i < 2 → ∀ u v : Int, (∀ x y, d.has x y = true → rectP RW RH (x + d.X) (y + d.Y) = true) → shG RW RH (nodesW [d, e]) (bxS RW RH [d, e]) (u + d.X) (v + d.Y) (idW i) = (d.has u v && decide ((i : Int) = if e.M && e.has (u - e.X) (v - e.Y) then 1 else 0)) := by
    intro d hd hM i hi u v hin
    unfold shG
    rw [top2 hd he]
    unfold two
    rw [hM, Bool.true_and, show u + d.X - d.X = u by omega, show v + d.Y - d.Y = v by omega]
    cases hb : d.has u v with
    | false =>
      rw [if_neg (by decide)]
      have : ¬ (idW (i : Int) = idW (-1)) := by rw [idW_nat, idW_root]; omega
      simp [this]
    | true =>
      rw [if_pos rfl, hin u v hb, Bool.true_and, Bool.true_and, Bool.eq_iff_iff, decide_eq_true_eq, decide_eq_true_eq]
      constructor
      · intro h
        exact idW_inj (by omega) (by split <;> omega) h
      · intro h
        rw [h]
  match i, hi with
  | 0, _ =>
    unfold ogG
    rw [hasW (by omega) (by simp only [List.length_cons, List.length_nil]; omega), hasW (by omega) (by simp only [List.length_cons, List.length_nil]; omega), h0, h0', Bool.true_and, if_pos rfl, if_pos rfl]
    rw [show idW ((0 : Nat) : Int) = idW 0 from rfl, (org2 hd he).1, (org2 hd' he).1]
    dsimp only
    rw [show idW 0 = idW ((0 : Nat) : Int) from rfl, key d hd hM 0 (by omega) x y (fun x y h => (hin x y h).1), key d' hd' hM' 0 (by omega) x y (fun x y h => (hin x y (by rw [← hh]; exact h)).2), hh]
  | 1, _ =>
    unfold ogG
    rw [hasW (by omega) (by simp only [List.length_cons, List.length_nil]; omega), hasW (by omega) (by simp only [List.length_cons, List.length_nil]; omega), hv, hv', Bool.true_and]
    cases hme : e.M with
    | false =>
      -- it never shows
      have no : ∀ (d : DW), d.P = -1 → d.M = true → ∀ u v, shG RW RH (nodesW [d, e]) (bxS RW RH [d, e]) u v (idW ((1 : Nat) : Int)) = false := by
        intro d hd hM u v
        unfold shG
        rw [top2 hd he]
        unfold two
        rw [hme]
        have h1 : ¬ (idW ((1 : Nat) : Int) = idW 0) := by rw [idW_nat, show idW 0 = idW ((0 : Nat) : Int) from rfl, idW_nat]; omega
        have h2 : ¬ (idW ((1 : Nat) : Int) = idW (-1)) := by rw [idW_nat, idW_root]; omega
        have h3 : idW ((1 : Nat) : Int) ≠ idW (if (d.M && d.has (u - d.X) (v - d.Y)) = true then (if (false && e.has (u - d.X - e.X) (v - d.Y - e.Y)) = true then 1 else 0) else -1) := by
          split
          · simpa using h1
          · exact h2
        rw [decide_eq_false h3, Bool.and_false]
      rw [no d hd hM, no d' hd' hM']
    | true =>
      rw [if_pos rfl, if_pos rfl]
      rw [show idW ((1 : Nat) : Int) = idW 1 from rfl, (org2 hd he).2, (org2 hd' he).2]
      dsimp only
      rw [show idW 1 = idW ((1 : Nat) : Int) from rfl]
      have e1 : ∀ (d : DW), x + (e.X + d.X) = (x + e.X) + d.X := fun d => by omega
      have e2 : ∀ (d : DW), y + (e.Y + d.Y) = (y + e.Y) + d.Y := fun d => by omega
      rw [e1, e2, e1, e2, key d hd hM 1 (by omega) _ _ (fun x y h => (hin x y h).1), key d' hd' hM' 1 (by omega) _ _ (fun x y h => (hin x y (by rw [← hh]; exact h)).2), hh]
end Go.Proofs.YtbkkecijcijhdaaGreat
end
