/-
  What built begins with.
-/
import Derived.Test.YtbfefkhejknmoaaGreatDoorCh36
import Derived.Test.YtbfefkhejknmoaaGreatDoorCh40
import Derived.Test.YtbfefkhejknmoaaGreatDoorCh13
namespace Go.Proofs.YtbfefkhejknmoaaGreatDoor
open Go.RowKit Go.Shelf

theorem canon_nil : Canon [] := by
  refine ⟨[], rfl, ⟨?_, ?_, ?_⟩⟩
  · intro b hb; cases hb
  · simp
  · intro pre a b post e
    have := congrArg List.length e
    simp at this
def newB (W H : Int) : Bxs := if (sideB W && sideB H) = true then (fun i => if i = 1 then some (rootBX W H) else none) else fun _ => none
theorem rel_new (W H : Int) (w : World) : RelB (SmD w) (newB W H) (newD W H).length (newD W H) := by
  unfold newB newD
  by_cases h : (sideB W && sideB H) = true
  · rw [if_pos h, if_pos h]
    rw [Bool.and_eq_true] at h
    refine ⟨rfl, by simp, fun d hd => ?_, fun i hi => ?_, fun i b hb => ?_⟩
    · simp only [List.mem_singleton] at hd
      subst hd
      exact ⟨rootBX W H, rfl, ⟨rfl, rfl, rfl, rfl, rfl, rfl, rfl, rfl⟩, [], ⟨rfl, fun h => absurd h (by simp [rootBX])⟩, canon_nil, fun x y => by simp [rootD], by simp⟩
    · have := hi (rootD W H) (by simp)
      (try dsimp only)
      rw [if_neg (fun e => this e.symm)]
    · (try dsimp only at hb)
      split at hb
      · cases hb
        exact ⟨by simp [rootBX], by simp [rootBX], side_iff.1 h.1, side_iff.1 h.2, by simp [rootBX, gravC]⟩
      · cases hb
  · rw [if_neg h, if_neg h]
    exact ⟨rfl, by simp, fun d hd => (by cases hd), fun i _ => rfl, fun i b hb => (by cases hb)⟩
theorem pnew_all (W H : Int) (w : World) :
    Calls Tryz.prog 14 #[.int .i64 W, .int .i64 H] w fun e w' => ∃ mp, e = .returned (.tuple #[.agg #[.map mp], .int .i64 (if (sideB W && sideB H) = true then 0 else 17)]) ∧ PlaceIs w' (.agg #[.map mp]) (newD W H).length (newB W H) ∧ Below w.heap.size w w' := by
  by_cases h : (sideB W && sideB H) = true
  · have h' := h
    rw [Bool.and_eq_true] at h'
    refine (pnew_any W H w h'.1 h'.2).mono ?_
    rintro e w' ⟨pv', rfl, hp', hb'⟩
    obtain ⟨mb, rfl, hm⟩ := hp'
    refine ⟨mb, by rw [if_pos h], ?_, hb'⟩
    unfold newB newD
    rw [if_pos h, if_pos h]
    exact ⟨mb, rfl, hm⟩
  · refine (pnew_bad W H w (by simpa using h)).mono ?_
    rintro e w' ⟨rfl, hb'⟩
    refine ⟨none, by rw [if_neg h], ?_, hb'⟩
    unfold newB newD
    rw [if_neg h, if_neg h]
    exact ⟨none, rfl, .inl ⟨rfl, rfl, fun _ => rfl⟩⟩

theorem addN_ok {ns : Nodes} (h : TreeOk ns) (id up : Int) : TreeOk (addN ns id up) := by
  unfold addN
  by_cases hc : addC ns id up = 0
  · rw [if_pos hc]
    unfold addC at hc
    split at hc
    · exact absurd hc (by assumption)
    · split at hc
      · cases hc
      · split at hc
        · cases hc
        · rename_i h1 h2 h3
          exact ok_add h (by simpa using h2) (by simpa using h3)
  · rw [if_neg hc]
    exact h
theorem setD_code (l : List DB) (d : DB) : (d.id ≠ 1 ∧ idC d.id ≠ 0 ∧ setD l d = -1) ∨ (¬ (d.id ≠ 1 ∧ idC d.id ≠ 0) ∧ 0 ≤ setD l d ∧ setD l d ≤ 23) := by
  by_cases h : d.id ≠ 1 ∧ idC d.id ≠ 0
  · exact .inl ⟨h.1, h.2, by unfold setD; rw [if_neg h.1, if_pos h.2]⟩
  · refine .inr ⟨h, ?_⟩
    unfold setD
    by_cases h1 : d.id = 1
    · rw [if_pos h1]; decide
    · rw [if_neg h1, if_neg (fun e => h ⟨h1, e⟩)]
      split
      · decide
      · split
        · decide
        · split
          · decide
          · split
            · decide
            · split
              · decide
              · split <;> decide
theorem setN_le (bs : Bxs) (n : Nat) (id : Int) (b : BX) : setN bs n id b ≤ n + 1 := by
  unfold setN
  split
  · split <;> omega
  · omega
/-- boxOf: the document's box as the program's. -/
theorem boxof_any (d : DB) (w : World) (hs : RdR w d.b.A d.b.n d.sh) (hn : d.b.n ≤ 100000) (hm : ∀ r ∈ d.sh, r.X ≤ 9223372036854775807 ∧ r.Y ≤ 9223372036854775807) :
    Calls Tryz.prog 33 #[d.v] w fun e w' => ∃ b : BX, e = .returned b.v ∧ SmD w' b d ∧ Below w.heap.size w w' := by
  obtain ⟨id, ⟨X, Y, W, H, M, G, B, S, As, ns, cs⟩, sh⟩ := d
  unfold DB.v
  dsimp only at hs hn hm ⊢
  refine (boxof_go id X Y W H M G B S As ns cs sh w hs hn hm).mono ?_
  rintro e w' ⟨out, A5, c5, rfl, hr, hc, hp, hl, hb⟩
  exact ⟨⟨X, Y, W, H, M, G, B, S, A5, out.length, c5⟩, rfl, ⟨⟨rfl, rfl, rfl, rfl, rfl, rfl, rfl, rfl⟩, out, hr, hc, hp, hl⟩, hb⟩

end Go.Proofs.YtbfefkhejknmoaaGreatDoor
