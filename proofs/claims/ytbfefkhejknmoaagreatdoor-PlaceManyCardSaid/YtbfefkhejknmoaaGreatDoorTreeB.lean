/-
  The walk of maps.Copy at a tree's parents.
-/
import Derived.Test.YtbfefkhejknmoaaGreatDoorTreeA
namespace Go.Proofs.YtbfefkhejknmoaaGreatDoor
open Go.RowKit Go.Maps Go.Shelf

set_option maxRecDepth 100000 in
set_option maxHeartbeats 1000000 in
theorem copyup_nil (bd : Nat) (w : World) :
    Calls Tryz.prog 77 #[.map (some bd), .map none] w fun e w' => e = .returned (.tuple #[]) ∧ w' = w.alloc (.mapIter none 0 #[] 0) := by
  have hrg := run_range_nilMap (P := Tryz.prog) w 33 _ _ Tryz.underlying33
  have hnx : ∀ ty, (Instr.next (.pointer (some ⟨w.heap.size, 0, none⟩)) false ty).run Tryz.prog (w.alloc (.mapIter none 0 #[] 0)) = _ := fun ty => run_next_nilMap _ ty 0 0 #[]
  go_enter Tryz.func77, Tryz.ntmps77
  go_wp2
  refine wp_loop_rounds 1 ?_
  rw [rounds_succ]
  go_wp2
  go_end0
  exact ⟨rfl, rfl⟩

set_option maxRecDepth 100000 in
set_option maxHeartbeats 1000000 in
theorem copyup_some (bd bs n : Nat) (f : Int → Option Value) (w : World) (hd : MapIs Tryz.prog 27 .u32 w bd 0 (fun _ => none)) (hs : MapIs Tryz.prog 27 .u32 w bs n f) (hn : n ≤ 1000) (hne : bd ≠ bs) :
    Calls Tryz.prog 77 #[.map (some bd), .map (some bs)] w fun e w' => e = .returned (.tuple #[]) ∧ MapIs Tryz.prog 27 .u32 w' bd n f ∧ w.grownBy w' (some bd) := by
  have hbd := hd.lt
  have hbs := hs.lt
  go_enter Tryz.func77, Tryz.ntmps77
  go_wp2_with (first
    | (at_range; refine map_range rfl _ 33 rfl 27 27 .u32 Tryz.underlying27 Tryz.underlying33 bs n f rfl hs ?_; intro w0 hrg0 hg0 hs0))
  go_frame
  go_loopw [8] (fun _ wr => ∃ (left : Int → Bool) (cnt m : Nat) (fo : Int → Option Value), MapRange Tryz.prog 27 .u32 wr bs w.heap.size n f left cnt ∧ m + cnt ≤ n ∧
      MapIs Tryz.prog 27 .u32 wr bd m fo ∧ (∀ i, left i = false → fo i = f i) ∧ (∀ i, left i = true → fo i = none) ∧ w.grownBy wr (some bd))
    (fun _ wr => wr.rangeLeft bs w.heap.size)
  case atStart =>
    exact ⟨_, _, 0, _, hrg0, by omega, hd.kept hg0 (by simp), (fun i hi => by cases h : f i <;> simp [h] at hi ⊢), (fun i _ => rfl), hg0.but _⟩
  case round =>
    obtain ⟨left, cnt, m, fo, hrg, hcs, hout, hL0, hL1, hgw⟩ := hrel
    go_wp2_with (first
      | (at_next; refine map_next rfl _ rfl 27 .u32 Tryz.underlying27 bs w.heap.size n f left cnt rfl hrg ?_ ?_))
    · intro hc0 hl0
      go_wp2
      go_end0
      have e : fo = f := funext fun i => hL0 i (hl0 i)
      subst e
      have e2 := hout.size_uniq Tryz.underlying27 hrg.is
      subst e2
      exact ⟨rfl, hout, hgw⟩
    · intro i v w1 cnt1 hwf hli hfi hrg1 hlt hg1 hs1 hen
      have hout1 := hout.kept hg1 (fun e => by have := Option.some.inj e; omega)
      have hno : (fo i).isSome = false := by rw [hL1 i hli]; rfl
      go_wp2_with (first
        | (at_mapUpdate; refine map_put rfl _ _ _ 33 rfl 27 27 .u32 Tryz.underlying27 Tryz.underlying33 bd m fo rfl hout1 (by simp only [maxLen]; omega) i v rfl rfl hwf ?_; intro w2 hout2 hg2; rw [hno] at hout2; go_frame))
      have hrg2 := hrg1.kept hg2 (fun e => hne (Option.some.inj e).symm) (fun e => by have := Option.some.inj e; omega)
      go_roundw
      case rel =>
        refine ⟨_, cnt1, m + 1, _, hrg2, by omega, hout2, ?_, ?_, (hgw.andThen hg1 (fun j hj => .inl (by cases hj; exact Nat.le_refl _))).andThen hg2 (fun j hj => .inr hj)⟩
        · intro j hj
          by_cases e : j = i
          · subst e
            simp [hfi]
          · simp only [e, if_false]
            exact hL0 j (by simpa [e] using hj)
        · intro j hj
          simp only [Bool.and_eq_true, Bool.not_eq_true', decide_eq_false_iff_not] at hj
          simp only [hj.2, if_false]
          exact hL1 j hj.1
      case measure => rw [hrg2.left_eq, hrg.left_eq]; exact hlt

theorem copyup_any (bd n : Nat) (mu : Option Nat) (f : Int → Option Value) (w : World) (hd : MapIs Tryz.prog 27 .u32 w bd 0 (fun _ => none)) (hs : MapOpt Tryz.prog 27 .u32 w mu n f) (hn : n ≤ 1000) (hne : mu ≠ some bd) :
    Calls Tryz.prog 77 #[.map (some bd), .map mu] w fun e w' => e = .returned (.tuple #[]) ∧ MapIs Tryz.prog 27 .u32 w' bd n f ∧ w.grownBy w' (some bd) := by
  rcases hs with ⟨rfl, rfl, hf⟩ | ⟨bs, rfl, h⟩
  · refine (copyup_nil bd w).mono fun e w' ⟨he, hw⟩ => ?_
    subst hw
    have e : f = fun _ => none := funext hf
    rw [e]
    exact ⟨he, hd.alloc _, World.grownBy_alloc w _ _⟩
  · exact copyup_some bd bs n f w hd h hn (fun e => hne (by rw [e]))

end Go.Proofs.YtbfefkhejknmoaaGreatDoor
