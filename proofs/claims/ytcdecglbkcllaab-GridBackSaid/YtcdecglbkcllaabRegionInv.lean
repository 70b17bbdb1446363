/-
  A region that draws its order, by an invariant: what holds whatever part of its operations is done; each operation is walked once, whatever went ahead of it.
-/
import Derived.Test.YtcdecglbkcllaabBase
import Derived.OrdersHeld
namespace Go.Proofs.Ytcdecglbkcllaab
open Go.RowKit

/-- one operation more is done. -/
def upd (d : Nat → Bool) (i : Nat) : Nat → Bool := fun j => decide (j = i) || d j
theorem upd_same (d : Nat → Bool) (i : Nat) : upd d i i = true := by simp [upd]
theorem upd_other (d : Nat → Bool) {i j : Nat} (h : j ≠ i) : upd d i j = d j := by simp [upd, h]

section
variable {P : Program} {ops : Array Oper} {Q : Exit → Act → World → Prop} {md : Region.Mode}
theorem ready_all {L : Array Bool} (hs : L.size = ops.size) (hlow : ∀ (i : Nat) (o : Oper), ops[i]? = some o → ∀ e ∈ o.after, e.on < i) (h : Region.ready md ops L = []) : ∀ i, i < ops.size → L.getD i false = true := by
  intro i
  induction i using Nat.strongRecOn with
  | _ i ih =>
    intro hi
    refine Classical.byContradiction fun hn => ?_
    have hni : L.getD i false = false := by simpa using hn
    have hL : i < L.size := by omega
    have : i ∈ Region.ready md ops L := by
      refine mem_ready.2 ⟨?_, ops[i], Array.getElem?_eq_getElem hi, fun e he _ => ?_⟩
      · simp [Array.getD, hL] at hni ⊢
        exact hni
      · have hlt := hlow i ops[i] (Array.getElem?_eq_getElem hi) e he
        exact ih e.on hlt (by omega)
    rw [h] at this
    cases this

theorem wpAny_inv (J : (Nat → Bool) → Act → World → Prop) (hlow : ∀ (i : Nat) (o : Oper), ops[i]? = some o → ∀ e ∈ o.after, e.on < i)
    (hstep : ∀ (d : Nat → Bool) (a : Act) (w : World) (i : Nat) (o : Oper), J d a w → ops[i]? = some o → d i = false → (∀ e ∈ o.after, Region.binds md e = true → d e.on = true) → if Region.wanted o (yielded ops a.tmps) = true then Oper.wp P o a w (J (upd d i)) Q else J (upd d i) (a.put o.dst undef) w)
    (hend : ∀ (d : Nat → Bool) (a : Act) (w : World), J d a w → (∀ i, i < ops.size → d i = true) → Q .normal a w) :
    ∀ (fuel : Nat) (L : Array Bool) (a : Act) (w : World), L.size = ops.size → (L.toList.filter (! ·)).length ≤ fuel → J (fun i => L.getD i false) a w → wpAny P md ops Q fuel L a w := by
  intro fuel
  induction fuel with
  | zero =>
    intro L a w hs hf hJ
    have hall : ∀ i, i < ops.size → L.getD i false = true := fun i hi => by
      refine Classical.byContradiction fun hn => ?_
      have hL : i < L.size := by omega
      have hm : false ∈ L.toList := by
        have : L.getD i false = false := by simpa using hn
        simp [Array.getD, hL] at this
        rw [← this]
        exact Array.mem_toList_iff.2 (Array.getElem_mem hL)
      have : false ∈ L.toList.filter (! ·) := List.mem_filter.2 ⟨hm, rfl⟩
      have := List.length_pos_of_mem this
      omega
    refine ⟨?_, hend _ a w hJ hall⟩
    refine List.eq_nil_iff_forall_not_mem.2 fun i hi => ?_
    obtain ⟨h1, o, ho, _⟩ := mem_ready.1 hi
    have hio : i < ops.size := (Array.getElem?_eq_some_iff.1 ho).1
    have h2 := hall i hio
    have hL : i < L.size := by omega
    simp [Array.getD, hL] at h1 h2
    rw [h1] at h2
    cases h2
  | succ fuel ih =>
    intro L a w hs hf hJ
    refine ⟨fun hr => hend _ a w hJ (ready_all hs hlow hr), fun i hi => ?_⟩
    obtain ⟨h1, o, ho, h2⟩ := mem_ready.1 hi
    have hio : i < ops.size := (Array.getElem?_eq_some_iff.1 ho).1
    have hL : i < L.size := by omega
    have hLi : L[i] = false := by simpa [Array.getD, hL] using h1
    have hd : L.getD i false = false := by simp [Array.getD, hL, hLi]
    have hnext : ∀ a' w', J (upd (fun i => L.getD i false) i) a' w' → wpAny P md ops Q fuel (L.setIfInBounds i true) a' w' := fun a' w' hJ' => by
      refine ih _ a' w' (by simpa using hs) ?_ ?_
      · have hsplit : L.toList = L.toList.take i ++ false :: L.toList.drop (i + 1) := by
          have h3 : L.toList[i]'(by simpa using hL) = false := by simpa using hLi
          rw [← h3, List.getElem_cons_drop, List.take_append_drop]
        have hset : (L.setIfInBounds i true).toList = L.toList.take i ++ true :: L.toList.drop (i + 1) := by
          rw [Array.toList_setIfInBounds, List.set_eq_take_append_cons_drop, if_pos (by simpa using hL)]
        rw [hset]
        rw [hsplit] at hf
        simp only [List.filter_append, List.length_append, List.filter_cons] at hf ⊢
        simp at hf ⊢
        omega
      · have e : (fun j => (L.setIfInBounds i true).getD j false) = upd (fun i => L.getD i false) i := by
          funext j
          unfold upd
          by_cases hj : j = i
          · subst hj
            simp [Array.getD, hL]
          · by_cases hjL : j < L.size
            · have : i ≠ j := fun e => hj e.symm
              simp [Array.getD, hjL, hj, Array.getElem_setIfInBounds, this]
            · simp [Array.getD, hjL, hj]
        rw [e]
        exact hJ'
    have hs' := hstep _ a w i o hJ ho hd h2
    unfold wpOp
    simp only [ho]
    split
    · rename_i hw
      rw [if_pos hw] at hs'
      exact .inl (Oper.wp_mono hnext hs')
    · rename_i hw
      rw [if_neg hw] at hs'
      exact hnext _ _ hs'

/-- does an operation wait for another? -/
def depB (md : Region.Mode) (ops : Array Oper) (i j : Nat) : Bool := match ops[i]? with
  | some o => o.after.any fun e => decide (e.on = j) && Region.binds md e
  | none => false
theorem depB_on {o : Oper} {i : Nat} (ho : ops[i]? = some o) {d : Nat → Bool} (h : ∀ e ∈ o.after, Region.binds md e = true → d e.on = true) : ∀ j, depB md ops i j = true → d j = true := fun j hj => by
  unfold depB at hj
  rw [ho] at hj
  obtain ⟨k, hk, h1⟩ := Array.any_eq_true.1 hj
  simp only [Bool.and_eq_true, decide_eq_true_eq] at h1
  rw [← h1.1]
  exact h _ (Array.getElem_mem hk) h1.2
theorem run_plain {o : Oper} {a : Act} {w : World} {K : Act → World → Prop} {E : Prop} (hg : o.guard = none) (h : Oper.wp P o a w K Q) : if Region.wanted o (yielded ops a.tmps) = true then Oper.wp P o a w K Q else E := by
  rw [if_pos (by simp [Region.wanted, hg])]
  exact h
/-- a guarded operation: its guard is known. -/
theorem run_guard {o : Oper} {a : Act} {w : World} {K : Act → World → Prop} {E : Prop} {k : Nat} {want : Bool} (hg : o.guard = some (k, want)) (G : Bool) (hy : yielded ops a.tmps k = some G) (ht : G = want → Oper.wp P o a w K Q) (hf : G ≠ want → E) :
    if Region.wanted o (yielded ops a.tmps) = true then Oper.wp P o a w K Q else E := by
  by_cases h : G = want
  · subst h
    rw [if_pos (by simp [Region.wanted, hg, hy])]
    exact ht rfl
  · have h1 : ¬ (some G = some want) := fun e => h (by injection e)
    rw [if_neg (by simp [Region.wanted, hg, hy]; exact h)]
    exact hf h
/-- whatever part of a region's operations is done, what an operation needs is done, and what a done one needed. -/
def Steps1 (P : Program) (md : Region.Mode) (ops : Array Oper) (Q : Exit → Act → World → Prop) (J : (Nat → Bool) → Act → World → Prop) (i : Nat) (o : Oper) : Prop :=
  ∀ (d : Nat → Bool) (a : Act) (w : World) (K : Act → World → Prop), J d a w → d i = false → (∀ j, depB md ops i j = true → d j = true) → (∀ i j, depB md ops i j = true → d i = true → d j = true) → Hid (∀ a' w', J (upd d i) a' w' → K a' w') → if Region.wanted o (yielded ops a.tmps) = true then Oper.wp P o a w K Q else K (a.put o.dst undef) w
/-- a region that draws, by an invariant. -/
theorem wp_region_inv {id : Nat} {a : Act} {w : World} (hm : P.follows .mixedOrders = true) (J : (Nat → Bool) → Act → World → Prop) (hlow : (List.range ops.size).all (fun i => match ops[i]? with | some o => o.after.all fun e => decide (e.on < i) | none => true) = true)
    (h0 : J (fun _ => false) a w.drew)
    (hstep : ∀ (i : Nat) (o : Oper), ops[i]? = some o → Steps1 P .any ops Q J i o)
    (hend : ∀ (d : Nat → Bool) (a : Act) (w : World), J d a w → (∀ i, i < ops.size → d i = true) → (∀ i j, depB .any ops i j = true → d i = true → d j = true) → Q .normal a w) : (Code.region id ops true).wp P Q a w := by
  refine wp_region_any hm (wpAny_inv (fun d a w => J d a w ∧ ∀ i j, depB .any ops i j = true → d i = true → d j = true) ?_ ?_ ?_ _ _ a _ (by simp) (by simp) ⟨?_, ?_⟩)
  · intro i o ho e he
    have hi := (Array.getElem?_eq_some_iff.1 ho).1
    have h1 := (List.all_eq_true.1 hlow) i (List.mem_range.2 hi)
    rw [ho] at h1
    have := (Array.all_eq_true_iff_forall_mem.1 h1) e he
    simpa using this
  · rintro d a w i o ⟨hJ, hcl⟩ ho hd hdeps
    have hon := depB_on ho hdeps
    refine hstep i o ho d a w _ hJ hd hon hcl (Lib.hid (fun a' w' hJ' => ⟨hJ', fun k j hkj hk => ?_⟩))
    by_cases hki : k = i
    · subst hki
      unfold upd
      rw [hon j hkj, Bool.or_true]
    · rw [upd_other d hki] at hk
      unfold upd
      rw [hcl k j hkj hk, Bool.or_true]
  · rintro d a w ⟨hJ, hcl⟩ hall
    exact hend d a w hJ hall hcl
  · have e : (fun i => (Array.replicate ops.size false).getD i false) = fun _ => false := by
      funext i
      simp [Array.getD]
    rw [e]
    exact h0
  · intro i j _ h
    simp [Array.getD] at h
end

theorem Try.mixed : Try.prog.follows .mixedOrders = true := by kernel_rfl

end Go.Proofs.Ytcdecglbkcllaab
