/-
  A window that keeps its size and moves, plainly: all below it moves along, but kids that are Static, and what is below them.
-/
import Derived.Test.YtbfefkhejknmoaaGreatDoorCh47
namespace Go.Proofs.YtbfefkhejknmoaaGreatDoor

/-- has a window a box whose gravity is Static? -/
def statB (bs : Bxs) (x : Int) : Bool := match bs x with | some k => decide (k.G = 10) | none => false
/-- what the law asks of a path: the kid of id on it, if any, the last one: is it Static? -/
def stP (bs : Bxs) (id : Int) (ps : List (Int × Int)) (s : Bool) : Bool := ps.foldl (fun s p => if p.2 = id then statB bs p.1 else s) s
def stL (bs : Bxs) (id : Int) (l : List Int) (m : Nat) : Bool := stP bs id ((l.zip l.tail).take m) false
theorem stL_succ {bs : Bxs} {id : Int} {l : List Int} {m : Nat} {a b : Int} (h1 : l[m]? = some a) (h2 : l[m + 1]? = some b) : stL bs id l (m + 1) = if b = id then statB bs a else stL bs id l m := by
  have hz : (l.zip l.tail)[m]? = some (a, b) := by
    rw [List.getElem?_zip_eq_some]
    exact ⟨h1, by rw [List.getElem?_tail]; exact h2⟩
  unfold stL stP
  rw [List.take_add_one, hz]
  simp [List.foldl_append]
theorem stP_none {bs : Bxs} {id : Int} : ∀ (ps : List (Int × Int)) (s : Bool), (∀ p ∈ ps, p.2 ≠ id) → stP bs id ps s = s := by
  intro ps
  induction ps with
  | nil => intro s _; rfl
  | cons p ps ih =>
    intro s h
    unfold stP
    rw [List.foldl_cons, if_neg (h p (by simp))]
    exact ih s (fun q hq => h q (List.mem_cons_of_mem _ hq))
theorem stL_all (bs : Bxs) (id : Int) (l : List Int) : stL bs id l (l.length - 1) = stP bs id (l.zip l.tail) false := by
  unfold stL
  rw [List.take_of_length_le (by simp)]
theorem zip_tail_mem {l : List Int} {p : Int × Int} (h : p ∈ l.zip l.tail) : p.2 ∈ l.tail := (List.of_mem_zip h).2

section
variable {bs : Bxs} {ns : Nodes} {id : Int} {b : BX} {dx dy : Int}
theorem sh_still (g : Int) (b : BX) (dx dy : Int) : shX g (rcOf b) ⟨b.X + dx, b.Y + dy, b.W, b.H⟩ = (if g = 10 then -dx else 0) ∧ shY g (rcOf b) ⟨b.X + dx, b.Y + dy, b.W, b.H⟩ = (if g = 10 then -dy else 0) := by
  have z : ∀ c, partI 0 c = 0 := fun c => by unfold partI; split <;> simp
  unfold shX shY rcOf
  dsimp only
  rw [show b.W - b.W = 0 from by omega, show b.H - b.H = 0 from by omega, z, z]
  constructor <;> (by_cases h0 : g = 0 <;> by_cases h1 : g = 10 <;> simp [h0, h1]) <;> omega
/-- a kid's box behind it. -/
theorem pm_kid (hb : bs id = some b) (hc : resC bs ns id ⟨b.X + dx, b.Y + dy, b.W, b.H⟩ = 0) {x : Int} (hx : x ∈ kidsOf ns id) (hxi : x ≠ id) :
    (resBs bs ns id ⟨b.X + dx, b.Y + dy, b.W, b.H⟩ x).isSome = (bs x).isSome ∧ ((resBs bs ns id ⟨b.X + dx, b.Y + dy, b.W, b.H⟩ x).getD zBX).X = ((bs x).getD zBX).X - (if statB bs x then dx else 0) ∧ ((resBs bs ns id ⟨b.X + dx, b.Y + dy, b.W, b.H⟩ x).getD zBX).Y = ((bs x).getD zBX).Y - (if statB bs x then dy else 0) := by
  cases hk : bs x with
  | none =>
    rw [resBs_none hb hc hxi hk]
    have : statB bs x = false := by unfold statB; rw [hk]
    rw [this]
    simp
  | some k =>
    have hs := sh_still k.G b dx dy
    have e : statB bs x = decide (k.G = 10) := by unfold statB; rw [hk]
    rw [e]
    rcases resBs_kid hb hc hx hxi hk with h1 | ⟨h1, z1, z2⟩
    · rw [h1]
      refine ⟨rfl, ?_, ?_⟩
      · show k.X + shX k.G (rcOf b) _ = k.X - _
        rw [hs.1]
        by_cases h : k.G = 10 <;> simp [h] <;> omega
      · show k.Y + shY k.G (rcOf b) _ = k.Y - _
        rw [hs.2]
        by_cases h : k.G = 10 <;> simp [h] <;> omega
    · rw [h1]
      rw [hs.1] at z1
      rw [hs.2] at z2
      refine ⟨rfl, ?_, ?_⟩
      · show k.X = k.X - _
        by_cases h : k.G = 10
        · simp [h] at z1 ⊢; omega
        · simp [h]
      · show k.Y = k.Y - _
        by_cases h : k.G = 10
        · simp [h] at z2 ⊢; omega
        · simp [h]
theorem pm_other {r : RC} {x : Int} (hx : x ∉ kidsOf ns id) (hxi : x ≠ id) : resBs bs ns id r x = bs x := by
  unfold resBs
  split
  · cases hb : bs id with
    | none => rfl
    | some b =>
      dsimp only
      split
      · rfl
      · unfold resB
        rw [if_neg (fun h => hx h.1), if_neg hxi]
  · rfl
theorem path_tail_ne (h : TreeOk ns) {x p : Int} (hp : upOf ns x = some p) : x ∉ pathN ns p := fun hm => by
  obtain ⟨rk, hr, hk⟩ := h.ranked
  have h1 := path_rank h hr hk hm
  have h2 := (hk _ (upOf_some hp)).1
  simp only at h2
  rcases h1 with e | h1
  · subst e; omega
  · omega
/-- where any window lies behind it. -/
def MoveOk (bs bs' : Bxs) (ns : Nodes) (id dx dy x : Int) : Prop :=
  allB bs' (pathN ns x) = allB bs (pathN ns x) ∧ sumX bs' (pathN ns x) = sumX bs (pathN ns x) + (if id ∈ pathN ns x then (if stP bs id ((pathN ns x).zip (pathN ns x).tail) false then 0 else dx) else 0) ∧ sumY bs' (pathN ns x) = sumY bs (pathN ns x) + (if id ∈ pathN ns x then (if stP bs id ((pathN ns x).zip (pathN ns x).tail) false then 0 else dy) else 0)
theorem pm_ok (h : TreeOk ns) (hb : bs id = some b) (hc : resC bs ns id ⟨b.X + dx, b.Y + dy, b.W, b.H⟩ = 0) : ∀ x, hasN ns x = true → MoveOk bs (resBs bs ns id ⟨b.X + dx, b.Y + dy, b.W, b.H⟩) ns id dx dy x := by
  obtain ⟨_, _, hid1, _⟩ := resC_zero hc
  obtain ⟨bs', hbs'⟩ : ∃ bs', resBs bs ns id ⟨b.X + dx, b.Y + dy, b.W, b.H⟩ = bs' := ⟨_, rfl⟩
  have hkn : id ∉ kidsOf ns id := fun hk => kid_ne h hk rfl
  have hself := resBs_id hb hc hkn
  rw [hbs'] at hself
  rw [hbs']
  have cA : ∀ (f : Bxs) (x : Int) (l : List Int), allB f (x :: l) = ((f x).isSome && allB f l) := fun f x l => rfl
  have cX : ∀ (f : Bxs) (x : Int) (l : List Int), sumX f (x :: l) = (if x = 1 then 0 else ((f x).getD zBX).X) + sumX f l := fun f x l => by simp [sumX]
  have cY : ∀ (f : Bxs) (x : Int) (l : List Int), sumY f (x :: l) = (if x = 1 then 0 else ((f x).getD zBX).Y) + sumY f l := fun f x l => by simp [sumY]
  have hup : ∀ {x p : Int}, upOf ns x = some p → (x ∈ kidsOf ns id ↔ p = id) := fun {x p} hp => by
    rw [kids_mem, ← upOf_iff h, hp]
    simp
  refine path_ind h ?_ ?_
  · unfold MoveOk
    rw [path_root h]
    have h1 : bs' 1 = bs 1 := by
      rw [← hbs']
      refine pm_other (fun hk => ?_) (Ne.symm hid1)
      exact h.noroot _ (kids_mem.1 hk) rfl
    simp [allB, sumX, sumY, h1, hid1]
  · intro x p hp ih
    obtain ⟨hpath, hpn, hx1⟩ := path_step h hp
    have hxn := path_tail_ne h hp
    unfold MoveOk at ih ⊢
    rw [hpath, cA, cA, cX, cX, cY, cY, if_neg hx1, if_neg hx1, if_neg hx1, if_neg hx1]
    obtain ⟨i1, i2, i3⟩ := ih
    obtain ⟨q, hq⟩ : ∃ q, pathN ns p = q := ⟨_, rfl⟩
    have hqp : ∃ q', q = p :: q' := by
      rcases hasN_iff.1 hpn with e | ⟨p2, hp2⟩
      · subst e
        exact ⟨[], by rw [← hq]; exact path_root h⟩
      · exact ⟨_, by rw [← hq]; exact (path_step h hp2).1⟩
    obtain ⟨q', rfl⟩ := hqp
    rw [hq] at i1 i2 i3 hxn ⊢
    have hz : (x :: p :: q').zip (x :: p :: q').tail = (x, p) :: (p :: q').zip (p :: q').tail := rfl
    rw [hz]
    have hst : stP bs id ((x, p) :: (p :: q').zip (p :: q').tail) false = stP bs id ((p :: q').zip (p :: q').tail) (if p = id then statB bs x else false) := rfl
    rw [hst]
    by_cases hxi : x = id
    · subst hxi
      have hpx : p ≠ x := fun e => hxn (by rw [e]; simp)
      rw [if_neg hpx]
      have hno : stP bs x ((p :: q').zip (p :: q').tail) false = false := stP_none _ _ (fun r hr e => hxn (by rw [← e]; exact List.mem_of_mem_tail (zip_tail_mem hr)))
      rw [hno, hself, hb, i1, i2, i3, if_neg hxn, if_neg hxn]
      simp [atR]
      omega
    · by_cases hpi : p = id
      · have hk := pm_kid hb hc ((hup hp).2 hpi) hxi
        rw [hbs'] at hk
        obtain ⟨k1, k2, k3⟩ := hk
        subst hpi
        have hnt : ∀ r ∈ (p :: q').zip (p :: q').tail, r.2 ≠ p := fun r hr e => by
          have hm := zip_tail_mem hr
          simp only [List.tail_cons] at hm
          rw [e] at hm
          rcases hasN_iff.1 hpn with e1 | ⟨p2, hp2⟩
          · exact hid1 e1
          · have h2 := (path_step h hp2).1
            rw [hq] at h2
            injection h2 with _ h2
            exact path_tail_ne h hp2 (by rw [← h2]; exact hm)
        rw [stP_none _ _ hnt] at i2 i3
        rw [if_pos rfl, stP_none _ _ hnt, k1, k2, k3, i1, i2, i3]
        refine ⟨rfl, ?_, ?_⟩
        · cases statB bs x <;> simp <;> omega
        · cases statB bs x <;> simp <;> omega
      · have ho : bs' x = bs x := by
          rw [← hbs']
          exact pm_other (fun hk => hpi ((hup hp).1 hk)) hxi
        rw [if_neg hpi, ho, i1, i2, i3]
        have hm : id ∈ x :: p :: q' ↔ id ∈ p :: q' := by
          rw [List.mem_cons]
          exact ⟨fun h => h.resolve_left (fun e => hxi e.symm), .inr⟩
        simp only [hm]
        refine ⟨trivial, ?_, ?_⟩ <;> omega
end

end Go.Proofs.YtbfefkhejknmoaaGreatDoor
