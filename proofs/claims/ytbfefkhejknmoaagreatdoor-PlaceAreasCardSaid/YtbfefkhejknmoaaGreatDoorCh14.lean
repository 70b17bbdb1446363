/-
  The walks of the document's tree: wrong, Has, Add.
  Plain facts on rows' edges: sorted numbers, each once.
-/
import Derived.Test.YtbfefkhejknmoaaGreatDoorCh7
import Derived.Test.YtbfefkhejknmoaaGreatDoorCh13
import Derived.Lib.SlicesCompact
namespace Go.Proofs.YtbfefkhejknmoaaGreatDoor
open Go.RowKit Go.Maps Go.Shelf

set_option maxRecDepth 100000 in
set_option maxHeartbeats 1000000 in
theorem dwr_any (id : Int) (w : World) (h : 0 ≤ id ∧ id ≤ 4294967295) : Calls Tryz.prog 54 #[.int .u32 id] w fun e w' => e = .returned (.int .i64 (idC id)) ∧ w = w' := by
  have h1 : 0 ≤ id := h.1
  have h2 : id ≤ 4294967295 := h.2
  by_cases z0 : id = 0
  · subst z0
    go_enter Tryz.func54, Tryz.ntmps54
    go_wp2_with fail
    go_ret
    exact ⟨rfl, rfl⟩
  by_cases z1 : id = 1
  · subst z1
    go_enter Tryz.func54, Tryz.ntmps54
    go_wp2_with fail
    go_ret
    exact ⟨rfl, rfl⟩
  have d0 : (id == 0) = false := by simp [z0]
  have d1 : (id != 1) = true := by simp [z1]
  have hv : idC id = if id % 1048576 = 0 ∨ id / 1048576 < 1 ∨ 8 < id / 1048576 then 1 else 0 := by
    unfold idC clientB
    rw [if_neg z0]
    by_cases a : id % 1048576 = 0 <;> by_cases b : id / 1048576 < 1 <;> by_cases c : 8 < id / 1048576 <;> simp [z1, a, b, c]
  have HV := Lib.hid hv
  clear hv
  by_cases a : id / 1048576 < 1
  · have e1 : decide (id / 1048576 < 1) = true := decide_eq_true a
    have HA := Lib.hid (show idC id = 1 by rw [HV.out, if_pos (.inr (.inl a))])
    rw [HA.out]
    clear a z0 z1
    go_enter Tryz.func54, Tryz.ntmps54
    go_wp2_with fail
    go_ret
    exact ⟨rfl, rfl⟩
  by_cases b : 8 < id / 1048576
  · have e1 : decide (id / 1048576 < 1) = false := decide_eq_false a
    have e2 : decide (8 < id / 1048576) = true := decide_eq_true b
    have HA := Lib.hid (show idC id = 1 by rw [HV.out, if_pos (.inr (.inr b))])
    rw [HA.out]
    clear a b z0 z1
    go_enter Tryz.func54, Tryz.ntmps54
    go_wp2_with fail
    go_ret
    exact ⟨rfl, rfl⟩
  have e1 : decide (id / 1048576 < 1) = false := decide_eq_false a
  have e2 : decide (8 < id / 1048576) = false := decide_eq_false b
  by_cases c : id % 1048576 = 0
  · have e3 : (id % 1048576 == 0) = true := by simp [c]
    have HA := Lib.hid (show idC id = 1 by rw [HV.out, if_pos (.inl c)])
    rw [HA.out]
    clear a b c z0 z1
    go_enter Tryz.func54, Tryz.ntmps54
    go_wp2_with fail
    go_ret
    exact ⟨rfl, rfl⟩
  · have e3 : (id % 1048576 == 0) = false := by simp [c]
    have HA := Lib.hid (show idC id = 0 by rw [HV.out, if_neg (by omega)])
    rw [HA.out]
    clear a b c z0 z1
    go_enter Tryz.func54, Tryz.ntmps54
    go_wp2_with fail
    go_ret
    exact ⟨rfl, rfl⟩

/-- a slice reads as windows and their parents. -/
def NdAt (w : World) (b o : Nat) (p : Int × Int) : Prop := w.cell? ⟨b, o, none⟩ = some (.int .u32 p.1) ∧ w.cell? ⟨b, o + 1, none⟩ = some (.int .u32 p.2)
def RdN (w : World) (A : Option Addr) (n : Nat) (ns : Nodes) : Prop :=
  ns.length = n ∧ (0 < n → ∃ b off, A = some ⟨b, off, none⟩ ∧ b < w.heap.size ∧ ∀ k p, ns[k]? = some p → NdAt w b (off + k * 2) p)
theorem RdN.below {w w' : World} {A : Option Addr} {n : Nat} {ns : Nodes} (h : RdN w A n ns) (hb : Below w.heap.size w w') : RdN w' A n ns :=
  ⟨h.1, fun hn => by
    obtain ⟨b, off, e, hl, hc⟩ := h.2 hn
    exact ⟨b, off, e, Nat.lt_of_lt_of_le hl hb.size, fun k p hk => ⟨(hb.cell (p := ⟨b, off + k * 2, none⟩) hl).trans (hc k p hk).1, (hb.cell (p := ⟨b, off + k * 2 + 1, none⟩) hl).trans (hc k p hk).2⟩⟩⟩
theorem hasN_cons (p : Int × Int) (ns : Nodes) (i : Int) : hasN (p :: ns) i = (p.1 == i || hasN ns i) := by
  unfold hasN upOf
  by_cases h : p.1 = i
  · simp [List.find?_cons, h]
  · have : (p.1 == i) = false := by simp [h]
    simp [List.find?_cons, this]
theorem hasN_take {ns : Nodes} {i : Int} {k : Nat} {p : Int × Int} (hp : ns[k]? = some p) (h : hasN (ns.take k) i = decide (i = 1)) (hi : (p.1 == i) = false) : hasN (ns.take (k + 1)) i = decide (i = 1) := by
  rw [List.take_add_one, hp]
  have key : ∀ l : Nodes, hasN l i = decide (i = 1) → hasN (l ++ [p]) i = decide (i = 1) := by
    intro l
    induction l with
    | nil =>
      intro _
      show hasN [p] i = _
      rw [hasN_cons, hi]
      rfl
    | cons q l ih =>
      intro hl
      rw [List.cons_append, hasN_cons]
      rw [hasN_cons] at hl
      cases hq : q.1 == i
      · rw [hq] at hl
        rw [Bool.false_or] at hl ⊢
        exact ih hl
      · rw [hq] at hl
        rw [Bool.true_or] at hl ⊢
        exact hl
  exact key _ h
theorem hasN_mem {ns : Nodes} {i : Int} {k : Nat} {p : Int × Int} (hp : ns[k]? = some p) (hi : (p.1 == i) = true) : hasN ns i = true := by
  have hm := List.mem_of_getElem? hp
  clear hp
  induction ns with
  | nil => cases hm
  | cons q ns ih =>
    rw [hasN_cons]
    rcases List.mem_cons.1 hm with rfl | h
    · rw [hi]; rfl
    · rw [ih h, Bool.or_true]

set_option maxRecDepth 100000 in
set_option maxHeartbeats 1000000 in
theorem dhas_any (A : Option Addr) (n c : Nat) (ns : Nodes) (id : Int) (w : World) (hn : n ≤ 1000000) (hr : RdN w A n ns) :
    Calls Tryz.prog 55 #[.slice A n c, .int .u32 id] w fun e w' => e = .returned (.bool (hasN ns id)) ∧ Below w.heap.size w w' := by
  have HR := Lib.hid hr
  have HL := Lib.hid hr.1
  clear hr
  go_enter Tryz.func55, Tryz.ntmps55
  go_wp2_with fail
  go_loopw [5] (fun i wr => ∃ k : Nat, i = .int .i64 k ∧ k ≤ n ∧ hasN (ns.take k) id = decide (id = 1) ∧ Below w.heap.size w wr) (fun i _ => n - (intOf i).toNat)
  case atStart => exact ⟨0, rfl, by omega, by simp [hasN, upOf], bre w⟩
  case round =>
    obtain ⟨k, rfl, hk, hno, hB⟩ := hrel
    have HB := Lib.hid hB
    have HNO := Lib.hid hno
    by_cases hlt : k < n
    · obtain ⟨p, hp⟩ : ∃ p, ns[k]? = some p := ⟨_, List.getElem?_eq_getElem (by have := HL.out; omega)⟩
      obtain ⟨b, off, rfl, hb, hcl⟩ := (HR.out.below hB).2 (by omega)
      obtain ⟨c0, c1⟩ := hcl k p hp
      have k1 : (k : Int) < (n : Int) := by omega
      have k0 : (0 : Int) ≤ (k : Int) := by omega
      have HP := Lib.hid hp
      clear hB hno hcl hp
      cases he : p.1 == id
      · have HE := Lib.hid he
        go_wp2_with fail
        go_roundw
        case rel => exact ⟨k + 1, by go_num, by omega, hasN_take HP.out HNO.out HE.out, HB.out⟩
        case measure => simp [intOf]; omega
      · have HE := Lib.hid he
        go_wp2_with fail
        go_ret
        exact ⟨ret_bool (hasN_mem HP.out HE.out).symm, HB.out⟩
    · obtain rfl : k = n := by omega
      have ht : ns.take k = ns := List.take_of_length_le (by rw [HL.out]; exact Nat.le_refl _)
      have hv : hasN ns id = decide (id = 1) := by have := HNO.out; rwa [ht] at this
      have HV := Lib.hid hv
      clear hB hno hv ht
      have e1 : (id == 1) = decide (id = 1) := by by_cases h : id = 1 <;> simp [h]
      have HE := Lib.hid e1
      clear e1
      go_wp2_with fail
      go_ret
      exact ⟨ret_bool (by rw [HV.out, HE.out]), HB.out⟩

end Go.Proofs.YtbfefkhejknmoaaGreatDoor

namespace Go.Proofs.YtbfefkhejknmoaaGreatDoor

/-- of numbers that rise, each once: they rise strictly, and are the same. -/
theorem compact_rises {zs : List Int} (h : zs.Pairwise (· ≤ ·)) : (Lib.compact zs).Pairwise (· < ·) ∧ ∀ y, y ∈ Lib.compact zs ↔ y ∈ zs := by
  have hg : ∀ i j (_ : i < zs.length) (_ : j < zs.length), i ≤ j → zs[i] ≤ zs[j] := fun i j hi hj hij => by
    rcases Nat.lt_or_ge i j with h1 | h1
    · exact List.pairwise_iff_getElem.1 h i j hi hj h1
    · obtain rfl : i = j := by omega
      exact Int.le_refl _
  unfold Lib.compact Lib.compactUpTo
  constructor
  · rw [List.pairwise_map]
    have hr : ((List.range zs.length).filter (Lib.keeps zs.toArray)).Pairwise (· < ·) := List.Pairwise.filter _ List.pairwise_lt_range
    refine List.Pairwise.imp_of_mem (fun {i j} hi hj hij => ?_) hr
    simp only [List.mem_filter, List.mem_range] at hi hj
    have hk := hj.2
    simp only [Lib.keeps, decide_eq_true_eq] at hk
    have e1 : zs.toArray[i]! = zs[i] := by rw [getElem!_pos _ i (by simpa using hi.1)]; simp
    have e2 : zs.toArray[j]! = zs[j] := by rw [getElem!_pos _ j (by simpa using hj.1)]; simp
    have e3 : zs.toArray[j - 1]! = zs[j - 1]'(by omega) := by rw [getElem!_pos _ (j - 1) (by simp; omega)]; simp
    rw [e1, e2]
    rw [e2, e3] at hk
    have h1 := hg i (j - 1) hi.1 (by omega) (by omega)
    have h2 := hg (j - 1) j (by omega) hj.1 (by omega)
    rcases hk with hk | hk
    · omega
    · have : zs[j] ≠ zs[j - 1]'(by omega) := hk
      omega
  · intro y
    simp only [List.mem_map, List.mem_filter, List.mem_range]
    constructor
    · rintro ⟨i, ⟨hi, _⟩, rfl⟩
      rw [getElem!_pos _ i (by simpa using hi)]
      simp
    · intro hy
      obtain ⟨i, hi, rfl⟩ := List.getElem_of_mem hy
      have key : ∀ k, ∀ hk : k < zs.length, ∃ q, (q < zs.length ∧ Lib.keeps zs.toArray q = true) ∧ zs.toArray[q]! = zs[k] := by
        intro k
        induction k with
        | zero =>
          intro hk
          exact ⟨0, ⟨hk, by simp [Lib.keeps]⟩, by rw [getElem!_pos _ 0 (by simpa using hk)]; simp⟩
        | succ k ih =>
          intro hk
          by_cases hne : zs[k + 1] = zs[k]
          · obtain ⟨q, h1, h2⟩ := ih (by omega)
            exact ⟨q, h1, h2.trans hne.symm⟩
          · refine ⟨k + 1, ⟨hk, ?_⟩, by rw [getElem!_pos _ (k + 1) (by simpa using hk)]; simp⟩
            simp only [Lib.keeps, decide_eq_true_eq]
            right
            rw [getElem!_pos _ (k + 1) (by simpa using hk), getElem!_pos _ (k + 1 - 1) (by simp; omega)]
            simpa using hne
      exact key i hi

end Go.Proofs.YtbfefkhejknmoaaGreatDoor
