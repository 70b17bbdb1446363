/-
  tree.Add and place.Set, each in one contract.
  The walks of the document's list of boxes: Find, empty.
-/
import Derived.Test.YtbfefkhejknmoaaGreatDoorCh9
import Derived.Test.YtbfefkhejknmoaaGreatDoorCh13
import Derived.Test.YtbfefkhejknmoaaGreatDoorCh25
namespace Go.Proofs.YtbfefkhejknmoaaGreatDoor
open Go.RowKit Go.Maps Go.Shelf

theorem tadd_any (v : Value) (ns : Nodes) (mk mu : Option Nat) (nk : Nat) (fk : Int → Option Value) (id p : Int) (w : World) (hid : 0 ≤ id ∧ id ≤ 4294967295) (hp : 0 ≤ p ∧ p ≤ 4294967295) (h : TreeIs w v ns mk mu nk fk) :
    Calls Tryz.prog 29 #[v, .int .u32 id, .int .u32 p] w fun e w' => (∃ v' mk' mu' nk' fk', e = .returned (.tuple #[v', .int .i64 (addC ns id p)]) ∧ TreeIs w' v' (addN ns id p) mk' mu' nk' fk') ∧ Below w.heap.size w w' := by
  have keep : ∀ code : Int, code ≠ 0 → addC ns id p = code → ((idC id = code ∧ (code != 0) = true) ∨ (idC id = 0 ∧ ((hasN ns id = true ∧ code = 7) ∨ (hasN ns id = false ∧ ((hasN ns p = false ∧ code = 6) ∨ (hasN ns p = true ∧ decide ((64 : Int) ≤ (ns.length : Int) + 1) = true ∧ code = 5)))))) → Calls Tryz.prog 29 #[v, .int .u32 id, .int .u32 p] w fun e w' => (∃ v' mk' mu' nk' fk', e = .returned (.tuple #[v', .int .i64 (addC ns id p)]) ∧ TreeIs w' v' (addN ns id p) mk' mu' nk' fk') ∧ Below w.heap.size w w' := by
    intro code h0 hc hh
    refine (tadd_err v ns mk mu nk fk id p code w hid hp h hh).mono ?_
    rintro e w' ⟨rfl, hb⟩
    have e0 : addN ns id p = ns := by unfold addN; rw [hc, if_neg h0]
    rw [hc, e0]
    exact ⟨⟨v, mk, mu, nk, fk, rfl, h.below hb⟩, hb⟩
  by_cases h1 : idC id = 0
  · cases h2 : hasN ns id
    · cases h3 : hasN ns p
      · exact keep 6 (by decide) (by simp [addC, h1, h2, h3]) (.inr ⟨h1, .inr ⟨h2, .inl ⟨h3, rfl⟩⟩⟩)
      · by_cases h4 : 64 ≤ ns.length + 1
        · exact keep 5 (by decide) (by simp [addC, h1, h2, h3, h4]) (.inr ⟨h1, .inr ⟨h2, .inr ⟨h3, decide_eq_true (by omega), rfl⟩⟩⟩)
        · have hc : addC ns id p = 0 := by simp [addC, h1, h2, h3, h4]
          refine (tadd_ok v ns mk mu nk fk id p w hid hp h h1 h2 h3 (decide_eq_false (by omega))).mono ?_
          rintro e w' ⟨⟨v', mk', mu', nk', fk', rfl, h'⟩, hb⟩
          have e0 : addN ns id p = ns ++ [(id, p)] := by unfold addN; rw [hc, if_pos rfl]
          rw [hc, e0]
          exact ⟨⟨v', mk', mu', nk', fk', rfl, h'⟩, hb⟩
    · exact keep 7 (by decide) (by simp [addC, h1, h2]) (.inr ⟨h1, .inl ⟨h2, rfl⟩⟩)
  · exact keep (idC id) h1 (by simp [addC, h1]) (.inl ⟨rfl, by simp [h1]⟩)

/-- what Set answers. -/
def setC (bs : Bxs) (n : Nat) (id : Int) (b : BX) : Int :=
  if id = 1 then 23 else if idC id ≠ 0 then idC id else if (coordB b.X && coordB b.Y) = false then 1 else if (sideB b.W && sideB b.H) = false then 17 else if gravC b.G = 10 ∨ gravC b.B = 10 then 10 else if b.S = false ∧ b.n ≠ 0 then 14 else if (bs id).isSome = false ∧ 64 ≤ n then 5 else if n = 0 then 9 else 0
/-- the boxes behind it. -/
def setB (bs : Bxs) (n : Nat) (id : Int) (b : BX) : Bxs := if setC bs n id b = 0 then fun j => if j = id then some b else bs j else bs
def setN (bs : Bxs) (n : Nat) (id : Int) (b : BX) : Nat := if setC bs n id b = 0 then (if (bs id).isSome then n else n + 1) else n
theorem gravC_or (g : Int) : gravC g = 0 ∨ gravC g = 10 := by
  unfold gravC
  split
  · exact .inl rfl
  · exact .inr rfl

theorem pset_any (pv : Value) (n : Nat) (bs : Bxs) (id : Int) (b : BX) (w : World) (hid : 0 ≤ id ∧ id ≤ 4294967295) (hn : n ≤ 1000) (hp : PlaceIs w pv n bs) (hz : n = 0 → bs id = none) :
    Calls Tryz.prog 15 #[pv, .int .u32 id, b.v] w fun e w' => ∃ pv', e = .returned (.tuple #[pv', .int .i64 (setC bs n id b)]) ∧ PlaceIs w' pv' (setN bs n id b) (setB bs n id b) ∧ Below w.heap.size w w' := by
  have keep : ∀ code : Int, code ≠ 0 → setC bs n id b = code → SetErr id b n (bs id).isSome code → Calls Tryz.prog 15 #[pv, .int .u32 id, b.v] w fun e w' => ∃ pv', e = .returned (.tuple #[pv', .int .i64 (setC bs n id b)]) ∧ PlaceIs w' pv' (setN bs n id b) (setB bs n id b) ∧ Below w.heap.size w w' := by
    intro code h0 hc hh
    refine (pset_err pv n bs id b code w hid hn hp hh).mono ?_
    rintro e w' ⟨rfl, hb⟩
    have e0 : setB bs n id b = bs := by unfold setB; rw [hc, if_neg h0]
    have e1 : setN bs n id b = n := by unfold setN; rw [hc, if_neg h0]
    rw [hc, e0, e1]
    exact ⟨pv, rfl, hp.below hb, hb⟩
  by_cases h1 : id = 1
  · exact keep 23 (by decide) (by simp [setC, h1]) (.inl ⟨h1, rfl⟩)
  by_cases h2 : idC id = 0
  rotate_left
  · exact keep (idC id) h2 (by simp [setC, h1, h2]) (.inr ⟨h1, .inl ⟨h2, rfl⟩⟩)
  have s2 : ∀ {code}, _ → SetErr id b n (bs id).isSome code := fun {code} x => .inr ⟨h1, .inr ⟨h2, x⟩⟩
  cases hx : coordB b.X
  · exact keep 1 (by decide) (by simp [setC, h1, h2, hx]) (s2 (.inl ⟨hx, rfl⟩))
  cases hy : coordB b.Y
  · exact keep 1 (by decide) (by simp [setC, h1, h2, hx, hy]) (s2 (.inr ⟨hx, .inl ⟨hy, rfl⟩⟩))
  cases hw : sideB b.W
  · exact keep 17 (by decide) (by simp [setC, h1, h2, hx, hy, hw]) (s2 (.inr ⟨hx, .inr ⟨hy, .inl ⟨hw, rfl⟩⟩⟩))
  cases hh : sideB b.H
  · exact keep 17 (by decide) (by simp [setC, h1, h2, hx, hy, hw, hh]) (s2 (.inr ⟨hx, .inr ⟨hy, .inr ⟨hw, .inl ⟨hh, rfl⟩⟩⟩⟩))
  have s3 : ∀ {code}, _ → SetErr id b n (bs id).isSome code := fun {code} x => s2 (.inr ⟨hx, .inr ⟨hy, .inr ⟨hw, .inr ⟨hh, x⟩⟩⟩⟩)
  rcases gravC_or b.G with hg | hg
  rotate_left
  · exact keep 10 (by decide) (by simp [setC, h1, h2, hx, hy, hw, hh, hg]) (s3 (.inl ⟨hg, rfl⟩))
  rcases gravC_or b.B with hb | hb
  rotate_left
  · exact keep 10 (by decide) (by simp [setC, h1, h2, hx, hy, hw, hh, hg, hb]) (s3 (.inr ⟨hg, .inl ⟨hb, rfl⟩⟩))
  by_cases hs : b.S = false ∧ b.n ≠ 0
  · exact keep 14 (by decide) (by simp [setC, h1, h2, hx, hy, hw, hh, hg, hb, hs]) (s3 (.inr ⟨hg, .inr ⟨hb, .inl ⟨hs.1, decide_eq_false hs.2, rfl⟩⟩⟩))
  have hS : b.S = true ∨ (b.S = false ∧ decide (b.n = 0) = true) := by
    cases e : b.S
    · exact .inr ⟨rfl, decide_eq_true (Classical.byContradiction fun h => hs ⟨e, h⟩)⟩
    · exact .inl rfl
  have hs' : ¬ (b.S = false ∧ ¬ b.n = 0) := hs
  by_cases hm : (bs id).isSome = false ∧ 64 ≤ n
  · have hm1 : bs id = none := by simpa using hm.1
    exact keep 5 (by decide) (by simp [setC, h1, h2, hx, hy, hw, hh, hg, hb, hs', hm1, hm.2]) (s3 (.inr ⟨hg, .inr ⟨hb, .inr ⟨hS, .inl ⟨hm.1, decide_eq_true (by omega), rfl⟩⟩⟩⟩))
  have hc1 : setC bs n id b = if n = 0 then 9 else 0 := by
    unfold setC
    rw [if_neg h1, if_neg (by simp [h2]), if_neg (by simp [hx, hy]), if_neg (by simp [hw, hh]), if_neg (by simp [hg, hb]), if_neg hs, if_neg hm]
  by_cases h0 : n = 0
  · have hno : (bs id).isSome = false := by rw [hz h0]; rfl
    exact keep 9 (by decide) (by rw [hc1, if_pos h0]) (s3 (.inr ⟨hg, .inr ⟨hb, .inr ⟨hS, .inr ⟨hno, decide_eq_false (by omega), by rw [h0]; rfl, rfl⟩⟩⟩⟩))
  · have hc : setC bs n id b = 0 := by rw [hc1, if_neg h0]
    refine (pset_ok pv n bs id b w hid hn hp h1 h2 hx hy hw hh hg hb hS ?_ (by simp; omega)).mono ?_
    · cases e : (bs id).isSome
      · refine .inr ⟨rfl, decide_eq_false fun h => hm ⟨e, by omega⟩⟩
      · exact .inl rfl
    · rintro e w' ⟨pv', rfl, hp', hb'⟩
      have e0 : setB bs n id b = fun j => if j = id then some b else bs j := by unfold setB; rw [hc, if_pos rfl]
      have e1 : setN bs n id b = if (bs id).isSome then n else n + 1 := by unfold setN; rw [hc, if_pos rfl]
      rw [hc, e0, e1]
      exact ⟨pv', rfl, hp', hb'⟩

end Go.Proofs.YtbfefkhejknmoaaGreatDoor

namespace Go.Proofs.YtbfefkhejknmoaaGreatDoor
open Go.RowKit Go.Maps Go.Shelf

/-- a window's box as the document has it: its id, its box with the shape's slice as it lies, and the shape's rectangles. -/
structure DB where
  id : Int
  b : BX
  sh : List RC
def DB.cells (d : DB) : List Value := [.int .u32 d.id, .int .i64 d.b.X, .int .i64 d.b.Y, .int .i64 d.b.W, .int .i64 d.b.H, .bool d.b.M, .int .i64 d.b.G, .int .i64 d.b.B, .bool d.b.S, .slice d.b.A d.b.n d.b.c]
theorem DB.cells_len (d : DB) : d.cells.length = 10 := rfl
theorem DB.cells_one (l : List DB) : ∀ u ∈ l.flatMap DB.cells, u.oneCell' = true := by
  intro u hu
  obtain ⟨p, _, hp⟩ := List.mem_flatMap.1 hu
  simp only [DB.cells, List.mem_cons, List.not_mem_nil, or_false] at hp
  rcases hp with rfl | rfl | rfl | rfl | rfl | rfl | rfl | rfl | rfl | rfl <;> rfl
abbrev RdD := RdF DB.cells 10
/-- the place of a window's box. -/
def findD : List DB → Int → Int → Int
  | [], _, _ => -1
  | d :: l, i, k => if d.id = i then k else findD l i (k + 1)
theorem findD_bd : ∀ (l : List DB) (i k : Int), 0 ≤ k → findD l i k = -1 ∨ (k ≤ findD l i k ∧ findD l i k < k + l.length)
  | [], _, _, _ => .inl rfl
  | d :: l, i, k, hk => by
    unfold findD
    split
    · right; simp only [List.length_cons]; omega
    · rcases findD_bd l i (k + 1) (by omega) with h | h
      · exact .inl h
      · right; simp only [List.length_cons]; omega
theorem findD_drop {l : List DB} {i : Int} {k : Nat} {d : DB} (h : l[k]? = some d) : findD (l.drop k) i (k : Int) = if d.id = i then (k : Int) else findD (l.drop (k + 1)) i ((k : Int) + 1) := by
  obtain ⟨h1, h2⟩ := List.getElem?_eq_some_iff.1 h
  rw [List.drop_eq_getElem_cons h1, h2]
  rfl

set_option maxRecDepth 100000 in
set_option maxHeartbeats 1000000 in
theorem dfind_any (A : Option Addr) (n c : Nat) (l : List DB) (id : Int) (w : World) (hn : n ≤ 1000000) (hr : RdD w A n l) :
    Calls Tryz.prog 49 #[.slice A n c, .int .u32 id] w fun e w' => e = .returned (.int .i64 (findD l id 0)) ∧ Below w.heap.size w w' := by
  have HR := Lib.hid hr
  have HL := Lib.hid hr.1
  clear hr
  go_enter Tryz.func49, Tryz.ntmps49
  go_wp2_with fail
  go_loopw [5] (fun i wr => ∃ k : Nat, i = .int .i64 k ∧ k ≤ n ∧ findD l id 0 = findD (l.drop k) id (k : Int) ∧ Below w.heap.size w wr) (fun i _ => n - (intOf i).toNat)
  case atStart => exact ⟨0, rfl, by omega, rfl, bre w⟩
  case round =>
    obtain ⟨k, rfl, hk, hno, hB⟩ := hrel
    have HB := Lib.hid hB
    have HNO := Lib.hid hno
    by_cases hlt : k < n
    · obtain ⟨d, hd⟩ : ∃ d, l[k]? = some d := ⟨_, List.getElem?_eq_getElem (by have := HL.out; omega)⟩
      obtain ⟨b, off, rfl, hb, hcl⟩ := (HR.out.below hB).2 (by omega)
      have c0 : wr.cell? ⟨b, off + k * 10, none⟩ = some (.int .u32 d.id) := hcl k d hd 0 _ rfl
      have k1 : (k : Int) < (n : Int) := by omega
      have k0 : (0 : Int) ≤ (k : Int) := by omega
      have HD := Lib.hid (findD_drop (i := id) hd)
      clear hB hno hcl hd
      by_cases he : d.id = id
      · have d1 : (d.id == id) = true := by simp [he]
        have HV := Lib.hid (show findD l id 0 = (k : Int) by rw [HNO.out, HD.out, if_pos he])
        clear he
        go_wp2_with fail
        go_ret
        exact ⟨ret_int HV.out.symm, HB.out⟩
      · have d1 : (d.id == id) = false := by simp [he]
        have HV := Lib.hid (show findD l id 0 = findD (l.drop (k + 1)) id ((k : Int) + 1) by rw [HNO.out, HD.out, if_neg he])
        clear he
        go_wp2_with fail
        go_roundw
        case rel => exact ⟨k + 1, by go_num, by omega, by rw [HV.out]; rfl, HB.out⟩
        case measure => simp [intOf]; omega
    · obtain rfl : k = n := by omega
      have ht : l.drop k = [] := List.drop_of_length_le (by rw [HL.out]; exact Nat.le_refl _)
      have HV := Lib.hid (show findD l id 0 = -1 by rw [HNO.out, ht]; rfl)
      clear hB hno ht
      go_wp2_with fail
      go_ret
      exact ⟨ret_int HV.out.symm, HB.out⟩

/-- has a shape no places? -/
def emptyD (rs : List RC) : Bool := rs.all fun r => !r.cnt
theorem asR_pos (r : RC) : decide (0 < (asR r).W) = r.cnt := by
  unfold asR
  cases h : r.cnt
  · rfl
  · obtain ⟨X, Y, W, H⟩ := r
    rw [if_pos rfl]
    unfold RC.cnt fitsB at h
    rw [Bool.and_eq_true, decide_eq_true_eq, decide_eq_true_eq] at h
    exact decide_eq_true h.1.2.1
theorem Tryz.run_field_rc2 (a b c d : Value) (w : World) : (Instr.field 29 (.agg #[a, b, c, d]) 2).run Tryz.prog w = .ok c w := by kernel_rfl
attribute [local go_sem ↓] Tryz.run_field_rc2
set_option maxRecDepth 100000 in
set_option maxHeartbeats 1000000 in
theorem dempty_any (A : Option Addr) (n c : Nat) (rs : List RC) (w : World) (hn : n ≤ 1000000) (hr : RdR w A n rs) :
    Calls Tryz.prog 58 #[.slice A n c] w fun e w' => e = .returned (.bool (emptyD rs)) ∧ Below w.heap.size w w' := by
  have HR := Lib.hid hr
  have HL := Lib.hid hr.1
  clear hr
  go_enter Tryz.func58, Tryz.ntmps58
  go_wp2_with fail
  go_loopw [3] (fun i wr => ∃ k : Nat, i = .int .i64 k ∧ k ≤ n ∧ emptyD (rs.take k) = true ∧ Below w.heap.size w wr) (fun i _ => n - (intOf i).toNat)
  case atStart => exact ⟨0, rfl, by omega, rfl, bre w⟩
  case round =>
    obtain ⟨k, rfl, hk, hno, hB⟩ := hrel
    have HB := Lib.hid hB
    have HNO := Lib.hid hno
    by_cases hlt : k < n
    · obtain ⟨r, hx⟩ : ∃ r, rs[k]? = some r := ⟨_, List.getElem?_eq_getElem (by have := HL.out; omega)⟩
      obtain ⟨b, off, rfl, hb, hcl⟩ := (HR.out.below hB).2 (by omega)
      obtain ⟨c0, c1, c2, c3⟩ := hcl k r hx
      have k1 : (k : Int) < (n : Int) := by omega
      have k0 : (0 : Int) ≤ (k : Int) := by omega
      have HX := Lib.hid hx
      have HP := Lib.hid (asR_pos r)
      obtain ⟨⟨qX, qY, qW, qH⟩, hq⟩ : ∃ q, asR r = q := ⟨_, rfl⟩
      have HQ := Lib.hid hq
      rw [hq] at HP
      clear hB hno hcl hx hq
      cases he : r.cnt
      · have d1 : decide (0 < qW) = false := by rw [HP.out, he]
        have HE := Lib.hid he
        clear he
        go_wp2_with (go_at_call 79; refine (r12as_any r _).mono ?_; rintro e w2 ⟨rfl, hb2⟩; rw [HQ.out]; have HB := Lib.hid (bstep HB.out hb2); clear hb2)
        go_roundw
        case rel =>
          refine ⟨k + 1, by go_num, by omega, ?_, HB.out⟩
          have := HNO.out
          unfold emptyD at this ⊢
          rw [List.take_add_one, HX.out, List.all_append, this]
          simp [HE.out]
        case measure => simp [intOf]; omega
      · have d1 : decide (0 < qW) = true := by rw [HP.out, he]
        have HV := Lib.hid (show emptyD rs = false by
          unfold emptyD
          rw [List.all_eq_false]
          exact ⟨r, List.mem_of_getElem? HX.out, by simp [he]⟩)
        clear he
        go_wp2_with (go_at_call 79; refine (r12as_any r _).mono ?_; rintro e w2 ⟨rfl, hb2⟩; rw [HQ.out]; have HB := Lib.hid (bstep HB.out hb2); clear hb2)
        go_ret
        exact ⟨ret_bool HV.out.symm, HB.out⟩
    · obtain rfl : k = n := by omega
      have ht : rs.take k = rs := List.take_of_length_le (by rw [HL.out]; exact Nat.le_refl _)
      have HV := Lib.hid (show emptyD rs = true by have := HNO.out; rwa [ht] at this)
      clear hB hno ht
      go_wp2_with fail
      go_ret
      exact ⟨ret_bool HV.out.symm, HB.out⟩

end Go.Proofs.YtbfefkhejknmoaaGreatDoor
