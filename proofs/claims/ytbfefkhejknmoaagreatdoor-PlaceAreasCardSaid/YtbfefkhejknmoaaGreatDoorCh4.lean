/-
  Slices of rectangles; the walks of band.alike with slices.EqualFunc, and of slices.Clip.
-/
import Derived.Test.YtbfefkhejknmoaaGreatDoorCh3
namespace Go.Proofs.YtbfefkhejknmoaaGreatDoor
open Go.RowKit

/-- four cells read as a rectangle. -/
def RcAt (w : World) (b o : Nat) (r : RC) : Prop := w.cell? ⟨b, o, none⟩ = some (.int .i64 r.X) ∧ w.cell? ⟨b, o + 1, none⟩ = some (.int .i64 r.Y) ∧ w.cell? ⟨b, o + 1 + 1, none⟩ = some (.int .i64 r.W) ∧ w.cell? ⟨b, o + 1 + 1 + 1, none⟩ = some (.int .i64 r.H)
theorem RcAt.below {w w' : World} {b o : Nat} {r : RC} (h : RcAt w b o r) (hb : Below w.heap.size w w') (hl : b < w.heap.size) : RcAt w' b o r :=
  ⟨(hb.cell (p := ⟨b, o, none⟩) hl).trans h.1, (hb.cell (p := ⟨b, o + 1, none⟩) hl).trans h.2.1, (hb.cell (p := ⟨b, o + 1 + 1, none⟩) hl).trans h.2.2.1, (hb.cell (p := ⟨b, o + 1 + 1 + 1, none⟩) hl).trans h.2.2.2⟩
/-- a slice reads as rectangles. -/
def RdR (w : World) (A : Option Addr) (n : Nat) (rs : List RC) : Prop :=
  rs.length = n ∧ (0 < n → ∃ b off, A = some ⟨b, off, none⟩ ∧ b < w.heap.size ∧ ∀ k r, rs[k]? = some r → RcAt w b (off + k * 4) r)
theorem RdR.below {w w' : World} {A : Option Addr} {n : Nat} {rs : List RC} (h : RdR w A n rs) (hb : Below w.heap.size w w') : RdR w' A n rs :=
  ⟨h.1, fun hn => by
    obtain ⟨b, off, e, hl, hc⟩ := h.2 hn
    exact ⟨b, off, e, Nat.lt_of_lt_of_le hl hb.size, fun k r hk => (hc k r hk).below hb hl⟩⟩
/-- rectangles of the places that numbers allow. -/
def RC.ok (r : RC) : Prop := -4194304 ≤ r.X ∧ r.X ≤ 4194304 ∧ -4194304 ≤ r.Y ∧ r.Y ≤ 4194304 ∧ -4194304 ≤ r.W ∧ r.W ≤ 4194304 ∧ -4194304 ≤ r.H ∧ r.H ≤ 4194304
/-- does a rectangle go on in the next one? -/
def RC.on (x y : RC) : Bool := x.X == y.X && x.W == y.W && x.Y + x.H == y.Y

set_option maxHeartbeats 1000000 in
theorem alike1_any (x y : RC) (w : World) (hx : x.ok) : Calls Tryz.prog 94 #[.agg #[.int .i64 x.X, .int .i64 x.Y, .int .i64 x.W, .int .i64 x.H], .agg #[.int .i64 y.X, .int .i64 y.Y, .int .i64 y.W, .int .i64 y.H]] w fun e w' => e = .returned (.bool (x.on y)) ∧ w' = (w.alloc (.cells #[.int .i64 x.X, .int .i64 x.Y, .int .i64 x.W, .int .i64 x.H] 29)).alloc (.cells #[.int .i64 y.X, .int .i64 y.Y, .int .i64 y.W, .int .i64 y.H] 29) := by
  obtain ⟨_, _, h3, h4, _, _, h7, h8⟩ := hx
  cases d1 : (x.X == y.X)
  · have hv : x.on y = false := by simp [RC.on, d1]
    have HV := Lib.hid hv
    clear hv
    go_enter Tryz.func94, Tryz.ntmps94
    go_wp2_with fail
    go_ret
    exact ⟨ret_bool HV.out.symm, rfl⟩
  · cases d2 : (x.W == y.W)
    · have hv : x.on y = false := by simp [RC.on, d2]
      have HV := Lib.hid hv
      clear hv
      go_enter Tryz.func94, Tryz.ntmps94
      go_wp2_with fail
      go_ret
      exact ⟨ret_bool HV.out.symm, rfl⟩
    · have hv : x.on y = (x.Y + x.H == y.Y) := by simp only [RC.on, d1, d2, Bool.true_and]
      have HV := Lib.hid hv
      clear hv
      go_enter Tryz.func94, Tryz.ntmps94
      go_wp2_with fail
      go_ret
      exact ⟨ret_bool HV.out.symm, rfl⟩

/-- the same number of rectangles, each going on in the other's. -/
def onB (a b : List RC) : Bool := decide (a.length = b.length) && (List.zipWith RC.on a b).all id
theorem onB_len {a b : List RC} (h : a.length ≠ b.length) : onB a b = false := by simp [onB, h]
theorem onB_no {a b : List RC} {k : Nat} {x y : RC} (hx : a[k]? = some x) (hy : b[k]? = some y) (h : x.on y = false) : onB a b = false := by
  unfold onB
  have : (List.zipWith RC.on a b).all id = false := by
    rw [List.all_eq_false]
    refine ⟨false, ?_, by simp⟩
    have hk : (List.zipWith RC.on a b)[k]? = some false := by simp [List.getElem?_zipWith, hx, hy, h]
    exact List.mem_of_getElem? hk
  rw [this, Bool.and_false]
theorem onB_yes {a b : List RC} (hl : a.length = b.length) (h : ∀ (k : Nat) x y, a[k]? = some x → b[k]? = some y → x.on y = true) : onB a b = true := by
  unfold onB
  simp only [hl, decide_true, Bool.true_and, List.all_eq_true]
  intro v hv
  obtain ⟨k, hk⟩ := List.getElem?_of_mem hv
  rw [List.getElem?_zipWith] at hk
  cases hx : a[k]? with
  | none => simp [hx] at hk
  | some x =>
    cases hy : b[k]? with
    | none => simp [hx, hy] at hk
    | some y =>
      simp [hx, hy] at hk
      subst hk
      exact h k x y hx hy

set_option maxHeartbeats 400000 in
theorem equalF_len (A B : Option Addr) (n m c d : Nat) (f : Value) (w : World) (hnm : n ≠ m) : Calls Tryz.prog 93 #[.slice A n c, .slice B m d, f] w fun e w' => e = .returned (.bool false) ∧ Below w.heap.size w w' := by
  have h1 : ((n : Int) != (m : Int)) = true := by simp; omega
  have h2 : (n != m) = true := by simp; omega
  clear hnm
  go_enter Tryz.func93, Tryz.ntmps93
  go_wp2_with fail
  go_ret
  exact ⟨rfl, bre w⟩

set_option maxRecDepth 100000 in
set_option maxHeartbeats 2000000 in
theorem equalF_any (A B : Option Addr) (n c d : Nat) (rs qs : List RC) (w : World) (hn : n ≤ 9223372036854775806) (hr : RdR w A n rs) (hq : RdR w B n qs) (hok : ∀ r ∈ rs, r.ok) :
    Calls Tryz.prog 93 #[.slice A n c, .slice B n d, .func (.func 94) #[] #[]] w fun e w' => e = .returned (.bool (onB rs qs)) ∧ Below w.heap.size w w' := by
  have HR := Lib.hid hr
  have HQ := Lib.hid hq
  have HOK := Lib.hid hok
  clear hr hq hok
  go_enter Tryz.func93, Tryz.ntmps93
  go_wp2_with fail
  go_loopw [17] (fun i wr => ∃ k : Nat, i = .int .i64 k ∧ k ≤ n ∧ (∀ (j : Nat) x y, j < k → rs[j]? = some x → qs[j]? = some y → x.on y = true) ∧ Below w.heap.size w wr) (fun i _ => n - (intOf i).toNat)
  case atStart => exact ⟨0, rfl, by omega, fun j _ _ hj => absurd hj (by omega), bre w⟩
  case round =>
    obtain ⟨k, rfl, hk, hall, hB⟩ := hrel
    have HA := Lib.hid hall
    have HB := Lib.hid hB
    clear hall hB
    by_cases hlt : k < n
    · obtain ⟨x, hx⟩ : ∃ x, rs[k]? = some x := ⟨_, List.getElem?_eq_getElem (by have := HR.out.1; omega)⟩
      obtain ⟨y, hy⟩ : ∃ y, qs[k]? = some y := ⟨_, List.getElem?_eq_getElem (by have := HQ.out.1; omega)⟩
      obtain ⟨b, off, rfl, hbl, hc⟩ := (HR.out.below HB.out).2 (by omega)
      obtain ⟨b', off', rfl, hbl', hc'⟩ := (HQ.out.below HB.out).2 (by omega)
      obtain ⟨x0, x1, x2, x3⟩ := hc k x hx
      obtain ⟨y0, y1, y2, y3⟩ := hc' k y hy
      have k0 : (0 : Int) ≤ (k : Int) := by omega
      have k1 : (k : Int) < (n : Int) := by omega
      have HX := Lib.hid hx
      have HY := Lib.hid hy
      clear hc hc' hx hy
      cases hon : x.on y
      · have hv := onB_no HX.out HY.out hon
        have HV := Lib.hid hv
        have HON := Lib.hid hon
        clear hv hon
        go_wp2_with fail
        refine (alike1_any x y _ (HOK.out x (List.mem_of_getElem? HX.out))).mono ?_
        rintro e w' ⟨rfl, rfl⟩
        rw [HON.out]
        go_wp2_with fail
        go_ret
        exact ⟨ret_bool HV.out.symm, bstep HB.out (bal (bal (bal (bal (bre wr) _) _) _) _)⟩
      · have HON := Lib.hid hon
        clear hon
        go_wp2_with fail
        refine (alike1_any x y _ (HOK.out x (List.mem_of_getElem? HX.out))).mono ?_
        rintro e w' ⟨rfl, rfl⟩
        rw [HON.out]
        go_wp2_with fail
        go_roundw
        case rel =>
          refine ⟨k + 1, by go_num, by omega, fun j u v hj hu hv => ?_, bstep HB.out (bal (bal (bal (bal (bre wr) _) _) _) _)⟩
          by_cases hjk : j = k
          · subst hjk
            have e1 := HX.out.symm.trans hu
            have e2 := HY.out.symm.trans hv
            cases e1
            cases e2
            exact HON.out
          · exact HA.out j u v (by omega) hu hv
        case measure => simp [intOf]; omega
    · obtain rfl : k = n := by omega
      have hv : onB rs qs = true := onB_yes (by rw [HR.out.1, HQ.out.1]) (fun j u v hu hv => HA.out j u v (by have := (List.getElem?_eq_some_iff.1 hu).1; have := HR.out.1; omega) hu hv)
      have HV := Lib.hid hv
      clear hv
      go_wp2_with fail
      go_ret
      exact ⟨ret_bool HV.out.symm, HB.out⟩

/-- a band goes on in the next one. -/
def alikeB (a b : List RC) : Bool := decide (0 < a.length) && onB a b
set_option maxHeartbeats 1000000 in
theorem alike_any (A B : Option Addr) (n m c d : Nat) (rs qs : List RC) (w : World) (hn : n ≤ 9223372036854775806) (hr : RdR w A n rs) (hq : RdR w B m qs) (hok : ∀ r ∈ rs, r.ok) :
    Calls Tryz.prog 74 #[.slice A n c, .slice B m d] w fun e w' => e = .returned (.bool (alikeB rs qs)) ∧ Below w.heap.size w w' := by
  have HR := Lib.hid hr
  have HQ := Lib.hid hq
  have HOK := Lib.hid hok
  clear hr hq hok
  by_cases h0 : 0 < n
  · have d0 : decide ((0 : Int) < (n : Int)) = true := by simp; omega
    by_cases hnm : n = m
    · subst hnm
      have hv : alikeB rs qs = onB rs qs := by unfold alikeB; rw [HR.out.1]; simp [h0]
      have HV := Lib.hid hv
      clear hv
      go_enter Tryz.func74, Tryz.ntmps74
      go_wp2_with fail
      refine (equalF_any A B n c d rs qs w hn HR.out HQ.out HOK.out).mono ?_
      rintro e w' ⟨rfl, hb⟩
      go_wp2_with fail
      go_ret
      exact ⟨ret_bool HV.out.symm, hb⟩
    · have hv : alikeB rs qs = false := by unfold alikeB; rw [onB_len (by rw [HR.out.1, HQ.out.1]; exact hnm), Bool.and_false]
      have HV := Lib.hid hv
      clear hv
      go_enter Tryz.func74, Tryz.ntmps74
      go_wp2_with fail
      refine (equalF_len A B n m c d _ w hnm).mono ?_
      rintro e w' ⟨rfl, hb⟩
      go_wp2_with fail
      go_ret
      exact ⟨ret_bool HV.out.symm, hb⟩
  · have d0 : decide ((0 : Int) < (n : Int)) = false := by simp; omega
    have hv : alikeB rs qs = false := by unfold alikeB; rw [HR.out.1]; simp [h0]
    have HV := Lib.hid hv
    clear hv
    go_enter Tryz.func74, Tryz.ntmps74
    go_wp2_with fail
    go_ret
    exact ⟨ret_bool HV.out.symm, bre w⟩

set_option maxHeartbeats 1000000 in
theorem clip_any (g n c : Nat) (w : World) (hc : n ≤ c) :
    Calls Tryz.prog 75 #[.slice (some ⟨g, 0, none⟩) n c] w fun e w' => e = .returned (.slice (some ⟨g, 0, none⟩) n n) ∧ w = w' := by
  go_enter Tryz.func75, Tryz.ntmps75
  go_wp2_with fail
  go_ret
  exact ⟨rfl, rfl⟩
set_option maxHeartbeats 1000000 in
theorem clip_nil (w : World) :
    Calls Tryz.prog 75 #[.slice none 0 0] w fun e w' => e = .returned (.slice none 0 0) ∧ w = w' := by
  go_enter Tryz.func75, Tryz.ntmps75
  go_wp2_with fail
  go_ret
  exact ⟨rfl, rfl⟩

end Go.Proofs.YtbfefkhejknmoaaGreatDoor
