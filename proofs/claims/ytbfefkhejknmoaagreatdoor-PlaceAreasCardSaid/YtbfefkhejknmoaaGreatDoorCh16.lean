/-
  The walks of slices.IndexFunc and slices.DeleteFunc at rectangles, with band's predicate 'it ends ahead of a row'.
-/
import Derived.Test.YtbfefkhejknmoaaGreatDoorCh4
namespace Go.Proofs.YtbfefkhejknmoaaGreatDoor
open Go.RowKit

/-- the cells of rectangles. -/
def rcs (l : List RC) : List Value := l.flatMap RC.cells
theorem rcs_len (l : List RC) : (rcs l).length = l.length * 4 := by
  induction l with
  | nil => rfl
  | cons r l ih => simp [rcs, RC.cells] at ih ⊢; omega
theorem rcs_append (a b : List RC) : rcs (a ++ b) = rcs a ++ rcs b := by simp [rcs]
theorem rcs_at (l : List RC) (rest : List Value) (k : Nat) (r : RC) (h : l[k]? = some r) :
    (rcs l ++ rest)[k * 4]? = some (.int .i64 r.X) ∧ (rcs l ++ rest)[k * 4 + 1]? = some (.int .i64 r.Y) ∧ (rcs l ++ rest)[k * 4 + 1 + 1]? = some (.int .i64 r.W) ∧ (rcs l ++ rest)[k * 4 + 1 + 1 + 1]? = some (.int .i64 r.H) := by
  induction l generalizing k with
  | nil => simp at h
  | cons q l ih =>
    cases k with
    | zero => simp at h; subst h; simp [rcs, RC.cells]
    | succ k =>
      simp at h
      have := ih k h
      rw [show (k + 1) * 4 = k * 4 + 4 from by omega, show k * 4 + 4 + 1 = (k * 4 + 1) + 4 from by omega, show k * 4 + 1 + 4 + 1 = (k * 4 + 1 + 1) + 4 from by omega, show k * 4 + 1 + 1 + 4 + 1 = (k * 4 + 1 + 1 + 1) + 4 from by omega]
      simpa [rcs, RC.cells] using this
theorem rcs_set (l : List RC) (rest : List Value) (k : Nat) (r : RC) (h : k < l.length) :
    ((((rcs l ++ rest).set (k * 4) (.int .i64 r.X)).set (k * 4 + 1) (.int .i64 r.Y)).set (k * 4 + 1 + 1) (.int .i64 r.W)).set (k * 4 + 1 + 1 + 1) (.int .i64 r.H) = rcs (l.set k r) ++ rest := by
  induction l generalizing k with
  | nil => simp at h
  | cons q l ih =>
    cases k with
    | zero => simp [rcs, RC.cells]
    | succ k =>
      have := ih k (by simpa using h)
      rw [show (k + 1) * 4 = k * 4 + 4 from by omega, show k * 4 + 4 + 1 = (k * 4 + 1) + 4 from by omega, show k * 4 + 1 + 4 + 1 = (k * 4 + 1 + 1) + 4 from by omega, show k * 4 + 1 + 1 + 4 + 1 = (k * 4 + 1 + 1 + 1) + 4 from by omega]
      simpa [rcs, RC.cells] using this
theorem blk_at {w : World} {g : Nat} {t : TypeId} {l : List RC} {rest : List Value} (h : Blk w g t (rcs l ++ rest).toArray) {k : Nat} {r : RC} (hk : l[k]? = some r) : RcAt w g (k * 4) r := by
  obtain ⟨a, b, c, d⟩ := rcs_at l rest k r hk
  exact ⟨h.cellV (by simpa using a), h.cellV (by simpa using b), h.cellV (by simpa using c), h.cellV (by simpa using d)⟩
theorem blk_set {w : World} {g : Nat} {t : TypeId} {l : List RC} {rest : List Value} (h : Blk w g t (rcs l ++ rest).toArray) {k : Nat} {r : RC} (hk : k < l.length) :
    Blk ((((w.setCell ⟨g, k * 4, none⟩ (.int .i64 r.X)).setCell ⟨g, k * 4 + 1, none⟩ (.int .i64 r.Y)).setCell ⟨g, k * 4 + 1 + 1, none⟩ (.int .i64 r.W)).setCell ⟨g, k * 4 + 1 + 1 + 1, none⟩ (.int .i64 r.H)) g t (rcs (l.set k r) ++ rest).toArray := by
  have := (((h.set_ (k * 4) (.int .i64 r.X)).set_ (k * 4 + 1) (.int .i64 r.Y)).set_ (k * 4 + 1 + 1) (.int .i64 r.W)).set_ (k * 4 + 1 + 1 + 1) (.int .i64 r.H)
  simp only [List.setIfInBounds_toArray] at this
  rw [rcs_set l rest k r hk] at this
  exact this

def endsB (y : Int) (r : RC) : Bool := decide (r.Y + r.H ≤ y)
set_option maxHeartbeats 1000000 in
theorem of2_any (x : RC) (y : Int) (by' : Nat) (w : World) (hx : x.ok) (hy : w.cell? ⟨by', 0, none⟩ = some (.int .i64 y)) :
    Calls Tryz.prog 71 #[.agg #[.int .i64 x.X, .int .i64 x.Y, .int .i64 x.W, .int .i64 x.H], .pointer (some ⟨by', 0, none⟩)] w fun e w' => e = .returned (.bool (endsB y x)) ∧ w' = w.alloc (.cells #[.int .i64 x.X, .int .i64 x.Y, .int .i64 x.W, .int .i64 x.H] 29) := by
  obtain ⟨_, _, h3, h4, _, _, h7, h8⟩ := hx
  have hl := block_lt_of_cell hy
  go_enter Tryz.func71, Tryz.ntmps71
  go_wp2_with fail
  go_ret
  exact ⟨rfl, rfl⟩

/-- the first that a predicate tells; -1: there is none. -/
def idxI (p : RC → Bool) (l : List RC) : Int := match l.findIdx? p with
  | some i => (i : Int)
  | none => -1
theorem idxI_none {p : RC → Bool} {l : List RC} (h : ∀ (j : Nat) x, l[j]? = some x → p x = false) : idxI p l = -1 := by
  have : l.findIdx? p = none := by
    rw [List.findIdx?_eq_none_iff]
    intro x hx
    obtain ⟨j, hj⟩ := List.getElem?_of_mem hx
    exact h j x hj
  simp [idxI, this]
theorem idxI_some {p : RC → Bool} {l : List RC} {k : Nat} {x : RC} (hx : l[k]? = some x) (hp : p x = true) (h : ∀ (j : Nat) y, j < k → l[j]? = some y → p y = false) : idxI p l = k := by
  obtain ⟨hkl, hkv⟩ := List.getElem?_eq_some_iff.1 hx
  have : l.findIdx? p = some k := by
    rw [List.findIdx?_eq_some_iff_getElem]
    refine ⟨hkl, by rw [hkv]; exact hp, fun j hj => ?_⟩
    have hjl : j < l.length := by omega
    have := h j l[j] hj (List.getElem?_eq_getElem hjl)
    simp [this]
  simp [idxI, this]

set_option maxRecDepth 100000 in
set_option maxHeartbeats 2000000 in
theorem indexF_any (A : Option Addr) (n c : Nat) (rs : List RC) (y : Int) (by' : Nat) (w : World) (hn : n ≤ 9223372036854775806) (hr : RdR w A n rs) (hok : ∀ r ∈ rs, r.ok) (hy : w.cell? ⟨by', 0, none⟩ = some (.int .i64 y)) :
    Calls Tryz.prog 91 #[.slice A n c, .func (.func 71) #[] #[.pointer (some ⟨by', 0, none⟩)]] w fun e w' => e = .returned (.int .i64 (idxI (endsB y) rs)) ∧ Below w.heap.size w w' := by
  have HR := Lib.hid hr
  have HOK := Lib.hid hok
  have HYC := Lib.hid hy
  clear hr hok hy
  go_enter Tryz.func91, Tryz.ntmps91
  go_wp2_with fail
  go_loopw [8] (fun i wr => ∃ k : Nat, i = .int .i64 k ∧ k ≤ n ∧ (∀ (j : Nat) x, j < k → rs[j]? = some x → endsB y x = false) ∧ Below w.heap.size w wr) (fun i _ => n - (intOf i).toNat)
  case atStart => exact ⟨0, rfl, by omega, fun j _ hj => absurd hj (by omega), bre w⟩
  case round =>
    obtain ⟨k, rfl, hk, hall, hB⟩ := hrel
    have HA := Lib.hid hall
    have HB := Lib.hid hB
    clear hall hB
    by_cases hlt : k < n
    · obtain ⟨x, hx⟩ : ∃ x, rs[k]? = some x := ⟨_, List.getElem?_eq_getElem (by have := HR.out.1; omega)⟩
      obtain ⟨b, off, rfl, hbl, hc⟩ := (HR.out.below HB.out).2 (by omega)
      obtain ⟨x0, x1, x2, x3⟩ := hc k x hx
      have k0 : (0 : Int) ≤ (k : Int) := by omega
      have k1 : (k : Int) < (n : Int) := by omega
      have hcy : Hid (wr.cell? ⟨by', 0, none⟩ = some (.int .i64 y)) := Lib.hid ((HB.out.cell (p := ⟨by', 0, none⟩) (block_lt_of_cell HYC.out)).trans HYC.out)
      have HX := Lib.hid hx
      clear hc hx
      cases hon : endsB y x
      · have HON := Lib.hid hon
        clear hon
        go_wp2_with fail
        refine (of2_any x y by' _ (HOK.out x (List.mem_of_getElem? HX.out)) hcy.out).mono ?_
        rintro e w' ⟨rfl, rfl⟩
        rw [HON.out]
        go_wp2_with fail
        go_roundw
        case rel =>
          refine ⟨k + 1, by go_num, by omega, fun j u hj hu => ?_, bstep HB.out (bal (bre wr) _)⟩
          by_cases hjk : j = k
          · subst hjk
            cases HX.out.symm.trans hu
            exact HON.out
          · exact HA.out j u (by omega) hu
        case measure => simp [intOf]; omega
      · have hv : idxI (endsB y) rs = k := idxI_some HX.out hon HA.out
        have HV := Lib.hid hv
        have HON := Lib.hid hon
        clear hv hon
        go_wp2_with fail
        refine (of2_any x y by' _ (HOK.out x (List.mem_of_getElem? HX.out)) hcy.out).mono ?_
        rintro e w' ⟨rfl, rfl⟩
        rw [HON.out]
        go_wp2_with fail
        go_ret
        exact ⟨ret_int HV.out.symm, bstep HB.out (bal (bre wr) _)⟩
    · obtain rfl : k = n := by omega
      have hv : idxI (endsB y) rs = -1 := idxI_none (fun j u hu => HA.out j u (by have := (List.getElem?_eq_some_iff.1 hu).1; have := HR.out.1; omega) hu)
      have HV := Lib.hid hv
      clear hv
      go_wp2_with fail
      go_ret
      exact ⟨ret_int HV.out.symm, HB.out⟩

end Go.Proofs.YtbfefkhejknmoaaGreatDoor
