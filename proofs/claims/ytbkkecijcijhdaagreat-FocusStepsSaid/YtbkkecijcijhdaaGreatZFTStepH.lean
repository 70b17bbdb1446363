/-
  The walks of cross.up and cross.down.
-/
import Derived.Test.YtbkkecijcijhdaaGreatZFTStepG
import Derived.Test.YtbkkecijcijhdaaGreatZF29
section
namespace Go.Proofs.YtbkkecijcijhdaaGreat
open Go.RowKit Go.Maps Go.Shelf

/-- steps by windows, one behind the other. -/
def upS (en : Bool) (dt : Int) (l : List Int) (pre : List SP) : List SP := l.foldl (fun p i => doS p ⟨i, en, dt⟩) pre
theorem upS_len (en : Bool) (dt : Int) : ∀ (l : List Int) (pre : List SP), (upS en dt l pre).length ≤ pre.length + l.length
  | [], pre => by simp [upS]
  | i :: l, pre => by
    have h1 := upS_len en dt l (doS pre ⟨i, en, dt⟩)
    have h2 := doS_len pre ⟨i, en, dt⟩
    have h3 : upS en dt (i :: l) pre = upS en dt l (doS pre ⟨i, en, dt⟩) := rfl
    rw [h3, List.length_cons]
    omega
theorem upS_take {en : Bool} {dt : Int} {l : List Int} {pre : List SP} {k : Nat} {i : Int} (h : l[k]? = some i) : upS en dt (l.take (k + 1)) pre = doS (upS en dt (l.take k) pre) ⟨i, en, dt⟩ := by
  obtain ⟨h1, h2⟩ := List.getElem?_eq_some_iff.1 h
  unfold upS
  rw [List.take_succ_eq_append_getElem h1, List.foldl_append, h2]
  rfl
theorem upS_drop {en : Bool} {dt : Int} {l : List Int} {pre : List SP} {k : Nat} {i : Int} (h : l[k]? = some i) : upS en dt (l.drop k).reverse pre = doS (upS en dt (l.drop (k + 1)).reverse pre) ⟨i, en, dt⟩ := by
  obtain ⟨h1, h2⟩ := List.getElem?_eq_some_iff.1 h
  unfold upS
  rw [List.drop_eq_getElem_cons h1, List.reverse_cons, List.foldl_append, h2]
  rfl
/-- the closure's own value. -/
def doF (bl : Nat) : Value := .func (.func 117) #[] #[.pointer (some ⟨bl, 0, none⟩)]

set_option maxRecDepth 100000 in
set_option maxHeartbeats 4000000 in
theorem up_any (w0 : World) (bl : Nat) (A : Option Addr) (n c : Nat) (l : List Int) (en : Bool) (dt : Int) (pre : List SP) (x : World) (hpl : pre.length + n ≤ 3000) (hr : Rd w0 A n (U32 l)) (hno : NoInt w0 bl) (hbl : bl < w0.heap.size) (hx : AtS w0 bl pre x) :
    Calls Tryz.prog 119 #[.slice A n c, .bool en, .int .i64 dt, doF bl] x fun e x' => e = .returned (.tuple #[]) ∧ AtS w0 bl (upS en dt l pre) x' := by
  have HLN := Lib.hid (show l.length = n by have := hr.1; rwa [U32_len] at this)
  have HR := Lib.hid hr
  have HNO := Lib.hid hno
  have HX := Lib.hid hx
  clear hr hno hx
  unfold doF
  go_enter Tryz.func119, Tryz.ntmps119
  go_upto_region 1 with fail
  go_loopw [12, 9] (fun i _ wr => ∃ k : Nat, i = .int .i64 k ∧ k ≤ n ∧ AtS w0 bl (upS en dt (l.take k) pre) wr) (fun i _ _ => n - (intOf i).toNat)
  case atStart => exact ⟨0, rfl, by omega, HX.out⟩
  case round =>
    obtain ⟨k, rfl, hk, hat⟩ := hrel
    have HA := Lib.hid hat
    by_cases hlt : k < n
    · obtain ⟨i, hi⟩ : ∃ i, l[k]? = some i := ⟨_, List.getElem?_eq_getElem (by rw [HLN.out]; exact hlt)⟩
      obtain ⟨b, off, rfl, hbk, hcl⟩ := (HR.out.keepG hat.grown HNO.out).2 (by omega)
      have hcell := hcl k _ (U32_at hi)
      have k1 : (k : Int) < (n : Int) := by omega
      have k0 : (0 : Int) ≤ (k : Int) := by omega
      have HT := Lib.hid (upS_take (en := en) (dt := dt) (pre := pre) hi)
      have HUL := Lib.hid (show (upS en dt (l.take k) pre).length ≤ 3000 by have h1 := upS_len en dt (l.take k) pre; rw [List.length_take] at h1; omega)
      clear hi hcl hat
      go_wp2_with fail
      with_reducible refine (pathDo_any w0 bl ⟨i, en, dt⟩ (upS en dt (l.take k) pre) _ HUL.out hbl HA.out).mono ?_
      rintro e w5 ⟨rfl, hat5⟩
      have HA5 := Lib.hid hat5
      clear hat5
      go_wp2_with fail
      go_roundw
      case rel => exact ⟨k + 1, by go_num, by omega, by rw [HT.out]; exact HA5.out⟩
      case measure => simp [intOf]; omega
    · obtain rfl : k = n := by omega
      go_wp2_with fail
      go_end0
      refine ⟨rfl, ?_⟩
      have := HA.out
      rwa [List.take_of_length_le (by rw [HLN.out]; exact Nat.le_refl _)] at this
set_option maxRecDepth 100000 in
set_option maxHeartbeats 4000000 in
theorem down_any (w0 : World) (bl : Nat) (A : Option Addr) (n c : Nat) (l : List Int) (en : Bool) (dt : Int) (pre : List SP) (x : World) (hpl : pre.length + n ≤ 3000) (hr : Rd w0 A n (U32 l)) (hno : NoInt w0 bl) (hbl : bl < w0.heap.size) (hx : AtS w0 bl pre x) :
    Calls Tryz.prog 121 #[.slice A n c, .bool en, .int .i64 dt, doF bl] x fun e x' => e = .returned (.tuple #[]) ∧ AtS w0 bl (upS en dt l.reverse pre) x' := by
  have HLN := Lib.hid (show l.length = n by have := hr.1; rwa [U32_len] at this)
  have HR := Lib.hid hr
  have HNO := Lib.hid hno
  have HX := Lib.hid hx
  clear hr hno hx
  have hn : n ≤ 3000 := by omega
  unfold doF
  go_enter Tryz.func121, Tryz.ntmps121
  go_upto_region 1 with fail
  go_loopw [8] (fun i wr => ∃ k : Nat, i = .int .i64 ((k : Int) - 1) ∧ k ≤ n ∧ AtS w0 bl (upS en dt (l.drop k).reverse pre) wr) (fun i _ => (intOf i + 1).toNat)
  case atStart => exact ⟨n, by go_num, by omega, by rw [List.drop_of_length_le (by rw [HLN.out]; exact Nat.le_refl _)]; exact HX.out⟩
  case round =>
    obtain ⟨k, rfl, hk, hat⟩ := hrel
    have HA := Lib.hid hat
    cases k with
    | succ k =>
      obtain ⟨i, hi⟩ : ∃ i, l[k]? = some i := ⟨_, List.getElem?_eq_getElem (by rw [HLN.out]; omega)⟩
      obtain ⟨b, off, rfl, hbk, hcl⟩ := (HR.out.keepG hat.grown HNO.out).2 (by omega)
      have hcell := hcl k _ (U32_at hi)
      have ek : (((k + 1 : Nat) : Int) - 1) = (k : Int) := by omega
      rw [ek]
      have k1 : (k : Int) < (n : Int) := by omega
      have k0 : (0 : Int) ≤ (k : Int) := by omega
      have HT := Lib.hid (upS_drop (en := en) (dt := dt) (pre := pre) hi)
      have HUL := Lib.hid (show (upS en dt (l.drop (k + 1)).reverse pre).length ≤ 3000 by have h1 := upS_len en dt (l.drop (k + 1)).reverse pre; rw [List.length_reverse, List.length_drop] at h1; have h2 := HLN.out; omega)
      clear hi hcl hat ek
      go_wp2_with fail
      with_reducible refine (pathDo_any w0 bl ⟨i, en, dt⟩ (upS en dt (l.drop (k + 1)).reverse pre) _ HUL.out hbl HA.out).mono ?_
      rintro e w5 ⟨rfl, hat5⟩
      have HA5 := Lib.hid hat5
      clear hat5
      go_wp2_with fail
      go_roundw
      case rel => exact ⟨k, by go_num, by omega, by rw [HT.out]; exact HA5.out⟩
      case measure => simp [intOf]
    | zero =>
      have k1 : ¬ (0 : Int) ≤ ((0 : Nat) : Int) - 1 := by omega
      go_wp2_with fail
      go_end0
      exact ⟨rfl, HA.out⟩
end Go.Proofs.YtbkkecijcijhdaaGreat
end
