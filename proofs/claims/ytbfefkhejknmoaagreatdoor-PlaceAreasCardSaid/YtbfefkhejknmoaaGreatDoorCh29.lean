/-
  The walks of few, of the document's New, and of a place's New where the size may not be so.
-/
import Derived.Test.YtbfefkhejknmoaaGreatDoorCh28
namespace Go.Proofs.YtbfefkhejknmoaaGreatDoor
open Go.RowKit Go.Maps Go.Shelf

/-- windows that are told plainly. -/
structure WN where
  W : Int
  H : Int
  U : Option Addr
  nu : Nat
  cu : Nat
  A : Option Addr
  nl : Nat
  cl : Nat
def WN.v (x : WN) : Value := .agg #[.int .i64 x.W, .int .i64 x.H, .slice x.U x.nu x.cu, .slice x.A x.nl x.cl]
def fewB (L : List DB) : Bool := (L.take 70).all (fun d => decide (d.b.n ≤ 12)) && decide (L.length ≤ 70)

set_option maxRecDepth 100000 in
set_option maxHeartbeats 2000000 in
theorem few_any (x : WN) (L : List DB) (w : World) (hr : RdD w x.A x.nl L) (hmax : x.nl ≤ maxLen) :
    Calls Tryz.prog 9 #[x.v] w fun e w' => e = .returned (.bool (fewB L)) ∧ Below w.heap.size w w' := by
  obtain ⟨W, H, U, nu, cu, A, nl, cl⟩ := x
  unfold WN.v
  dsimp only at hr hmax ⊢
  simp only [maxLen] at hmax
  have HR := Lib.hid (hr.below (bal (bre w) (.cells #[.int .i64 W, .int .i64 H, .slice U nu cu, .slice A nl cl] 25)))
  have HB := Lib.hid (bal (bre w) (.cells #[.int .i64 W, .int .i64 H, .slice U nu cu, .slice A nl cl] 25))
  have K1 := Lib.hid (Blk.new w 25 #[.int .i64 W, .int .i64 H, .slice U nu cu, .slice A nl cl])
  have HL := Lib.hid hr.1
  clear hr
  go_enter Tryz.func9, Tryz.ntmps9
  go_wp2_with fail
  obtain ⟨X0, hX0⟩ : ∃ X0, w.alloc (.cells #[.int .i64 W, .int .i64 H, .slice U nu cu, .slice A nl cl] 25) = X0 := ⟨_, rfl⟩
  have hr := HR.out
  have hb := HB.out
  have k1 := K1.out
  rw [hX0] at hr hb k1 ⊢
  replace HR := Lib.hid hr
  replace HB := Lib.hid hb
  replace K1 := Lib.hid k1
  clear hr hb k1 hX0
  go_loopw [3] (fun i wr => ∃ k : Nat, i = .int .i64 k ∧ k ≤ nl ∧ k ≤ 70 ∧ (L.take k).all (fun d => decide (d.b.n ≤ 12)) = true ∧ X0 = wr) (fun i _ => nl - (intOf i).toNat)
  case atStart => exact ⟨0, rfl, by omega, by omega, rfl, rfl⟩
  case round =>
    obtain ⟨k, rfl, hk, hk70, hall, rfl⟩ := hrel
    have HALL := Lib.hid hall
    have k3 := K1.out.cellV (i := 3) (v := .slice A nl cl) rfl
    have k0 : (0 : Int) ≤ (k : Int) := by omega
    clear hall
    by_cases hlt : k < nl
    · have k1 : (k : Int) < (nl : Int) := by omega
      have d1 : decide ((k : Int) < (nl : Int)) = true := decide_eq_true k1
      by_cases h70 : k < 70
      · have d2 : decide ((k : Int) < 70) = true := decide_eq_true (by omega)
        obtain ⟨d, hd⟩ : ∃ d, L[k]? = some d := ⟨_, List.getElem?_eq_getElem (by have := HL.out; omega)⟩
        obtain ⟨b, off, rfl, hb, hcl⟩ := HR.out.2 (by omega)
        have c9 : X0.cell? ⟨b, off + k * 10 + 9, none⟩ = some (.slice d.b.A d.b.n d.b.c) := hcl k d hd 9 _ rfl
        have HD := Lib.hid hd
        clear hcl hd
        by_cases h12 : d.b.n ≤ 12
        · have d3 : decide ((12 : Int) < (d.b.n : Int)) = false := decide_eq_false (by omega)
          have H12 := Lib.hid h12
          clear h12
          go_wp2_with fail
          go_roundw
          case rel =>
            refine ⟨k + 1, by go_num, by omega, by omega, ?_, by first | rfl | trivial⟩
            rw [List.take_add_one, HD.out, List.all_append, HALL.out]
            simp [H12.out]
          case measure => simp [intOf]; omega
        · have d3 : decide ((12 : Int) < (d.b.n : Int)) = true := decide_eq_true (by omega)
          have HV := Lib.hid (show fewB L = false by
            unfold fewB
            have h : (L.take 70).all (fun d => decide (d.b.n ≤ 12)) = false := by
              rw [List.all_eq_false]
              exact ⟨d, List.mem_of_getElem? (by rw [List.getElem?_take, if_pos h70]; exact HD.out), by simp [h12]⟩
            rw [h]
            rfl)
          clear h12
          go_wp2_with fail
          go_ret
          exact ⟨ret_bool HV.out.symm, HB.out⟩
      · obtain rfl : k = 70 := by omega
        have d3 : decide ((nl : Int) ≤ 70) = false := decide_eq_false (by omega)
        have HV := Lib.hid (show fewB L = false by
          unfold fewB
          rw [decide_eq_false (by have := HL.out; omega), Bool.and_false])
        go_wp2_with fail
        go_ret
        exact ⟨ret_bool HV.out.symm, HB.out⟩
    · obtain rfl : k = nl := by omega
      have d1 : decide ((k : Int) < (k : Int)) = false := decide_eq_false (by omega)
      have d3 : decide ((k : Int) ≤ 70) = true := decide_eq_true (by omega)
      have HV := Lib.hid (show fewB L = true by
        unfold fewB
        have h := HALL.out
        rw [List.take_of_length_le (by rw [HL.out]; exact Nat.le_refl _)] at h
        rw [List.take_of_length_le (by rw [HL.out]; exact hk70), h, decide_eq_true (by rw [HL.out]; exact hk70)]
        rfl)
      go_wp2_with fail
      go_ret
      exact ⟨ret_bool HV.out.symm, HB.out⟩

/-- the root's box as the document has it. -/
def rootD (W H : Int) : DB := ⟨1, rootBX W H, []⟩
def newD (W H : Int) : List DB := if (sideB W && sideB H) = true then [rootD W H] else []
set_option maxRecDepth 100000 in
set_option maxHeartbeats 2000000 in
theorem dnew_any (W H : Int) (w : World) :
    Calls Tryz.prog 31 #[.int .i64 W, .int .i64 H] w fun e w' => ∃ A c, e = .returned (.slice A (newD W H).length c) ∧ RdD w' A (newD W H).length (newD W H) ∧ Below w.heap.size w w' := by
  cases h1 : sideB W
  · have HN := Lib.hid (show newD W H = [] by unfold newD; rw [h1]; rfl)
    have H1 := Lib.hid h1
    rw [HN.out]
    clear h1
    go_enter Tryz.func31, Tryz.ntmps31
    go_wp2_with (go_at_call 53; refine (dside_any _ _).mono ?_; rintro e w' ⟨rfl, rfl⟩; rw [H1.out])
    go_ret
    exact ⟨none, 0, rfl, RdF.nil _ _ _ _, bre w⟩
  · have H1 := Lib.hid h1
    cases h2 : sideB H
    · have HN := Lib.hid (show newD W H = [] by unfold newD; rw [h1, h2]; rfl)
      have H2 := Lib.hid h2
      rw [HN.out]
      clear h1 h2
      go_enter Tryz.func31, Tryz.ntmps31
      go_wp2_with (go_at_call 53; refine (dside_any _ _).mono ?_; rintro e w' ⟨rfl, rfl⟩; first | rw [H1.out] | rw [H2.out])
      go_ret
      exact ⟨none, 0, rfl, RdF.nil _ _ _ _, bre w⟩
    · have HN := Lib.hid (show newD W H = [rootD W H] by unfold newD; rw [h1, h2]; rfl)
      have H2 := Lib.hid h2
      rw [HN.out]
      clear h1 h2
      go_enter Tryz.func31, Tryz.ntmps31
      go_wp2_with (go_at_call 53; refine (dside_any _ _).mono ?_; rintro e w' ⟨rfl, rfl⟩; first | rw [H1.out] | rw [H2.out])
      go_ret
      refine ⟨some ⟨w.heap.size, 0, none⟩, 1, rfl, ⟨rfl, fun _ => ⟨w.heap.size, 0, rfl, by simp, fun k x hk i u hu => ?_⟩⟩, bal (bre w) _⟩
      cases k with
      | zero =>
        cases hk
        have hb := Blk.new w 79 #[.int .u32 1, .int .i64 0, .int .i64 0, .int .i64 W, .int .i64 H, .bool true, .int .i64 1, .int .i64 1, .bool false, .slice none 0 0]
        rw [Nat.zero_mul, Nat.zero_add]
        refine hb.cellV ?_
        simpa [DB.cells, rootD, rootBX] using hu
      | succ k => simp at hk

set_option maxRecDepth 100000 in
set_option maxHeartbeats 2000000 in
theorem pnew_bad (W H : Int) (w : World) (h : (sideB W && sideB H) = false) :
    Calls Tryz.prog 14 #[.int .i64 W, .int .i64 H] w fun e w' => e = .returned (.tuple #[.agg #[.map none], .int .i64 17]) ∧ Below w.heap.size w w' := by
  cases h1 : sideB W
  · have H1 := Lib.hid h1
    clear h1
    go_enter Tryz.func14, Tryz.ntmps14
    go_wp2_with (go_at_call 38; refine (side_any _ _).mono ?_; rintro e w' ⟨rfl, rfl⟩; rw [H1.out])
    exact bodyPost_ret (v := .tuple #[.agg #[.map none], .int .i64 17]) (by simp [results, Tryz.results14, go_sem]) rfl ⟨rfl, (by repeat (first | exact bre _ | refine bal ?_ _ | refine bset ?_ (by simp) _ | refine bset ?_ (by simp; omega) _))⟩
  · have h2 : sideB H = false := by rw [h1] at h; simpa using h
    have H1 := Lib.hid h1
    have H2 := Lib.hid h2
    clear h1 h2
    go_enter Tryz.func14, Tryz.ntmps14
    go_wp2_with (go_at_call 38; refine (side_any _ _).mono ?_; rintro e w' ⟨rfl, rfl⟩; first | rw [H1.out] | rw [H2.out])
    exact bodyPost_ret (v := .tuple #[.agg #[.map none], .int .i64 17]) (by simp [results, Tryz.results14, go_sem]) rfl ⟨rfl, (by repeat (first | exact bre _ | refine bal ?_ _ | refine bset ?_ (by simp) _ | refine bset ?_ (by simp; omega) _))⟩

end Go.Proofs.YtbfefkhejknmoaaGreatDoor
