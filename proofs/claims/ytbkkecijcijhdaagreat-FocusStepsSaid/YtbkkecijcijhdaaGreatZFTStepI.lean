/-
  The walks of cross.above and of a tree's Meet.
-/
import Derived.Test.YtbkkecijcijhdaaGreatZFTStepH
section
namespace Go.Proofs.YtbkkecijcijhdaaGreat
open Go.RowKit Go.Maps Go.Shelf

/-- a path without its first window, up to the one named. -/
def abL (l : List Int) (i : Int) : List Int := match l with
  | [] => []
  | _ :: r => if r.contains i then cutU r i else r
theorem abL_len (l : List Int) (i : Int) : (abL l i).length ≤ l.length := by
  unfold abL
  split
  · exact Nat.le_refl _
  · split
    · unfold cutU
      exact Nat.le_trans (List.takeWhile_prefix _).length_le (Nat.le_succ _)
    · exact Nat.le_succ _

set_option maxRecDepth 100000 in
set_option maxHeartbeats 4000000 in
theorem above_any (A : Option Addr) (n c : Nat) (l : List Int) (i : Int) (w : World) (hn : n ≤ 3000) (hc : n ≤ c) (hr : Rd w A n (U32 l)) :
    Calls Tryz.prog 120 #[.slice A n c, .int .u32 i] w fun e w' => ∃ A' c', e = .returned (.slice A' (abL l i).length c') ∧ (∀ W, Rd W A n (U32 l) → Rd W A' (abL l i).length (U32 (abL l i))) ∧ w = w' := by
  have HR := Lib.hid hr
  have HLN := Lib.hid (show l.length = n by have := hr.1; rwa [U32_len] at this)
  clear hr
  cases l with
  | nil =>
    obtain rfl : 0 = n := HLN.out
    go_enter Tryz.func120, Tryz.ntmps120
    go_wp2_with fail
    go_ret
    exact ⟨_, _, rfl, fun _ _ => Rd.nil _ _, rfl⟩
  | cons d r =>
    obtain ⟨b, off, rfl, hbk, hcl⟩ := HR.out.2 (by have := HLN.out; rw [List.length_cons] at this; omega)
    have h1 : (1 : Int) ≤ n := by have := HLN.out; rw [List.length_cons] at this; omega
    have h2 : (n : Int) ≤ c := by omega
    have h0 : ¬ (n : Int) = 0 := by omega
    have h0' : ((n : Int) == 0) = false := by simpa using h0
    go_enter Tryz.func120, Tryz.ntmps120
    go_upto_region 3 with fail
    go_upto_region 4 with fail
    obtain ⟨A1, hA1⟩ : ∃ A1, (if c = 1 then some (⟨b, off, none⟩ : Addr) else some ⟨b, off + 1, none⟩) = A1 := ⟨_, rfl⟩
    have HR1 := Lib.hid (show ∀ W, Rd W (some ⟨b, off, none⟩) n (U32 (d :: r)) → Rd W A1 (n - 1) (U32 r) from fun W hW => by
      obtain ⟨b', off', e', hbk, hcl⟩ := hW.2 (by omega)
      cases e'
      refine ⟨by have := HLN.out; rw [List.length_cons] at this; rw [U32_len]; omega, fun hp => ⟨b, off + 1, ?_, hbk, fun k x hk => ?_⟩⟩
      · rw [← hA1, if_neg (by omega)]
      · have := hcl (k + 1) x (by simpa [U32] using hk)
        rwa [show off + 1 + k = off + (k + 1) by omega])
    have HL1 := Lib.hid (show r.length = n - 1 by have := HLN.out; rw [List.length_cons] at this; omega)
    rw [hA1]
    clear hA1 hcl
    go_wp2_with fail
    refine (idx37_any A1 (n - 1) (c - 1) r i _ (by omega) (HR1.out _ HR.out)).mono ?_
    rintro e w1 ⟨rfl, rfl⟩
    cases hq : r.contains i with
    | false =>
      have HE := Lib.hid (show abL (d :: r) i = r by unfold abL; dsimp only; rw [hq]; rfl)
      have HI := Lib.hid (show idxZ r i = -1 by unfold idxZ; rw [if_neg (by rw [hq]; decide)])
      rw [HI.out]
      clear hq
      go_wp2_with fail
      go_ret
      rw [HE.out, HL1.out]
      exact ⟨_, _, rfl, HR1.out, rfl⟩
    | true =>
      obtain ⟨k, hk1, hk2, hk3⟩ := cut_get hq
      have hct : cutU r i = r.take k := by
        have h := List.prefix_iff_eq_take.1 (List.takeWhile_prefix (l := r) (fun x => decide (x ≠ i)))
        unfold cutU at hk2 ⊢
        rw [hk2] at h
        exact h
      have HE := Lib.hid (show abL (d :: r) i = r.take k by unfold abL; dsimp only; rw [hq, if_pos rfl, hct])
      have HI := Lib.hid (show idxZ r i = (k : Int) by unfold idxZ; rw [if_pos hq, hk2])
      have hkl : k < n - 1 := by have := (List.getElem?_eq_some_iff.1 hk1).1; have h3 := HL1.out; omega
      have HK3 := Lib.hid (show (r.take k).length = k by rw [List.length_take]; have h3 := HL1.out; omega)
      have HRT := Lib.hid (show ∀ W, Rd W (some ⟨b, off, none⟩) n (U32 (d :: r)) → Rd W A1 k (U32 (r.take k)) from fun W hW => by
        refine ⟨by rw [U32_len]; exact HK3.out, fun _ => ?_⟩
        obtain ⟨b, off, e, hb, hc⟩ := (HR1.out W hW).2 (by omega)
        refine ⟨b, off, e, hb, fun j x hj => hc j x ?_⟩
        have hjl := (List.getElem?_eq_some_iff.1 hj).1
        rw [U32_len, HK3.out] at hjl
        unfold U32 at hj ⊢
        rw [List.map_take, List.getElem?_take, if_pos hjl] at hj
        exact hj)
      rw [HI.out]
      have kk : (k : Int) ≤ (c : Int) - 1 := by omega
      have k0 : (0 : Int) ≤ (k : Int) := by omega
      clear hq hk1 hk2 hk3 hct
      go_wp2_with fail
      go_ret
      rw [HE.out, HK3.out]
      exact ⟨_, _, rfl, HRT.out, rfl⟩
end Go.Proofs.YtbkkecijcijhdaaGreat
end
