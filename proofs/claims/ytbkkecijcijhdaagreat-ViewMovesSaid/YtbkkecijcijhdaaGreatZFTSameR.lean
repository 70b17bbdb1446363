/-
  The walks of slices.Equal at rectangles, and of band.Same. (What PSetsA has of it, for a seat without PlaceSets.)
-/
import Derived.Test.YtbkkecijcijhdaaGreatZF29
import Derived.Test.YtbkkecijcijhdaaGreatZF18
import Derived.Test.YtbkkecijcijhdaaGreatZF06
section
namespace Go.Proofs.YtbkkecijcijhdaaGreat
open Go.RowKit Go.Maps Go.Shelf

theorem run_neq_rcE (w : World) (a b c d a' b' c' d' : Int) : (binOp .neq 113 (.agg #[.int .i64 a, .int .i64 b, .int .i64 c, .int .i64 d]) (.agg #[.int .i64 a', .int .i64 b', .int .i64 c', .int .i64 d'])).run Tryz.prog w = .ok (.bool (!(a == a' && b == b' && c == c' && d == d'))) w := by
  cases h1 : (a == a') <;> cases h2 : (b == b') <;> cases h3 : (c == c') <;> cases h4 : (d == d') <;> simp [go_sem, h1, h2, h3, h4]
attribute [local go_sem ↓] run_neq_rcE

set_option maxRecDepth 100000 in
set_option maxHeartbeats 2000000 in
theorem equalR_eq (A A' : Option Addr) (n c c' : Nat) (rs : List RC) (w : World) (hn : n ≤ 1000000000000) (hr : RdR w A n rs) (hq : RdR w A' n rs) :
    Calls Tryz.prog 89 #[.slice A n c, .slice A' n c'] w fun e w' => e = .returned (.bool true) ∧ Below w.heap.size w w' := by
  have HR := Lib.hid hr
  have HQ := Lib.hid hq
  have HL := Lib.hid hr.1
  have e0 : ((n : Int) != (n : Int)) = false := by simp
  clear hr hq
  go_enter Tryz.func89, Tryz.ntmps89
  go_wp2_with fail
  go_loopw [13, 5] (fun i _ wr => ∃ k : Nat, i = .int .i64 k ∧ k ≤ n ∧ Below w.heap.size w wr) (fun i _ _ => n - (intOf i).toNat)
  case atStart => exact ⟨0, rfl, by omega, bre w⟩
  case round =>
    obtain ⟨k, rfl, hk, hB⟩ := hrel
    have HB := Lib.hid hB
    by_cases hlt : k < n
    · obtain ⟨r, hr⟩ : ∃ r, rs[k]? = some r := ⟨_, List.getElem?_eq_getElem (by have := HL.out; omega)⟩
      obtain ⟨b, off, rfl, hb, hcl⟩ := (HR.out.below hB).2 (by omega)
      obtain ⟨b', off', rfl, hb', hcl'⟩ := (HQ.out.below hB).2 (by omega)
      obtain ⟨c0, c1, c2, c3⟩ := hcl k r hr
      obtain ⟨d0, d1, d2, d3⟩ := hcl' k r hr
      have k1 : (k : Int) < (n : Int) := by omega
      have k0 : (0 : Int) ≤ (k : Int) := by omega
      clear hB hr hcl hcl'
      go_wp2_with fail
      go_quiet (fail)
      go_wp2_with fail
      go_roundw
      case rel => exact ⟨k + 1, by go_num, by omega, below_drewN HB.out _⟩
      case measure => simp [intOf]; omega
    · obtain rfl : k = n := by omega
      clear hB
      go_wp2_with fail
      go_ret
      exact ⟨rfl, HB.out⟩

set_option maxRecDepth 100000 in
set_option maxHeartbeats 2000000 in
theorem bandSame_eq (A A' : Option Addr) (n c c' : Nat) (rs : List RC) (w : World) (hn : n ≤ 1000000000000) (hr : RdR w A n rs) (hq : RdR w A' n rs) :
    Calls Tryz.prog 36 #[.agg #[.slice A n c], .agg #[.slice A' n c']] w fun e w' => e = .returned (.bool true) ∧ Below w.heap.size w w' := by
  have HR := Lib.hid hr
  have HQ := Lib.hid hq
  clear hr hq
  go_enter Tryz.func36, Tryz.ntmps36
  have HB := Lib.hid (bal (bal (bre w) (.cells #[.slice A n c] 60)) (.cells #[.slice A' n c'] 60))
  go_wp2_with (go_at_call 89; refine (equalR_eq A A' n _ _ rs _ hn (HR.out.below HB.out) (HQ.out.below HB.out)).mono ?_; rintro e w1 ⟨rfl, hb⟩; have HB1 := Lib.hid (bstep HB.out hb); clear hb)
  go_ret
  exact ⟨rfl, HB1.out⟩
end Go.Proofs.YtbkkecijcijhdaaGreat
end
