/-
  The walk of a tree's Meet.
-/
import Derived.Test.YtbkkecijcijhdaaGreatZFTStepI
section
namespace Go.Proofs.YtbkkecijcijhdaaGreat
open Go.RowKit Go.Maps Go.Shelf

set_option maxRecDepth 100000 in
set_option maxHeartbeats 4000000 in
theorem has37_any (A : Option Addr) (n c : Nat) (l : List Int) (i : Int) (w : World) (hn : n ≤ 1000000) (hr : Rd w A n (U32 l)) :
    Calls Tryz.prog 155 #[.slice A n c, .int .u32 i] w fun e w' => e = .returned (.bool (l.contains i)) ∧ w = w' := by
  have HR := Lib.hid hr
  clear hr
  go_enter Tryz.func155, Tryz.ntmps155
  go_wp2_with fail
  refine (idx37_any A n c l i _ hn HR.out).mono ?_
  rintro e w1 ⟨rfl, rfl⟩
  cases hq : l.contains i with
  | false =>
    have HI := Lib.hid (show idxZ l i = -1 by unfold idxZ; rw [if_neg (by rw [hq]; decide)])
    rw [HI.out]
    have HQ := Lib.hid hq
    clear hq
    go_wp2_with fail
    go_ret
    exact ⟨by rw [HQ.out]; rfl, rfl⟩
  | true =>
    have HI := Lib.hid (show idxZ l i = ((cutU l i).length : Int) by unfold idxZ; rw [if_pos hq])
    rw [HI.out]
    have HQ := Lib.hid hq
    clear hq
    have k0 : (0 : Int) ≤ ((cutU l i).length : Int) := by omega
    go_wp2_with fail
    go_ret
    exact ⟨by rw [HQ.out]; simp, rfl⟩

/-- where two paths meet. -/
def meetF (pa pb : List Int) : Option Int := pa.find? fun x => pb.contains x
section
variable {w : World} {ns : Nodes} {mk mu : Option Nat} {nk : Nat} {fk : Int → Option Value}
set_option maxRecDepth 100000 in
set_option maxHeartbeats 4000000 in
theorem tmeet_any (a b : Int) (ha : 0 ≤ a ∧ a ≤ 4294967295) (hb : 0 ≤ b ∧ b ≤ 4294967295) (hT : TreeIs w (.agg #[.map mk, .map mu]) ns mk mu nk fk) (hok : TreeOk ns) :
    Calls Tryz.prog 118 #[.agg #[.map mk, .map mu], .int .u32 a, .int .u32 b] w fun e w' => e = .returned (.tuple #[.int .u32 ((meetF (pathN ns a) (pathN ns b)).getD 0), .bool (meetF (pathN ns a) (pathN ns b)).isSome]) ∧ Below w.heap.size w w' := by
  have HT := Lib.hid hT
  have HB := Lib.hid (bal (bre w) (.cells #[.map mk, .map mu] 34))
  have K3 := Lib.hid (Blk.new w 34 #[.map mk, .map mu])
  clear hT
  go_enter Tryz.func118, Tryz.ntmps118
  go_upto_region 1 with fail
  obtain ⟨g3, hg3⟩ : ∃ g, w.heap.size = g := ⟨_, rfl⟩
  have HG3 := Lib.hid hg3
  obtain ⟨X0, hX0⟩ : ∃ X0, w.alloc (.cells #[.map mk, .map mu] 34) = X0 := ⟨_, rfl⟩
  have xK := K3.out
  have xB := HB.out
  rw [hX0] at xK xB ⊢
  replace HB := Lib.hid xB
  rw [hg3] at xK ⊢
  replace K3 := Lib.hid xK
  have c0 := xK.cellV (i := 0) (v := .map mk) rfl
  have c1 := xK.cellV (i := 1) (v := .map mu) rfl
  clear xK xB hX0
  go_wp2_with fail
  refine (path_any (.agg #[.map mk, .map mu]) ns mk mu nk fk b _ hb (HT.out.below HB.out) hok).mono ?_
  rintro e w2 ⟨u, rfl, ho, hb2⟩
  obtain ⟨Ab, cb, rfl, hcb⟩ := own_form ho
  have HRB := Lib.hid (Rd.of_own ho)
  replace HB := Lib.hid (bstep HB.out hb2)
  replace K3 := Lib.hid (K3.out.belowS hb2)
  clear hb2 ho hcb c0 c1
  have c0 := K3.out.cellV (i := 0) (v := .map mk) rfl
  have c1 := K3.out.cellV (i := 1) (v := .map mu) rfl
  obtain ⟨pb, hpb⟩ : ∃ pb, pathN ns b = pb := ⟨_, rfl⟩
  have HLB := Lib.hid (show pb.length ≤ 1000000 by rw [← hpb]; have := path_len hok b; have := HT.out.few; omega)
  rw [hpb] at HRB ⊢
  have HPB := Lib.hid hpb
  go_wp2_with fail
  refine (path_any (.agg #[.map mk, .map mu]) ns mk mu nk fk a _ ha (HT.out.below HB.out) hok).mono ?_
  rintro e w3 ⟨u, rfl, ho, hb2⟩
  obtain ⟨Aa, ca, rfl, hca⟩ := own_form ho
  have HRA := Lib.hid (Rd.of_own ho)
  replace HRB := Lib.hid (HRB.out.below hb2)
  replace HB := Lib.hid (bstep HB.out hb2)
  clear hb2 ho hca c0 c1 K3
  have hnb : (pathN ns a).length ≤ 1000000 := by have := path_len hok a; have := HT.out.few; omega
  obtain ⟨pa, hpa⟩ : ∃ pa, pathN ns a = pa := ⟨_, rfl⟩
  rw [hpa] at HRA hnb ⊢
  have HPA := Lib.hid hpa
  obtain ⟨n, hn⟩ : ∃ n, pa.length = n := ⟨_, rfl⟩
  have HN := Lib.hid hn
  rw [hn] at HRA hnb ⊢
  clear hn hpa hpb
  go_wp2_with fail
  go_loop [18, 10] (fun i _ => ∃ k : Nat, i = .int .i64 k ∧ k ≤ n ∧ ∀ x ∈ pa.take k, pb.contains x = false) (fun i _ => n - (intOf i).toNat)
  case atStart => exact ⟨0, rfl, by omega, by simp⟩
  case round =>
    obtain ⟨k, rfl, hk, hno⟩ := hrel
    have HNO := Lib.hid hno
    clear hno
    by_cases hlt : k < n
    · obtain ⟨x, hx⟩ : ∃ x, pa[k]? = some x := ⟨_, List.getElem?_eq_getElem (by rw [HN.out]; exact hlt)⟩
      obtain ⟨bb, off, rfl, hbk, hcl⟩ := HRA.out.2 (by omega)
      have hcell := hcl k _ (U32_at hx)
      have k1 : (k : Int) < (n : Int) := by omega
      have k0 : (0 : Int) ≤ (k : Int) := by omega
      have HX := Lib.hid hx
      clear hcl hx
      go_wp2_with fail
      refine (has37_any Ab pb.length cb pb x _ HLB.out HRB.out).mono ?_
      rintro e w4 ⟨rfl, rfl⟩
      cases hq : pb.contains x with
      | true =>
        have HM := Lib.hid (show meetF pa pb = some x by
          unfold meetF
          obtain ⟨h1, h2⟩ := List.getElem?_eq_some_iff.1 HX.out
          have e : pa = pa.take k ++ pa.drop k := (List.take_append_drop k pa).symm
          rw [e, List.drop_eq_getElem_cons h1, List.find?_append, h2, List.find?_cons_of_pos (by simpa using hq), List.find?_eq_none.2 (fun y hy => by have := HNO.out y hy; simpa using this)]
          rfl)
        clear hq
        go_wp2_with fail
        refine bodyPost_ret (v := .tuple #[.int .u32 x, .bool true]) (by simp [results, Tryz.results118, go_sem]) rfl ?_
        rw [HPA.out, HPB.out, HM.out]
        exact ⟨rfl, by first | exact HB.out | (rw [← HG3.out]; exact HB.out)⟩
      | false =>
        have HQ := Lib.hid hq
        clear hq
        go_wp2_with fail
        go_round
        case rel => exact ⟨k + 1, by go_num, by omega, fun y hy => by
          rw [take_snocI' HX.out, List.mem_append] at hy
          rcases hy with h | h
          · exact HNO.out y h
          · rw [List.mem_singleton.1 h]; exact HQ.out⟩
        case measure => simp [intOf]; omega
    · obtain rfl : k = n := by omega
      have k1 : ¬ (k : Int) < (k : Int) := by omega
      have HM := Lib.hid (show meetF pa pb = none by
        unfold meetF
        refine List.find?_eq_none.2 (fun y hy => ?_)
        have := HNO.out y (by rw [List.take_of_length_le (by rw [HN.out]; exact Nat.le_refl _)]; exact hy)
        simpa using this)
      go_wp2_with fail
      refine bodyPost_ret (v := .tuple #[.int .u32 0, .bool false]) (by simp [results, Tryz.results118, go_sem]) rfl ?_
      rw [HPA.out, HPB.out, HM.out]
      exact ⟨rfl, by first | exact HB.out | (rw [← HG3.out]; exact HB.out)⟩
end
end Go.Proofs.YtbkkecijcijhdaaGreat
end
