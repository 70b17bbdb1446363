/-
  The walk of focus.Steps.
-/
import Derived.Test.YtbkkecijcijhdaaGreatZFTStepK
section
namespace Go.Proofs.YtbkkecijcijhdaaGreat
open Go.RowKit Go.Maps Go.Shelf

theorem run_eql_st (w : World) (a c a' c' : Int) (b b' : Bool) : (binOp .eql 148 (.agg #[.int .u32 a, .bool b, .int .i64 c]) (.agg #[.int .u32 a', .bool b', .int .i64 c'])).run Tryz.prog w = .ok (.bool (a == a' && (b == b' && c == c'))) w := by
  cases h1 : (a == a') <;> cases h2 : (b == b') <;> cases h3 : (c == c') <;> simp [go_sem, h1, h2, h3]
attribute [local go_sem ↓] run_eql_st
theorem blk_own3 {w : World} {base e g : Nat} {xs : List Value} (h : Blk w g e xs.toArray) (hb : base ≤ g) (hl : xs.length = 3) : w.ownsRow base e 3 (.slice (some ⟨g, 0, none⟩) 1 1) 1 xs := by
  refine ⟨by omega, .inr ⟨g, 1, xs.toArray, rfl, hb, h, Nat.le_refl _, by simp [maxLen], by simp; omega, ?_⟩⟩
  exact List.take_of_length_le (by simp; omega)
/-- whom a focus leaves and enters. -/
def steps37 (ns : Nodes) (a b : Int) : List SP :=
  if a = b then [] else
  match hasN ns a, hasN ns b with
  | true, true => stepsF (pathN ns a) (pathN ns b) a b
  | true, false => [⟨a, false, 3⟩]
  | false, true => [⟨b, true, 3⟩]
  | false, false => []
section
variable {w : World} {ns : Nodes} {mk mu : Option Nat} {nk : Nat} {fk : Int → Option Value}
set_option maxRecDepth 100000 in
set_option maxHeartbeats 4000000 in
theorem steps37_any (a b : Int) (ha : 0 ≤ a ∧ a ≤ 4294967295) (hb : 0 ≤ b ∧ b ≤ 4294967295) (hT : TreeIs w (.agg #[.map mk, .map mu]) ns mk mu nk fk) (hok : TreeOk ns) :
    Calls Tryz.prog 74 #[.agg #[.map mk, .map mu], .int .u32 a, .int .u32 b] w fun e w' => ∃ u, e = .returned u ∧ w'.ownsRow w.heap.size 148 3 u (steps37 ns a b).length (SPs (steps37 ns a b)) ∧ Below w.heap.size w w' := by
  obtain ⟨i0, hi0, hz0, hz1, hz2⟩ := info_parts Tryz.infoSt
  have xB0 := bal (bre w) (.cells #[.map mk, .map mu] 34)
  have xB := bal xB0 (.cells #[.int .u32 0, .bool false, .int .i64 0] 148)
  have xK3 := (Blk.new w 34 #[.map mk, .map mu]).alloc (.cells #[.int .u32 0, .bool false, .int .i64 0] 148)
  have xK7 := blk_new2 w (.cells #[.map mk, .map mu] 34) 148 #[.int .u32 0, .bool false, .int .i64 0]
  have xT := hT.below xB
  have HB0 := Lib.hid xB0
  clear xB0
  go_enter Tryz.func74, Tryz.ntmps74
  by_cases hab : a = b
  · have HE := Lib.hid (show steps37 ns a b = [] by unfold steps37; rw [if_pos hab])
    have hab' : (a == b) = true := by simpa using hab
    clear hab
    go_wp2_with fail
    go_ret
    rw [HE.out]
    exact ⟨_, rfl, World.ownsRow_nil _ _ _ _, HB0.out⟩
  have HAB := Lib.hid hab
  have hab' : (a == b) = false := by simpa using hab
  clear hab HB0
  go_upto_region 4 with fail
  obtain ⟨X0, hX0⟩ : ∃ X0, (w.alloc (.cells #[.map mk, .map mu] 34)).alloc (.cells #[.int .u32 0, .bool false, .int .i64 0] 148) = X0 := ⟨_, rfl⟩
  obtain ⟨q, hq⟩ : ∃ q, w.heap.size + 1 = q := ⟨_, rfl⟩
  have HQ := Lib.hid (show w.heap.size ≤ q by omega)
  rw [hX0] at xB xK3 xK7 xT ⊢
  rw [hq] at xK7 ⊢
  have HB := Lib.hid xB
  have K3 := Lib.hid xK3
  have K7 := Lib.hid xK7
  have HT := Lib.hid xT
  clear xB xK3 xK7 xT hX0 hT hq
  go_cut [8, 9] from 41 (fun s8 s9 wx => s8 = .bool (hasN ns a) ∧ s9 = .bool (hasN ns b) ∧ Below X0.heap.size X0 wx)
  case first =>
    as_aux_lemma =>
      have HBW := Lib.hid (show Below X0.heap.size X0 X0.drew from (bre X0).drew)
      refine wp_region_noPanic ?_
      refine wp_region_held_drew (S := (fun w' => w'.cell? ⟨w.heap.size, 0, none⟩ = some (.map mk) ∧ w'.cell? ⟨w.heap.size, 1, none⟩ = some (.map mu))) (by kernel_rfl) ?_ (fun hHeld => ?_)
      · (try dsimp only)
        exact ⟨(K3.out.belowS HBW.out).cellV (i := 0) rfl, (K3.out.belowS HBW.out).cellV (i := 1) rfl⟩
      refine Tr.take_at 0 13 (.agg #[.map mk, .map mu]) rfl rfl (by kernel_rfl) (by kernel_rfl) (by kernel_rfl) (fun _ _ _ h => h) (Or.inl ⟨by rfl, ?_⟩) (by assumption) ?_
      · intro W0 hSw
        (try dsimp only at hSw)
        go_simp
      simp only [List.set_cons_zero, List.set_cons_succ]
      refine Tr.take_at 1 14 (.int .u32 a) rfl rfl (by kernel_rfl) (by kernel_rfl) (by kernel_rfl) (fun _ _ _ h => h) (Or.inl ⟨by rfl, ?_⟩) (by assumption) ?_
      · intro W0 hSw
        (try dsimp only at hSw)
        go_simp
      simp only [List.set_cons_zero, List.set_cons_succ]
      refine Tr.take_at 3 16 (.agg #[.map mk, .map mu]) rfl rfl (by kernel_rfl) (by kernel_rfl) (by kernel_rfl) (fun _ _ _ h => h) (Or.inl ⟨by rfl, ?_⟩) (by assumption) ?_
      · intro W0 hSw
        (try dsimp only at hSw)
        go_simp
      simp only [List.set_cons_zero, List.set_cons_succ]
      refine Tr.take_at 4 17 (.int .u32 b) rfl rfl (by kernel_rfl) (by kernel_rfl) (by kernel_rfl) (fun _ _ _ h => h) (Or.inl ⟨by rfl, ?_⟩) (by assumption) ?_
      · intro W0 hSw
        (try dsimp only at hSw)
        go_simp
      simp only [List.set_cons_zero, List.set_cons_succ]
      refine wpAnyH_ready (rs := [2]) (by kernel_rfl) (by simp) ?_
      refine AllReadyH.cons rfl (fun K hK => ?_) AllReadyH.nil
      go_simp
      refine (has_any _ ns mk mu nk fk a _ ha (HT.out.below HBW.out)).mono ?_
      rintro e wc2 ⟨rfl, hbA⟩
      replace HBW := Lib.hid (bstep HBW.out hbA)
      clear hbA
      go_simp
      refine hK.out _ _ ?_ (fun hHeld => ?_)
      · (try dsimp only)
        exact ⟨(K3.out.belowS HBW.out).cellV (i := 0) rfl, (K3.out.belowS HBW.out).cellV (i := 1) rfl⟩
      clear hK K
      refine wpAnyH_ready (rs := [5]) (by kernel_rfl) (by simp) ?_
      refine AllReadyH.cons rfl (fun K hK => ?_) AllReadyH.nil
      go_simp
      refine (has_any _ ns mk mu nk fk b _ hb (HT.out.below HBW.out)).mono ?_
      rintro e wc5 ⟨rfl, hbA⟩
      replace HBW := Lib.hid (bstep HBW.out hbA)
      clear hbA
      go_simp
      refine hK.out _ _ ?_ (fun hHeld => ?_)
      · (try dsimp only)
        exact ⟨(K3.out.belowS HBW.out).cellV (i := 0) rfl, (K3.out.belowS HBW.out).cellV (i := 1) rfl⟩
      clear hK K
      refine Tr.take_at 6 8 (.bool (hasN ns a)) rfl rfl (by kernel_rfl) (by kernel_rfl) (by kernel_rfl) (fun _ _ _ h => h) (Or.inl ⟨by rfl, ?_⟩) (by assumption) ?_
      · intro W0 hSw
        (try dsimp only at hSw)
        go_simp
      simp only [List.set_cons_zero, List.set_cons_succ]
      refine Tr.take_at 7 9 (.bool (hasN ns b)) rfl rfl (by kernel_rfl) (by kernel_rfl) (by kernel_rfl) (fun _ _ _ h => h) (Or.inl ⟨by rfl, ?_⟩) (by assumption) ?_
      · intro W0 hSw
        (try dsimp only at hSw)
        go_simp
      simp only [List.set_cons_zero, List.set_cons_succ]
      refine wpAnyH_done (by kernel_rfl) ?_ _
      refine NoPanic.normal ?_
      go_wp2_with fail
      go_meet
      exact ⟨rfl, rfl, HBW.out⟩
  obtain ⟨rfl, rfl, hbc⟩ := hcut
  replace HB := Lib.hid (bstep HB.out hbc)
  replace K3 := Lib.hid (K3.out.belowS hbc)
  replace K7 := Lib.hid (K7.out.belowS hbc)
  replace HT := Lib.hid (HT.out.below hbc)
  clear hbc
  obtain ⟨X1, hX1⟩ : ∃ X1, X1 = wc := ⟨_, rfl⟩
  subst hX1
  have q0 := K7.out.cellV (i := 0) (v := .int .u32 0) rfl
  have q1 := K7.out.cellV (i := 1) (v := .bool false) rfl
  have q2 := K7.out.cellV (i := 2) (v := .int .i64 0) rfl
  have qf0 := K7.out.frozen 0
  have qf1 := K7.out.frozen 1
  have qf2 := K7.out.frozen 2
  have ql := K7.out.lt
  have d0 := K3.out.cellV (i := 0) (v := .map mk) rfl
  have d1 := K3.out.cellV (i := 1) (v := .map mu) rfl
  cases hA : hasN ns a <;> cases hB' : hasN ns b
  · have HE := Lib.hid (show steps37 ns a b = [] by unfold steps37; rw [if_neg HAB.out, hA, hB'])
    go_wp2_with fail
    go_ret
    rw [HE.out]
    exact ⟨_, rfl, World.ownsRow_nil _ _ _ _, HB.out⟩
  · have HE := Lib.hid (show steps37 ns a b = [⟨b, true, 3⟩] by unfold steps37; rw [if_neg HAB.out, hA, hB'])
    go_upto_region 11 with fail
    have xB := bset (p := ⟨q, 2, none⟩) (bset (p := ⟨q, 1, none⟩) (bset (p := ⟨q, 0, none⟩) HB.out HQ.out (.int .u32 b)) HQ.out (.bool true)) HQ.out (.int .i64 3)
    have xK : Blk (((X1.setCell ⟨q, 0, none⟩ (.int .u32 b)).setCell ⟨q, 1, none⟩ (.bool true)).setCell ⟨q, 2, none⟩ (.int .i64 3)) q 148 #[.int .u32 b, .bool true, .int .i64 3] := by simpa using ((K7.out.set_ 0 (.int .u32 b)).set_ 1 (.bool true)).set_ 2 (.int .i64 3)
    obtain ⟨X2, hX2⟩ : ∃ X2, ((X1.setCell ⟨q, 0, none⟩ (.int .u32 b)).setCell ⟨q, 1, none⟩ (.bool true)).setCell ⟨q, 2, none⟩ (.int .i64 3) = X2 := ⟨_, rfl⟩
    rw [hX2] at xB xK ⊢
    clear hX2 q0 q1 q2 qf0 qf1 qf2 ql
    have q0 := xK.cellV (i := 0) (v := .int .u32 b) rfl
    have q1 := xK.cellV (i := 1) (v := .bool true) rfl
    have q2 := xK.cellV (i := 2) (v := .int .i64 3) rfl
    have HB2 := Lib.hid xB
    clear xB xK
    go_wp2_with fail
    go_ret
    rw [HE.out]
    exact ⟨_, rfl, blk_own3 (Blk.new X2 148 #[.int .u32 b, .bool true, .int .i64 3]) HB2.out.size rfl, bal HB2.out _⟩
  · have HE := Lib.hid (show steps37 ns a b = [⟨a, false, 3⟩] by unfold steps37; rw [if_neg HAB.out, hA, hB'])
    go_upto_region 11 with fail
    have xB := bset (p := ⟨q, 2, none⟩) (bset (p := ⟨q, 1, none⟩) (bset (p := ⟨q, 0, none⟩) HB.out HQ.out (.int .u32 a)) HQ.out (.bool false)) HQ.out (.int .i64 3)
    have xK : Blk (((X1.setCell ⟨q, 0, none⟩ (.int .u32 a)).setCell ⟨q, 1, none⟩ (.bool false)).setCell ⟨q, 2, none⟩ (.int .i64 3)) q 148 #[.int .u32 a, .bool false, .int .i64 3] := by simpa using ((K7.out.set_ 0 (.int .u32 a)).set_ 1 (.bool false)).set_ 2 (.int .i64 3)
    obtain ⟨X2, hX2⟩ : ∃ X2, ((X1.setCell ⟨q, 0, none⟩ (.int .u32 a)).setCell ⟨q, 1, none⟩ (.bool false)).setCell ⟨q, 2, none⟩ (.int .i64 3) = X2 := ⟨_, rfl⟩
    rw [hX2] at xB xK ⊢
    clear hX2 q0 q1 q2 qf0 qf1 qf2 ql
    have q0 := xK.cellV (i := 0) (v := .int .u32 a) rfl
    have q1 := xK.cellV (i := 1) (v := .bool false) rfl
    have q2 := xK.cellV (i := 2) (v := .int .i64 3) rfl
    have HB2 := Lib.hid xB
    clear xB xK
    go_wp2_with fail
    go_ret
    rw [HE.out]
    exact ⟨_, rfl, blk_own3 (Blk.new X2 148 #[.int .u32 a, .bool false, .int .i64 3]) HB2.out.size rfl, bal HB2.out _⟩
  · have HE := Lib.hid (show steps37 ns a b = stepsF (pathN ns a) (pathN ns b) a b by unfold steps37; rw [if_neg HAB.out, hA, hB'])
    go_wp2_with fail
    refine (path36_any a b ha hb HT.out hok).mono ?_
    rintro e w6 ⟨u, rfl, ho, hb6⟩
    have HO := Lib.hid ho
    have HB6 := Lib.hid (bstep HB.out hb6)
    clear ho hb6
    go_wp2_with fail
    go_ret
    rw [HE.out]
    exact ⟨u, rfl, own_lower HO.out HB.out.size, HB6.out⟩
  end
end Go.Proofs.YtbkkecijcijhdaaGreat
end
