/-
  The walk of the document's Dots: places as rectangles.
  The walk of the document's spans: the stretches of a row, edge by edge.
-/
import Derived.Test.YtcdecglbkcllaaaLinePath
import Derived.Test.YtcdecglbkcllaaaLineJoin
import Derived.Test.YtcdecglbkcllaaaLineWalkQ
import Derived.Test.YtcdecglbkcllaaaRefBandA
namespace Go.Proofs.Ytcdecglbkcllaaa
open Go.RowKit

/-- an operation without a guard is done. -/
theorem wanted_plain {P : Program} {o : Oper} {a : Act} {w : World} {K : Act → World → Prop} {Q : Exit → Act → World → Prop} {E : Prop} {f : Nat → Option Bool} (hg : o.guard = none) (h : Oper.wp P o a w K Q) : if Region.wanted o f = true then Oper.wp P o a w K Q else E := by
  rw [if_pos (by simp [Region.wanted, hg])]
  exact h

/-- places as rectangles of one place each. -/
def dotsL (l : List Ln.PtR) : List RC := l.map fun p => ⟨p.1.1, p.1.2, 1, 1⟩
theorem dots_take {l : List Ln.PtR} {k : Nat} {p : Ln.PtR} (h : l[k]? = some p) : dotsL (l.take (k + 1)) = dotsL (l.take k) ++ [⟨p.1.1, p.1.2, 1, 1⟩] := by
  rw [List.take_add_one, h]
  simp [dotsL]
theorem rcs_one4 (r : RC) : rcs [r] = [.int .i64 r.X, .int .i64 r.Y, .int .i64 r.W, .int .i64 r.H] := rfl

set_option maxRecDepth 100000 in
set_option maxHeartbeats 4000000 in
theorem dots_go (g c n : Nat) (l : List Ln.PtR) (w : World) (hn : l.length = n) (hl : n ≤ 1000000) (hg : g < w.heap.size)
    (hc : ∀ k p, (Ln.unR l)[k]? = some p → w.cell? ⟨g, k * 2, none⟩ = some (.int .i64 p.1) ∧ w.cell? ⟨g, k * 2 + 1, none⟩ = some (.int .i64 p.2)) :
    Calls Try.prog 32 #[.slice (some ⟨g, 0, none⟩) n c] w fun e w' => ∃ v', e = .returned v' ∧ w'.ownsRow w.heap.size 45 4 v' n (rcs (dotsL l)) ∧ Below w.heap.size w w' := by
  obtain ⟨i0, hi, hz0, hz1, hz2⟩ := info_parts Try.infoR2
  have HN := Lib.hid hn
  have HC := Lib.hid hc
  clear hn hc
  go_enter Try.func32, Try.ntmps32
  go_wp2_with fail
  go_loopw [3, 4] (fun v i wr => ∃ k : Nat, i = .int .i64 k ∧ k ≤ n ∧ wr.ownsRow w.heap.size 45 4 v k (rcs (dotsL (l.take k))) ∧ Below w.heap.size w wr) (fun _ i _ => n - (intOf i).toNat)
  case atStart => exact ⟨0, rfl, by omega, by simpa [dotsL, rcs] using World.ownsRow_nil w w.heap.size 45 4, bre w⟩
  case round =>
    obtain ⟨k, rfl, hk, ho, hB⟩ := hrel
    have HO := Lib.hid ho
    have HB := Lib.hid hB
    have hBs := hB.size
    by_cases hlt : k < n
    · obtain ⟨p, hp⟩ : ∃ p, l[k]? = some p := ⟨_, List.getElem?_eq_getElem (by have := HN.out; omega)⟩
      have hp1 := HC.out k p.1 (by simp [Ln.unR, hp])
      have a0 := (hB.cell (p := ⟨g, k * 2, none⟩) hg).trans hp1.1
      have a1 := (hB.cell (p := ⟨g, k * 2 + 1, none⟩) hg).trans hp1.2
      have b0 := hp1.1
      have b1 := hp1.2
      have HT := Lib.hid (dots_take hp)
      have k1 : (k : Int) < (n : Int) := by omega
      have k0 : (0 : Int) ≤ (k : Int) := by omega
      have hgr : g < wr.heap.size := by omega
      obtain ⟨Ao, co, hvo, _⟩ := own_form ho
      subst hvo
      clear ho hB hp hp1
      go_upto_region 5 with fail
      refine wp_region_noPanic ?_
      refine wp_region_held_drew (S := (fun w' => w'.cell? ⟨g, k * 2, none⟩ = some (.int .i64 p.1.1) ∧ w'.cell? ⟨g, k * 2 + 1, none⟩ = some (.int .i64 p.1.2))) (by kernel_rfl) ?_ (fun hHeld => ?_)
      · (try dsimp only)
        exact ⟨a0, a1⟩
      refine Ln.take_at 0 11 (.slice Ao k co) rfl rfl (by kernel_rfl) (by kernel_rfl) (by kernel_rfl) (fun _ _ _ h => h) (Or.inl ⟨by rfl, ?_⟩) (by assumption) ?_
      · intro W0 hSw
        (try dsimp only at hSw)
        go_simp
      simp only [List.set_cons_zero, List.set_cons_succ]
      refine Ln.take_at 1 12 (.slice (some ⟨g, 0, none⟩) n c) rfl rfl (by kernel_rfl) (by kernel_rfl) (by kernel_rfl) (fun _ _ _ h => h) (Or.inl ⟨by rfl, ?_⟩) (by assumption) ?_
      · intro W0 hSw
        (try dsimp only at hSw)
        go_simp
      simp only [List.set_cons_zero, List.set_cons_succ]
      refine Ln.take_at 2 13 (.int .i64 (k : Int)) rfl rfl (by kernel_rfl) (by kernel_rfl) (by kernel_rfl) (fun _ _ _ h => h) (Or.inl ⟨by rfl, ?_⟩) (by assumption) ?_
      · intro W0 hSw
        (try dsimp only at hSw)
        go_simp
      simp only [List.set_cons_zero, List.set_cons_succ]
      refine Ln.take_at 3 14 (.pointer (some ⟨g, k * 2, none⟩)) rfl rfl (by kernel_rfl) (by kernel_rfl) (by kernel_rfl) (fun _ _ _ h => h) (Or.inl ⟨by rfl, ?_⟩) (by assumption) ?_
      · intro W0 hSw
        (try dsimp only at hSw)
        go_simp
      simp only [List.set_cons_zero, List.set_cons_succ]
      refine Ln.take_at 4 15 (.pointer (some ⟨g, k * 2, none⟩)) rfl rfl (by kernel_rfl) (by kernel_rfl) (by kernel_rfl) (fun _ _ _ h => h) (Or.inl ⟨by rfl, ?_⟩) (by assumption) ?_
      · intro W0 hSw
        (try dsimp only at hSw)
        go_simp
      simp only [List.set_cons_zero, List.set_cons_succ]
      refine Ln.take_at 5 16 (.int .i64 p.1.1) rfl rfl (by kernel_rfl) (by kernel_rfl) (by kernel_rfl) (fun _ _ _ h => h) (Or.inl ⟨by rfl, ?_⟩) (by assumption) ?_
      · intro W0 hSw
        (try dsimp only at hSw)
        go_simp
      simp only [List.set_cons_zero, List.set_cons_succ]
      refine Ln.take_at 6 17 (.slice (some ⟨g, 0, none⟩) n c) rfl rfl (by kernel_rfl) (by kernel_rfl) (by kernel_rfl) (fun _ _ _ h => h) (Or.inl ⟨by rfl, ?_⟩) (by assumption) ?_
      · intro W0 hSw
        (try dsimp only at hSw)
        go_simp
      simp only [List.set_cons_zero, List.set_cons_succ]
      refine Ln.take_at 7 18 (.int .i64 (k : Int)) rfl rfl (by kernel_rfl) (by kernel_rfl) (by kernel_rfl) (fun _ _ _ h => h) (Or.inl ⟨by rfl, ?_⟩) (by assumption) ?_
      · intro W0 hSw
        (try dsimp only at hSw)
        go_simp
      simp only [List.set_cons_zero, List.set_cons_succ]
      refine Ln.take_at 8 19 (.pointer (some ⟨g, k * 2, none⟩)) rfl rfl (by kernel_rfl) (by kernel_rfl) (by kernel_rfl) (fun _ _ _ h => h) (Or.inl ⟨by rfl, ?_⟩) (by assumption) ?_
      · intro W0 hSw
        (try dsimp only at hSw)
        go_simp
      simp only [List.set_cons_zero, List.set_cons_succ]
      refine Ln.take_at 9 20 (.pointer (some ⟨g, k * 2 + 1, none⟩)) rfl rfl (by kernel_rfl) (by kernel_rfl) (by kernel_rfl) (fun _ _ _ h => h) (Or.inl ⟨by rfl, ?_⟩) (by assumption) ?_
      · intro W0 hSw
        (try dsimp only at hSw)
        go_simp
      simp only [List.set_cons_zero, List.set_cons_succ]
      refine Ln.take_at 10 21 (.int .i64 p.1.2) rfl rfl (by kernel_rfl) (by kernel_rfl) (by kernel_rfl) (fun _ _ _ h => h) (Or.inl ⟨by rfl, ?_⟩) (by assumption) ?_
      · intro W0 hSw
        (try dsimp only at hSw)
        go_simp
      simp only [List.set_cons_zero, List.set_cons_succ]
      refine Ln.take_at 11 22 (.agg #[.int .i64 p.1.1, .int .i64 p.1.2, .int .i64 1, .int .i64 1]) rfl rfl (by kernel_rfl) (by kernel_rfl) (by kernel_rfl) (fun _ _ _ h => h) (Or.inl ⟨by rfl, ?_⟩) (by assumption) ?_
      · intro W0 hSw
        (try dsimp only at hSw)
        go_simp
      simp only [List.set_cons_zero, List.set_cons_succ]
      refine wpAnyH_ready (rs := [12]) (by kernel_rfl) (by simp) ?_
      refine AllReadyH.cons rfl (fun K hK => ?_) AllReadyH.nil
      go_simp
      have O9 := Lib.hid (HO.out.drew.alloc (.cells #[.int .i64 p.1.1, .int .i64 p.1.2, .int .i64 1, .int .i64 1] 45))
      have HB9 := Lib.hid (bal ((bre wr).drew) (.cells #[.int .i64 p.1.1, .int .i64 p.1.2, .int .i64 1, .int .i64 1] 45))
      refine hK.out _ _ ?_ (fun hHeld => ?_)
      · (try dsimp only)
        exact ⟨(HB9.out.cell (p := ⟨g, k * 2, none⟩) hgr).trans a0, (HB9.out.cell (p := ⟨g, k * 2 + 1, none⟩) hgr).trans a1⟩
      clear hK K
      refine wpAnyH_ready (rs := [13]) (by kernel_rfl) (by simp) ?_
      refine AllReadyH.cons rfl (fun K hK => ?_) AllReadyH.nil
      have hsz1 : w.heap.size ≤ (wr.drew.alloc (.cells #[.int .i64 p.1.1, .int .i64 p.1.2, .int .i64 1, .int .i64 1] 45)).heap.size := by
        have : wr.drew.heap.size = wr.heap.size := rfl
        rw [World.size_alloc, this]
        omega
      refine wanted_plain rfl ?_
      refine wp_append_own _ _ _ 52 rfl w.heap.size 45 i0 _ 4 32 Try.underlying52 hi hz0 hz1 hz2 rfl (by decide) _ _ _ rfl O9.out ⟨wr.heap.size, 0, none⟩ 1 1 [.int .i64 p.1.1, .int .i64 p.1.2, .int .i64 1, .int .i64 1] rfl rfl (four_new2 _ _ _ _ _ _) (by simp [Value.oneCell']) (by simp only [maxLen]; omega) (by omega) hsz1 ?_
      intro v' w4 hown' hgrow _
      obtain ⟨A4, c4, hv4, _⟩ := own_form hown'
      subst hv4
      have HO4 := Lib.hid hown'
      have HB10 := Lib.hid ((bstep HB.out HB9.out).grown hgrow hsz1 (own_ge HO.out))
      clear hown' hgrow
      refine hK.out _ _ ?_ (fun hHeld => ?_)
      · (try dsimp only)
        exact ⟨(HB10.out.cell (p := ⟨g, k * 2, none⟩) hg).trans b0, (HB10.out.cell (p := ⟨g, k * 2 + 1, none⟩) hg).trans b1⟩
      clear hK K
      refine Ln.take_at 14 3 (.slice A4 (k + 1) c4) rfl rfl (by kernel_rfl) (by kernel_rfl) (by kernel_rfl) (fun _ _ _ h => h) (Or.inl ⟨by rfl, ?_⟩) (by assumption) ?_
      · intro W0 hSw
        (try dsimp only at hSw)
        go_simp
      simp only [List.set_cons_zero, List.set_cons_succ]
      refine wpAnyH_done (by kernel_rfl) ?_ _
      refine NoPanic.normal ?_
      go_wp2_with fail
      go_roundw
      case rel => exact ⟨k + 1, by go_num, by omega, by rw [HT.out, rcs_append, rcs_one4]; exact HO4.out, HB10.out⟩
      case measure => simp [intOf]; omega
    · obtain rfl : k = n := by omega
      have e : l.take k = l := List.take_of_length_le (by rw [HN.out]; exact Nat.le_refl _)
      rw [e] at ho
      have HO2 := Lib.hid ho
      clear ho hB HO e
      go_wp2_with fail
      go_ret
      exact ⟨_, rfl, HO2.out, HB.out⟩

end Go.Proofs.Ytcdecglbkcllaaa

namespace Go.Proofs.Ytcdecglbkcllaaa
open Go.RowKit

theorem bandL_snoc (y h : Int) (l : List Span) (s : Span) : bandL y h (l ++ [s]) = bandL y h l ++ [⟨s.1, y, s.2 - s.1, h⟩] := by simp [bandL]
theorem bandL_len (y h : Int) (l : List Span) : (bandL y h l).length = l.length := by simp [bandL]
theorem spGo_step {C : Int → Bool} {acc : List Span} {xs : List Int} {k : Nat} {a b : Int} (ha : xs[k]? = some a) (hb : xs[k + 1]? = some b) : spGo C acc (xs.drop k) = spGo C (if C a then spAdd acc a b else acc) (xs.drop (k + 1)) := by
  have e1 : xs.drop k = a :: xs.drop (k + 1) := by
    obtain ⟨h, rfl⟩ := List.getElem?_eq_some_iff.1 ha
    exact List.drop_eq_getElem_cons h
  have e2 : xs.drop (k + 1) = b :: xs.drop (k + 1 + 1) := by
    obtain ⟨h, rfl⟩ := List.getElem?_eq_some_iff.1 hb
    exact List.drop_eq_getElem_cons h
  rw [e1, e2]
  rfl
theorem spGo_end {C : Int → Bool} {acc : List Span} {xs : List Int} {k : Nat} (h : xs.length ≤ k + 1) : spGo C acc (xs.drop k) = acc := by
  have : (xs.drop k).length ≤ 1 := by rw [List.length_drop]; omega
  match xs.drop k, this with
  | [], _ => rfl
  | [_], _ => rfl
  | _ :: _ :: _, h => simp at h
/-- spans within bounds. -/
def SpB (acc : List Span) : Prop := ∀ s ∈ acc, (-1048576 ≤ s.1 ∧ s.1 ≤ 1048576) ∧ -1048576 ≤ s.2 ∧ s.2 ≤ 1048576
theorem SpB.add {acc : List Span} {a b : Int} (h : SpB acc) (ha : -1048576 ≤ a ∧ a ≤ 1048576) (hb : -1048576 ≤ b ∧ b ≤ 1048576) : SpB (spAdd acc a b) := by
  by_cases h0 : acc = []
  · subst h0
    intro s hs
    simp only [spAdd_nil, List.mem_singleton] at hs
    subst hs
    exact ⟨ha, hb⟩
  · obtain ⟨l, s, rfl⟩ : ∃ l s, acc = l ++ [s] := ⟨acc.dropLast, acc.getLast h0, (List.dropLast_concat_getLast h0).symm⟩
    have hs := h s (by simp)
    rw [spAdd_last]
    split
    · intro q hq
      rcases List.mem_append.1 hq with hq | hq
      · exact h q (by simp [hq])
      · simp only [List.mem_singleton] at hq
        subst hq
        exact ⟨hs.1, hb⟩
    · intro q hq
      rcases List.mem_append.1 hq with hq | hq
      · exact h q hq
      · simp only [List.mem_singleton] at hq
        subst hq
        exact ⟨ha, hb⟩
theorem spAdd_len (acc : List Span) (a b : Int) : (spAdd acc a b).length ≤ acc.length + 1 := by
  by_cases h0 : acc = []
  · subst h0; simp [spAdd_nil]
  · obtain ⟨l, s, rfl⟩ : ∃ l s, acc = l ++ [s] := ⟨acc.dropLast, acc.getLast h0, (List.dropLast_concat_getLast h0).symm⟩
    rw [spAdd_last]
    split <;> simp

set_option maxRecDepth 100000 in
set_option maxHeartbeats 8000000 in
theorem rspans_any (A Ax : Option Addr) (n c nx cx : Nat) (rs : List RC) (xs : List Int) (y h : Int) (w : World) (hn : n ≤ 100000) (hr : RdR w A n rs) (hnx : nx ≤ 1000000) (hx : Rd w Ax nx (I64 xs)) (hb : ∀ x ∈ xs, -1048576 ≤ x ∧ x ≤ 1048576) :
    Calls Try.prog 46 #[.slice A n c, .slice Ax nx cx, .int .i64 y, .int .i64 h] w fun e w' => ∃ v', e = .returned v' ∧ w'.ownsRow w.heap.size 45 4 v' (spGo (fun x => covB rs x y) [] xs).length (rcs (bandL y h (spGo (fun x => covB rs x y) [] xs))) ∧ Below w.heap.size w w' := by
  obtain ⟨i0, hi, hz0, hz1, hz2⟩ := info_parts Try.infoR2
  have HR := Lib.hid hr
  have HX := Lib.hid hx
  have HXL := Lib.hid (show xs.length = nx by have := hx.1; simpa [I64] using this)
  have HBD0 := Lib.hid hb
  obtain ⟨C, hC⟩ : ∃ C : Int → Bool, (fun x => covB rs x y) = C := ⟨_, rfl⟩
  have HCC := Lib.hid (show ∀ x, covB rs x y = C x from fun x => by rw [← hC])
  rw [hC]
  clear hr hx hb hC
  go_enter Try.func46, Try.ntmps46
  go_wp2_with fail
  go_loopw [9, 10] (fun vo i wr => ∃ (k : Nat) (acc : List Span), i = .int .i64 k ∧ (k = 0 ∨ k + 1 ≤ nx) ∧ acc.length ≤ k ∧ SpB acc ∧ spGo C acc (xs.drop k) = spGo C [] xs ∧ wr.ownsRow w.heap.size 45 4 vo acc.length (rcs (bandL y h acc)) ∧ Below w.heap.size w wr) (fun _ i _ => nx - (intOf i).toNat)
  case atStart => exact ⟨0, [], rfl, .inl rfl, Nat.le_refl _, (fun s hs => by cases hs), rfl, by simpa [bandL, rcs] using World.ownsRow_nil w w.heap.size 45 4, bre w⟩
  case round =>
    obtain ⟨k, acc, rfl, hk, hal, hsb, hgo, ho, hB⟩ := hrel
    have HO := Lib.hid ho
    have HB := Lib.hid hB
    have HGO := Lib.hid hgo
    have HSB := Lib.hid hsb
    have hBs := hB.size
    by_cases hlt : k + 1 < nx
    · obtain ⟨a, ha⟩ : ∃ a, xs[k]? = some a := ⟨_, List.getElem?_eq_getElem (by have := HXL.out; omega)⟩
      obtain ⟨b, hb⟩ : ∃ b, xs[k + 1]? = some b := ⟨_, List.getElem?_eq_getElem (by have := HXL.out; omega)⟩
      obtain ⟨bx, offx, rfl, hbx0, hcx⟩ := HX.out.2 (by omega)
      have hab := HBD0.out a (List.mem_of_getElem? ha)
      have hbb := HBD0.out b (List.mem_of_getElem? hb)
      have f0 := hcx k _ (I64_at ha)
      have f1 := hcx (k + 1) _ (I64_at hb)
      have hbx : bx < w.heap.size := hbx0
      have a0 := (hB.cell (p := ⟨bx, offx + k, none⟩) hbx).trans f0
      have a1 := (hB.cell (p := ⟨bx, offx + (k + 1), none⟩) hbx).trans f1
      have HST := Lib.hid (spGo_step (C := C) (acc := acc) ha hb)
      have k1 : (k : Int) + 1 < (nx : Int) := by omega
      have k2 : (k : Int) < (nx : Int) := by omega
      have k3 : ((k + 1 : Nat) : Int) < (nx : Int) := by omega
      have k0 : (0 : Int) ≤ (k : Int) := by omega
      have k4 : (0 : Int) ≤ (k : Int) + 1 := by omega
      have k5 : ((k : Int) + 1 < 0) = False := by simp; omega
      have kw : IntKind.i64.wrap ((k : Int) + 1) = ((k + 1 : Nat) : Int) := by rw [show (k : Int) + 1 = ((k + 1 : Nat) : Int) from by omega]; exact IntWalk.i64_in _ (by omega)
      obtain ⟨Ao, co, hvo, _⟩ := own_form ho
      subst hvo
      clear ho hB hgo hsb ha hb hcx
      cases hca : C a
      · have HS2 := Lib.hid (show spGo C acc (xs.drop (k + 1)) = spGo C [] xs by rw [← HGO.out, HST.out, hca]; rfl)
        have HCA := Lib.hid ((HCC.out a).trans hca)
        clear hca
        go_wp2_with (go_at_call 70; refine (rhas_any A n c rs a y _ (by omega) (HR.out.below HB.out)).mono ?_; rintro e w2 ⟨rfl, hb2⟩; rw [HCA.out]; have HB2 := Lib.hid hb2; clear hb2)
        go_roundw
        case rel => exact ⟨k + 1, acc, by go_num, by omega, by omega, HSB.out, HS2.out, ownsRow_below HO.out HB2.out, bstep HB.out HB2.out⟩
        case measure => simp [intOf]; omega
      · have HS2 := Lib.hid (show spGo C (spAdd acc a b) (xs.drop (k + 1)) = spGo C [] xs by rw [← HGO.out, HST.out, hca]; rfl)
        have HSB2 := Lib.hid (HSB.out.add hab hbb)
        have HCA := Lib.hid ((HCC.out a).trans hca)
        have hAL := spAdd_len acc a b
        clear hca
        go_upto_region 7 with (go_at_call 70; refine (rhas_any A n c rs a y _ (by omega) (HR.out.below HB.out)).mono ?_; rintro e D ⟨rfl, hb2⟩; rw [HCA.out]; have HB2 := Lib.hid hb2; clear hb2)
        have OD := Lib.hid (ownsRow_below HO.out HB2.out)
        have HBD := Lib.hid (bstep HB.out HB2.out)
        have hDs := HBD.out.size
        have e0 := (HBD.out.cell (p := ⟨bx, offx + k, none⟩) hbx).trans f0
        have e1 := (HBD.out.cell (p := ⟨bx, offx + (k + 1), none⟩) hbx).trans f1
        have hbD : bx < D.heap.size := by omega
        clear a0 a1 HO HB HB2
        have wab : IntKind.i64.wrap (b - a) = b - a := IntWalk.i64_in _ (by omega)
        rcases List.eq_nil_or_concat acc with h0 | ⟨l0, s, h0⟩
        · subst h0
          have HE := Lib.hid (spAdd_nil a b)
          go_quiet (fail)
          go_upto_region 9 with fail
          generalize hK0 : ([] : List Span).length = K0 at OD ⊢
          have HBD1 := Lib.hid (show Below w.heap.size w (D.drewN nq) from below_drewN HBD.out nq)
          have OD1 := Lib.hid (show (D.drewN nq).ownsRow _ _ _ _ _ _ from OD.out)
          replace e0 : (D.drewN nq).cell? ⟨bx, offx + k, none⟩ = _ := e0
          replace e1 : (D.drewN nq).cell? ⟨bx, offx + (k + 1), none⟩ = _ := e1
          replace hbD : bx < (D.drewN nq).heap.size := hbD
          replace hDs : w.heap.size ≤ (D.drewN nq).heap.size := hDs
          obtain ⟨D1, hD1⟩ : ∃ D1, D.drewN nq = D1 := ⟨_, rfl⟩
          rw [hD1] at HBD1 OD1 e0 e1 hbD hDs ⊢
          clear hD1 HBD OD
          refine wp_region_noPanic ?_
          refine wp_region_held_drew (S := (fun w' => w'.cell? ⟨bx, offx + k, none⟩ = some (.int .i64 a) ∧ w'.cell? ⟨bx, offx + (k + 1), none⟩ = some (.int .i64 b))) (by kernel_rfl) ?_ (fun hHeld => ?_)
          · (try dsimp only)
            exact ⟨e0, e1⟩
          refine take_at 0 68 (.slice Ao K0 co) rfl rfl (by kernel_rfl) (by kernel_rfl) (by kernel_rfl) (fun _ _ _ h => h) (Or.inl ⟨by rfl, ?_⟩) (by assumption) ?_
          · intro W0 hSw
            (try dsimp only at hSw)
            go_simp
          simp only [List.set_cons_zero, List.set_cons_succ]
          refine take_at 1 69 (.slice (some ⟨bx, offx, none⟩) nx cx) rfl rfl (by kernel_rfl) (by kernel_rfl) (by kernel_rfl) (fun _ _ _ h => h) (Or.inl ⟨by rfl, ?_⟩) (by assumption) ?_
          · intro W0 hSw
            (try dsimp only at hSw)
            go_simp
          simp only [List.set_cons_zero, List.set_cons_succ]
          refine take_at 2 70 (.int .i64 (k : Int)) rfl rfl (by kernel_rfl) (by kernel_rfl) (by kernel_rfl) (fun _ _ _ h => h) (Or.inl ⟨by rfl, ?_⟩) (by assumption) ?_
          · intro W0 hSw
            (try dsimp only at hSw)
            go_simp
          simp only [List.set_cons_zero, List.set_cons_succ]
          refine take_at 3 71 (.pointer (some ⟨bx, offx + k, none⟩)) rfl rfl (by kernel_rfl) (by kernel_rfl) (by kernel_rfl) (fun _ _ _ h => h) (Or.inl ⟨by rfl, ?_⟩) (by assumption) ?_
          · intro W0 hSw
            (try dsimp only at hSw)
            go_simp
          simp only [List.set_cons_zero, List.set_cons_succ]
          refine take_at 4 72 (.int .i64 a) rfl rfl (by kernel_rfl) (by kernel_rfl) (by kernel_rfl) (fun _ _ _ h => h) (Or.inl ⟨by rfl, ?_⟩) (by assumption) ?_
          · intro W0 hSw
            (try dsimp only at hSw)
            go_simp
          simp only [List.set_cons_zero, List.set_cons_succ]
          refine take_at 5 73 (.int .i64 y) rfl rfl (by kernel_rfl) (by kernel_rfl) (by kernel_rfl) (fun _ _ _ h => h) (Or.inl ⟨by rfl, ?_⟩) (by assumption) ?_
          · intro W0 hSw
            (try dsimp only at hSw)
            go_simp
          simp only [List.set_cons_zero, List.set_cons_succ]
          refine take_at 6 74 (.slice (some ⟨bx, offx, none⟩) nx cx) rfl rfl (by kernel_rfl) (by kernel_rfl) (by kernel_rfl) (fun _ _ _ h => h) (Or.inl ⟨by rfl, ?_⟩) (by assumption) ?_
          · intro W0 hSw
            (try dsimp only at hSw)
            go_simp
          simp only [List.set_cons_zero, List.set_cons_succ]
          refine take_at 7 75 (.int .i64 (k : Int)) rfl rfl (by kernel_rfl) (by kernel_rfl) (by kernel_rfl) (fun _ _ _ h => h) (Or.inl ⟨by rfl, ?_⟩) (by assumption) ?_
          · intro W0 hSw
            (try dsimp only at hSw)
            go_simp
          simp only [List.set_cons_zero, List.set_cons_succ]
          refine take_at 8 76 (.int .i64 ((k + 1 : Nat) : Int)) rfl rfl (by kernel_rfl) (by kernel_rfl) (by kernel_rfl) (fun _ _ _ h => h) (Or.inl ⟨by rfl, ?_⟩) (by assumption) ?_
          · intro W0 hSw
            (try dsimp only at hSw)
            go_simp
          simp only [List.set_cons_zero, List.set_cons_succ]
          refine take_at 9 77 (.pointer (some ⟨bx, offx + (k + 1), none⟩)) rfl rfl (by kernel_rfl) (by kernel_rfl) (by kernel_rfl) (fun _ _ _ h => h) (Or.inl ⟨by rfl, ?_⟩) (by assumption) ?_
          · intro W0 hSw
            (try dsimp only at hSw)
            go_simp
          simp only [List.set_cons_zero, List.set_cons_succ]
          refine take_at 10 78 (.int .i64 b) rfl rfl (by kernel_rfl) (by kernel_rfl) (by kernel_rfl) (fun _ _ _ h => h) (Or.inl ⟨by rfl, ?_⟩) (by assumption) ?_
          · intro W0 hSw
            (try dsimp only at hSw)
            go_simp
          simp only [List.set_cons_zero, List.set_cons_succ]
          refine take_at 11 79 (.slice (some ⟨bx, offx, none⟩) nx cx) rfl rfl (by kernel_rfl) (by kernel_rfl) (by kernel_rfl) (fun _ _ _ h => h) (Or.inl ⟨by rfl, ?_⟩) (by assumption) ?_
          · intro W0 hSw
            (try dsimp only at hSw)
            go_simp
          simp only [List.set_cons_zero, List.set_cons_succ]
          refine take_at 12 80 (.int .i64 (k : Int)) rfl rfl (by kernel_rfl) (by kernel_rfl) (by kernel_rfl) (fun _ _ _ h => h) (Or.inl ⟨by rfl, ?_⟩) (by assumption) ?_
          · intro W0 hSw
            (try dsimp only at hSw)
            go_simp
          simp only [List.set_cons_zero, List.set_cons_succ]
          refine take_at 13 81 (.pointer (some ⟨bx, offx + k, none⟩)) rfl rfl (by kernel_rfl) (by kernel_rfl) (by kernel_rfl) (fun _ _ _ h => h) (Or.inl ⟨by rfl, ?_⟩) (by assumption) ?_
          · intro W0 hSw
            (try dsimp only at hSw)
            go_simp
          simp only [List.set_cons_zero, List.set_cons_succ]
          refine take_at 14 82 (.int .i64 a) rfl rfl (by kernel_rfl) (by kernel_rfl) (by kernel_rfl) (fun _ _ _ h => h) (Or.inl ⟨by rfl, ?_⟩) (by assumption) ?_
          · intro W0 hSw
            (try dsimp only at hSw)
            go_simp
          simp only [List.set_cons_zero, List.set_cons_succ]
          refine take_at 15 83 (.int .i64 (b - a)) rfl rfl (by kernel_rfl) (by kernel_rfl) (by kernel_rfl) (fun _ _ _ h => h) (Or.inl ⟨by rfl, ?_⟩) (by assumption) ?_
          · intro W0 hSw
            (try dsimp only at hSw)
            go_simp
          simp only [List.set_cons_zero, List.set_cons_succ]
          refine take_at 16 84 (.int .i64 h) rfl rfl (by kernel_rfl) (by kernel_rfl) (by kernel_rfl) (fun _ _ _ h => h) (Or.inl ⟨by rfl, ?_⟩) (by assumption) ?_
          · intro W0 hSw
            (try dsimp only at hSw)
            go_simp
          simp only [List.set_cons_zero, List.set_cons_succ]
          refine take_at 17 85 (.agg #[.int .i64 a, .int .i64 y, .int .i64 (b - a), .int .i64 h]) rfl rfl (by kernel_rfl) (by kernel_rfl) (by kernel_rfl) (fun _ _ _ h => h) (Or.inl ⟨by rfl, ?_⟩) (by assumption) ?_
          · intro W0 hSw
            (try dsimp only at hSw)
            go_simp
          simp only [List.set_cons_zero, List.set_cons_succ]
          refine wpAnyH_ready (rs := [18]) (by kernel_rfl) (by simp) ?_
          refine AllReadyH.cons rfl (fun K hK => ?_) AllReadyH.nil
          go_simp
          have O9 := Lib.hid (OD1.out.drew.alloc (.cells #[.int .i64 a, .int .i64 y, .int .i64 (b - a), .int .i64 h] 45))
          have HB9 := Lib.hid (bal ((bre D1).drew) (.cells #[.int .i64 a, .int .i64 y, .int .i64 (b - a), .int .i64 h] 45))
          refine hK.out _ _ ?_ (fun hHeld => ?_)
          · (try dsimp only)
            exact ⟨(HB9.out.cell (p := ⟨bx, offx + k, none⟩) hbD).trans e0, (HB9.out.cell (p := ⟨bx, offx + (k + 1), none⟩) hbD).trans e1⟩
          clear hK K
          refine wpAnyH_ready (rs := [19]) (by kernel_rfl) (by simp) ?_
          refine AllReadyH.cons rfl (fun K hK => ?_) AllReadyH.nil
          have hsz1 : w.heap.size ≤ (D1.drew.alloc (.cells #[.int .i64 a, .int .i64 y, .int .i64 (b - a), .int .i64 h] 45)).heap.size := by
            have : D1.drew.heap.size = D1.heap.size := rfl
            rw [World.size_alloc, this]
            omega
          refine wanted_plain rfl ?_
          refine wp_append_own _ _ _ 52 rfl w.heap.size 45 i0 _ 4 32 Try.underlying52 hi hz0 hz1 hz2 rfl (by decide) _ _ _ rfl O9.out ⟨D1.heap.size, 0, none⟩ 1 1 [.int .i64 a, .int .i64 y, .int .i64 (b - a), .int .i64 h] rfl rfl (four_new2 _ _ _ _ _ _) (by simp [Value.oneCell']) (by simp only [maxLen]; omega) (by omega) hsz1 ?_
          intro v' w4 hown' hgrow _
          obtain ⟨A4, c4, hv4, _⟩ := own_form hown'
          subst hv4
          have HO4 := Lib.hid hown'
          have HB10 := Lib.hid ((bstep HBD1.out HB9.out).grown hgrow hsz1 (own_ge OD1.out))
          clear hown' hgrow
          refine hK.out _ _ ?_ (fun hHeld => ?_)
          · (try dsimp only)
            exact ⟨(HB10.out.cell (p := ⟨bx, offx + k, none⟩) hbx).trans f0, (HB10.out.cell (p := ⟨bx, offx + (k + 1), none⟩) hbx).trans f1⟩
          clear hK K
          refine take_at 20 9 (.slice A4 (K0 + 1) c4) rfl rfl (by kernel_rfl) (by kernel_rfl) (by kernel_rfl) (fun _ _ _ h => h) (Or.inl ⟨by rfl, ?_⟩) (by assumption) ?_
          · intro W0 hSw
            (try dsimp only at hSw)
            go_simp
          simp only [List.set_cons_zero, List.set_cons_succ]
          refine wpAnyH_done (by kernel_rfl) ?_ _
          refine NoPanic.normal ?_
          go_wp2_with fail
          go_roundw
          case rel => exact ⟨k + 1, [(a, b)], by go_num, by omega, by simp, by rw [← HE.out]; exact HSB2.out, by rw [← HE.out]; exact HS2.out, by subst hK0; exact HO4.out, HB10.out⟩
          case measure => simp [intOf]; omega
        · rw [List.concat_eq_append] at h0
          subst h0
          obtain ⟨kq, hK⟩ : ∃ kq, l0.length = kq := ⟨_, rfl⟩
          have hkl : (l0 ++ [s]).length = kq + 1 := by simp [hK]
          rw [hkl] at OD hal hAL ⊢
          rw [bandL_snoc] at OD
          obtain ⟨g, hg⟩ : ∃ g, Ao = some ⟨g, 0, none⟩ := by
            rcases OD.out.2 with ⟨e, _⟩ | ⟨g, _, _, e, _⟩
            · cases e
            · injection e with e _ _; exact ⟨g, e⟩
          subst hg
          obtain ⟨hBg, hnc, hcm, rest, hblk, hrl⟩ := own_rcs OD.out
          have hat := blk_at hblk (k := kq) (r := ⟨s.1, y, s.2 - s.1, h⟩) (by rw [List.getElem?_append_right (by rw [bandL_len]; omega)]; simp [bandL_len, hK])
          obtain ⟨o0, o1, o2, o3⟩ := hat
          have hs := HSB.out s (by simp)
          have ws : IntKind.i64.wrap (s.1 + (s.2 - s.1)) = s.2 := by rw [show s.1 + (s.2 - s.1) = s.2 from by omega]; exact IntWalk.i64_in _ (by omega)
          have wK : IntKind.i64.wrap ((kq : Int) + 1 - 1) = kq := by rw [show (kq : Int) + 1 - 1 = kq from by omega]; exact IntWalk.i64_in _ (by omega)
          have wK2 : IntKind.i64.wrap (((kq + 1 : Nat) : Int) - 1) = kq := by rw [show ((kq + 1 : Nat) : Int) - 1 = kq from by omega]; exact IntWalk.i64_in _ (by omega)
          have wK3 : IntKind.i64.wrap (kq : Int) = kq := IntWalk.i64_in _ (by omega)
          have wbs : IntKind.i64.wrap (b - s.1) = b - s.1 := IntWalk.i64_in _ (by omega)
          have q1 : (kq : Int) < (kq : Int) + 1 := by omega
          have q0 : (0 : Int) ≤ (kq : Int) := by omega
          have z2 := hblk.frozen (kq * 4 + 2)
          have HBK := Lib.hid hblk
          have HRL := Lib.hid hrl
          have HKK := Lib.hid hK
          clear hblk hrl o1 o3 hK
          by_cases hsa : s.2 = a
          · have d2 : (s.2 == a) = true := by simp [hsa]
            have HE := Lib.hid (show spAdd (l0 ++ [s]) a b = l0 ++ [(s.1, b)] by rw [spAdd_last, if_pos hsa])
            go_quiet (fail)
            go_upto_region 8 with fail
            have HBD1 := Lib.hid (show Below w.heap.size w (D.drewN nq) from below_drewN HBD.out nq)
            have OD1 := Lib.hid (show (D.drewN nq).ownsRow _ _ _ _ _ _ from OD.out)
            replace e0 : (D.drewN nq).cell? ⟨bx, offx + k, none⟩ = _ := e0
            replace e1 : (D.drewN nq).cell? ⟨bx, offx + (k + 1), none⟩ = _ := e1
            replace hbD : bx < (D.drewN nq).heap.size := hbD
            replace hDs : w.heap.size ≤ (D.drewN nq).heap.size := hDs
            replace o0 : (D.drewN nq).cell? ⟨g, kq * 4, none⟩ = _ := o0
            replace o2 : (D.drewN nq).cell? ⟨g, kq * 4 + 2, none⟩ = _ := o2
            replace z2 : (D.drewN nq).frozen? ⟨g, kq * 4 + 2, none⟩ = false := z2
            have BK1 := Lib.hid (show Blk (D.drewN nq) g _ _ from HBK.out)
            obtain ⟨D1, hD1⟩ : ∃ D1, D.drewN nq = D1 := ⟨_, rfl⟩
            rw [hD1] at HBD1 OD1 e0 e1 hbD hDs o0 o2 z2 BK1 ⊢
            clear hD1 HBD OD
            have hbne : bx ≠ g := by omega
            refine wp_region_noPanic ?_
            refine wp_region_held_drew (S := (fun w' => w'.cell? ⟨bx, offx + (k + 1), none⟩ = some (.int .i64 b) ∧ w'.cell? ⟨g, kq * 4, none⟩ = some (.int .i64 s.1))) (by kernel_rfl) ?_ (fun hHeld => ?_)
            · (try dsimp only)
              exact ⟨e1, o0⟩
            refine take_at 0 51 (.slice (some ⟨g, 0, none⟩) (kq + 1) co) rfl rfl (by kernel_rfl) (by kernel_rfl) (by kernel_rfl) (fun _ _ _ h => h) (Or.inl ⟨by rfl, ?_⟩) (by assumption) ?_
            · intro W0 hSw
              (try dsimp only at hSw)
              go_simp
            simp only [List.set_cons_zero, List.set_cons_succ]
            refine take_at 1 52 (.int .i64 ((kq + 1 : Nat) : Int)) rfl rfl (by kernel_rfl) (by kernel_rfl) (by kernel_rfl) (fun _ _ _ h => h) (Or.inl ⟨by rfl, ?_⟩) (by assumption) ?_
            · intro W0 hSw
              (try dsimp only at hSw)
              go_simp
            simp only [List.set_cons_zero, List.set_cons_succ]
            refine take_at 2 53 (.int .i64 (kq : Int)) rfl rfl (by kernel_rfl) (by kernel_rfl) (by kernel_rfl) (fun _ _ _ h => h) (Or.inl ⟨by rfl, ?_⟩) (by assumption) ?_
            · intro W0 hSw
              (try dsimp only at hSw)
              go_simp
            simp only [List.set_cons_zero, List.set_cons_succ]
            refine take_at 3 54 (.slice (some ⟨bx, offx, none⟩) nx cx) rfl rfl (by kernel_rfl) (by kernel_rfl) (by kernel_rfl) (fun _ _ _ h => h) (Or.inl ⟨by rfl, ?_⟩) (by assumption) ?_
            · intro W0 hSw
              (try dsimp only at hSw)
              go_simp
            simp only [List.set_cons_zero, List.set_cons_succ]
            refine take_at 4 55 (.int .i64 (k : Int)) rfl rfl (by kernel_rfl) (by kernel_rfl) (by kernel_rfl) (fun _ _ _ h => h) (Or.inl ⟨by rfl, ?_⟩) (by assumption) ?_
            · intro W0 hSw
              (try dsimp only at hSw)
              go_simp
            simp only [List.set_cons_zero, List.set_cons_succ]
            refine take_at 5 56 (.int .i64 ((k + 1 : Nat) : Int)) rfl rfl (by kernel_rfl) (by kernel_rfl) (by kernel_rfl) (fun _ _ _ h => h) (Or.inl ⟨by rfl, ?_⟩) (by assumption) ?_
            · intro W0 hSw
              (try dsimp only at hSw)
              go_simp
            simp only [List.set_cons_zero, List.set_cons_succ]
            refine take_at 6 57 (.pointer (some ⟨bx, offx + (k + 1), none⟩)) rfl rfl (by kernel_rfl) (by kernel_rfl) (by kernel_rfl) (fun _ _ _ h => h) (Or.inl ⟨by rfl, ?_⟩) (by assumption) ?_
            · intro W0 hSw
              (try dsimp only at hSw)
              go_simp
            simp only [List.set_cons_zero, List.set_cons_succ]
            refine take_at 7 58 (.int .i64 b) rfl rfl (by kernel_rfl) (by kernel_rfl) (by kernel_rfl) (fun _ _ _ h => h) (Or.inl ⟨by rfl, ?_⟩) (by assumption) ?_
            · intro W0 hSw
              (try dsimp only at hSw)
              go_simp
            simp only [List.set_cons_zero, List.set_cons_succ]
            refine take_at 8 59 (.slice (some ⟨g, 0, none⟩) (kq + 1) co) rfl rfl (by kernel_rfl) (by kernel_rfl) (by kernel_rfl) (fun _ _ _ h => h) (Or.inl ⟨by rfl, ?_⟩) (by assumption) ?_
            · intro W0 hSw
              (try dsimp only at hSw)
              go_simp
            simp only [List.set_cons_zero, List.set_cons_succ]
            refine take_at 9 60 (.int .i64 ((kq + 1 : Nat) : Int)) rfl rfl (by kernel_rfl) (by kernel_rfl) (by kernel_rfl) (fun _ _ _ h => h) (Or.inl ⟨by rfl, ?_⟩) (by assumption) ?_
            · intro W0 hSw
              (try dsimp only at hSw)
              go_simp
            simp only [List.set_cons_zero, List.set_cons_succ]
            refine take_at 10 61 (.int .i64 (kq : Int)) rfl rfl (by kernel_rfl) (by kernel_rfl) (by kernel_rfl) (fun _ _ _ h => h) (Or.inl ⟨by rfl, ?_⟩) (by assumption) ?_
            · intro W0 hSw
              (try dsimp only at hSw)
              go_simp
            simp only [List.set_cons_zero, List.set_cons_succ]
            refine take_at 11 62 (.pointer (some ⟨g, kq * 4, none⟩)) rfl rfl (by kernel_rfl) (by kernel_rfl) (by kernel_rfl) (fun _ _ _ h => h) (Or.inl ⟨by rfl, ?_⟩) (by assumption) ?_
            · intro W0 hSw
              (try dsimp only at hSw)
              go_simp
            simp only [List.set_cons_zero, List.set_cons_succ]
            refine take_at 12 63 (.pointer (some ⟨g, kq * 4, none⟩)) rfl rfl (by kernel_rfl) (by kernel_rfl) (by kernel_rfl) (fun _ _ _ h => h) (Or.inl ⟨by rfl, ?_⟩) (by assumption) ?_
            · intro W0 hSw
              (try dsimp only at hSw)
              go_simp
            simp only [List.set_cons_zero, List.set_cons_succ]
            refine take_at 13 64 (.int .i64 s.1) rfl rfl (by kernel_rfl) (by kernel_rfl) (by kernel_rfl) (fun _ _ _ h => h) (Or.inl ⟨by rfl, ?_⟩) (by assumption) ?_
            · intro W0 hSw
              (try dsimp only at hSw)
              go_simp
            simp only [List.set_cons_zero, List.set_cons_succ]
            refine take_at 14 65 (.int .i64 (b - s.1)) rfl rfl (by kernel_rfl) (by kernel_rfl) (by kernel_rfl) (fun _ _ _ h => h) (Or.inl ⟨by rfl, ?_⟩) (by assumption) ?_
            · intro W0 hSw
              (try dsimp only at hSw)
              go_simp
            simp only [List.set_cons_zero, List.set_cons_succ]
            refine take_at 15 66 (.pointer (some ⟨g, kq * 4, none⟩)) rfl rfl (by kernel_rfl) (by kernel_rfl) (by kernel_rfl) (fun _ _ _ h => h) (Or.inl ⟨by rfl, ?_⟩) (by assumption) ?_
            · intro W0 hSw
              (try dsimp only at hSw)
              go_simp
            simp only [List.set_cons_zero, List.set_cons_succ]
            refine take_at 16 67 (.pointer (some ⟨g, kq * 4 + 2, none⟩)) rfl rfl (by kernel_rfl) (by kernel_rfl) (by kernel_rfl) (fun _ _ _ h => h) (Or.inl ⟨by rfl, ?_⟩) (by assumption) ?_
            · intro W0 hSw
              (try dsimp only at hSw)
              go_simp
            simp only [List.set_cons_zero, List.set_cons_succ]
            refine wpAnyH_ready (rs := [17]) (by kernel_rfl) (by simp) ?_
            refine AllReadyH.cons rfl (fun K hK => ?_) AllReadyH.nil
            go_simp
            refine hK.out _ _ ?_ (fun hHeld => ?_)
            · (try dsimp only)
              exact ⟨(World.cell?_setCell_other _ _ _ _ (by intro e; injection e with q1 q2; omega)).trans e1, (World.cell?_setCell_other _ _ _ _ (by intro e; injection e with q1 q2; omega)).trans o0⟩
            clear hK K
            refine wpAnyH_done (by kernel_rfl) ?_ _
            refine NoPanic.normal ?_
            go_wp2_with fail
            go_roundw
            case rel =>
              have hb5 := blk_set1 (k := kq) ⟨s.1, y, b - s.1, h⟩ BK1.out (by rw [bandL_len]; exact HKK.out) 2 (.int .i64 (b - s.1)) rfl
              have hlen : (bandL y h l0 ++ [(⟨s.1, y, b - s.1, h⟩ : RC)]).length = kq + 1 := by simp [bandL_len, HKK.out]
              refine ⟨k + 1, l0 ++ [(s.1, b)], by go_num, by omega, (by simp only [List.length_append, List.length_singleton, HKK.out]; omega), by rw [← HE.out]; exact HSB2.out, by rw [← HE.out]; exact HS2.out, ?_, (bset HBD1.out (p := ⟨g, kq * 4 + 2, none⟩) hBg (.int .i64 (b - s.1))).drew⟩
              rw [show (l0 ++ [(s.1, b)]).length = kq + 1 from by simp [HKK.out], bandL_snoc]
              refine rcs_own hBg hnc hcm hb5 ?_ ?_ hlen
              · have := HRL.out
                rw [List.length_append, rcs_len] at this ⊢
                rw [hlen]
                simp [bandL_len, HKK.out] at this
                omega
              · rw [List.take_append_of_le_length (by rw [rcs_len, hlen]; omega), List.take_of_length_le (by rw [rcs_len, hlen]; omega)]
            case measure => simp [intOf]; omega
          · have d2 : (s.2 == a) = false := by simp [hsa]
            have HE := Lib.hid (show spAdd (l0 ++ [s]) a b = l0 ++ [s] ++ [(a, b)] by rw [spAdd_last, if_neg hsa])
            go_quiet (fail)
            go_upto_region 9 with fail
            have HBD1 := Lib.hid (show Below w.heap.size w (D.drewN nq) from below_drewN HBD.out nq)
            have OD1 := Lib.hid (show (D.drewN nq).ownsRow _ _ _ _ _ _ from OD.out)
            replace e0 : (D.drewN nq).cell? ⟨bx, offx + k, none⟩ = _ := e0
            replace e1 : (D.drewN nq).cell? ⟨bx, offx + (k + 1), none⟩ = _ := e1
            replace hbD : bx < (D.drewN nq).heap.size := hbD
            replace hDs : w.heap.size ≤ (D.drewN nq).heap.size := hDs
            obtain ⟨D1, hD1⟩ : ∃ D1, D.drewN nq = D1 := ⟨_, rfl⟩
            rw [hD1] at HBD1 OD1 e0 e1 hbD hDs ⊢
            clear hD1 HBD OD
            refine wp_region_noPanic ?_
            refine wp_region_held_drew (S := (fun w' => w'.cell? ⟨bx, offx + k, none⟩ = some (.int .i64 a) ∧ w'.cell? ⟨bx, offx + (k + 1), none⟩ = some (.int .i64 b))) (by kernel_rfl) ?_ (fun hHeld => ?_)
            · (try dsimp only)
              exact ⟨e0, e1⟩
            refine take_at 0 68 (.slice (some ⟨g, 0, none⟩) (kq + 1) co) rfl rfl (by kernel_rfl) (by kernel_rfl) (by kernel_rfl) (fun _ _ _ h => h) (Or.inl ⟨by rfl, ?_⟩) (by assumption) ?_
            · intro W0 hSw
              (try dsimp only at hSw)
              go_simp
            simp only [List.set_cons_zero, List.set_cons_succ]
            refine take_at 1 69 (.slice (some ⟨bx, offx, none⟩) nx cx) rfl rfl (by kernel_rfl) (by kernel_rfl) (by kernel_rfl) (fun _ _ _ h => h) (Or.inl ⟨by rfl, ?_⟩) (by assumption) ?_
            · intro W0 hSw
              (try dsimp only at hSw)
              go_simp
            simp only [List.set_cons_zero, List.set_cons_succ]
            refine take_at 2 70 (.int .i64 (k : Int)) rfl rfl (by kernel_rfl) (by kernel_rfl) (by kernel_rfl) (fun _ _ _ h => h) (Or.inl ⟨by rfl, ?_⟩) (by assumption) ?_
            · intro W0 hSw
              (try dsimp only at hSw)
              go_simp
            simp only [List.set_cons_zero, List.set_cons_succ]
            refine take_at 3 71 (.pointer (some ⟨bx, offx + k, none⟩)) rfl rfl (by kernel_rfl) (by kernel_rfl) (by kernel_rfl) (fun _ _ _ h => h) (Or.inl ⟨by rfl, ?_⟩) (by assumption) ?_
            · intro W0 hSw
              (try dsimp only at hSw)
              go_simp
            simp only [List.set_cons_zero, List.set_cons_succ]
            refine take_at 4 72 (.int .i64 a) rfl rfl (by kernel_rfl) (by kernel_rfl) (by kernel_rfl) (fun _ _ _ h => h) (Or.inl ⟨by rfl, ?_⟩) (by assumption) ?_
            · intro W0 hSw
              (try dsimp only at hSw)
              go_simp
            simp only [List.set_cons_zero, List.set_cons_succ]
            refine take_at 5 73 (.int .i64 y) rfl rfl (by kernel_rfl) (by kernel_rfl) (by kernel_rfl) (fun _ _ _ h => h) (Or.inl ⟨by rfl, ?_⟩) (by assumption) ?_
            · intro W0 hSw
              (try dsimp only at hSw)
              go_simp
            simp only [List.set_cons_zero, List.set_cons_succ]
            refine take_at 6 74 (.slice (some ⟨bx, offx, none⟩) nx cx) rfl rfl (by kernel_rfl) (by kernel_rfl) (by kernel_rfl) (fun _ _ _ h => h) (Or.inl ⟨by rfl, ?_⟩) (by assumption) ?_
            · intro W0 hSw
              (try dsimp only at hSw)
              go_simp
            simp only [List.set_cons_zero, List.set_cons_succ]
            refine take_at 7 75 (.int .i64 (k : Int)) rfl rfl (by kernel_rfl) (by kernel_rfl) (by kernel_rfl) (fun _ _ _ h => h) (Or.inl ⟨by rfl, ?_⟩) (by assumption) ?_
            · intro W0 hSw
              (try dsimp only at hSw)
              go_simp
            simp only [List.set_cons_zero, List.set_cons_succ]
            refine take_at 8 76 (.int .i64 ((k + 1 : Nat) : Int)) rfl rfl (by kernel_rfl) (by kernel_rfl) (by kernel_rfl) (fun _ _ _ h => h) (Or.inl ⟨by rfl, ?_⟩) (by assumption) ?_
            · intro W0 hSw
              (try dsimp only at hSw)
              go_simp
            simp only [List.set_cons_zero, List.set_cons_succ]
            refine take_at 9 77 (.pointer (some ⟨bx, offx + (k + 1), none⟩)) rfl rfl (by kernel_rfl) (by kernel_rfl) (by kernel_rfl) (fun _ _ _ h => h) (Or.inl ⟨by rfl, ?_⟩) (by assumption) ?_
            · intro W0 hSw
              (try dsimp only at hSw)
              go_simp
            simp only [List.set_cons_zero, List.set_cons_succ]
            refine take_at 10 78 (.int .i64 b) rfl rfl (by kernel_rfl) (by kernel_rfl) (by kernel_rfl) (fun _ _ _ h => h) (Or.inl ⟨by rfl, ?_⟩) (by assumption) ?_
            · intro W0 hSw
              (try dsimp only at hSw)
              go_simp
            simp only [List.set_cons_zero, List.set_cons_succ]
            refine take_at 11 79 (.slice (some ⟨bx, offx, none⟩) nx cx) rfl rfl (by kernel_rfl) (by kernel_rfl) (by kernel_rfl) (fun _ _ _ h => h) (Or.inl ⟨by rfl, ?_⟩) (by assumption) ?_
            · intro W0 hSw
              (try dsimp only at hSw)
              go_simp
            simp only [List.set_cons_zero, List.set_cons_succ]
            refine take_at 12 80 (.int .i64 (k : Int)) rfl rfl (by kernel_rfl) (by kernel_rfl) (by kernel_rfl) (fun _ _ _ h => h) (Or.inl ⟨by rfl, ?_⟩) (by assumption) ?_
            · intro W0 hSw
              (try dsimp only at hSw)
              go_simp
            simp only [List.set_cons_zero, List.set_cons_succ]
            refine take_at 13 81 (.pointer (some ⟨bx, offx + k, none⟩)) rfl rfl (by kernel_rfl) (by kernel_rfl) (by kernel_rfl) (fun _ _ _ h => h) (Or.inl ⟨by rfl, ?_⟩) (by assumption) ?_
            · intro W0 hSw
              (try dsimp only at hSw)
              go_simp
            simp only [List.set_cons_zero, List.set_cons_succ]
            refine take_at 14 82 (.int .i64 a) rfl rfl (by kernel_rfl) (by kernel_rfl) (by kernel_rfl) (fun _ _ _ h => h) (Or.inl ⟨by rfl, ?_⟩) (by assumption) ?_
            · intro W0 hSw
              (try dsimp only at hSw)
              go_simp
            simp only [List.set_cons_zero, List.set_cons_succ]
            refine take_at 15 83 (.int .i64 (b - a)) rfl rfl (by kernel_rfl) (by kernel_rfl) (by kernel_rfl) (fun _ _ _ h => h) (Or.inl ⟨by rfl, ?_⟩) (by assumption) ?_
            · intro W0 hSw
              (try dsimp only at hSw)
              go_simp
            simp only [List.set_cons_zero, List.set_cons_succ]
            refine take_at 16 84 (.int .i64 h) rfl rfl (by kernel_rfl) (by kernel_rfl) (by kernel_rfl) (fun _ _ _ h => h) (Or.inl ⟨by rfl, ?_⟩) (by assumption) ?_
            · intro W0 hSw
              (try dsimp only at hSw)
              go_simp
            simp only [List.set_cons_zero, List.set_cons_succ]
            refine take_at 17 85 (.agg #[.int .i64 a, .int .i64 y, .int .i64 (b - a), .int .i64 h]) rfl rfl (by kernel_rfl) (by kernel_rfl) (by kernel_rfl) (fun _ _ _ h => h) (Or.inl ⟨by rfl, ?_⟩) (by assumption) ?_
            · intro W0 hSw
              (try dsimp only at hSw)
              go_simp
            simp only [List.set_cons_zero, List.set_cons_succ]
            refine wpAnyH_ready (rs := [18]) (by kernel_rfl) (by simp) ?_
            refine AllReadyH.cons rfl (fun K hK => ?_) AllReadyH.nil
            go_simp
            have O9 := Lib.hid (OD1.out.drew.alloc (.cells #[.int .i64 a, .int .i64 y, .int .i64 (b - a), .int .i64 h] 45))
            have HB9 := Lib.hid (bal ((bre D1).drew) (.cells #[.int .i64 a, .int .i64 y, .int .i64 (b - a), .int .i64 h] 45))
            refine hK.out _ _ ?_ (fun hHeld => ?_)
            · (try dsimp only)
              exact ⟨(HB9.out.cell (p := ⟨bx, offx + k, none⟩) hbD).trans e0, (HB9.out.cell (p := ⟨bx, offx + (k + 1), none⟩) hbD).trans e1⟩
            clear hK K
            refine wpAnyH_ready (rs := [19]) (by kernel_rfl) (by simp) ?_
            refine AllReadyH.cons rfl (fun K hK => ?_) AllReadyH.nil
            have hsz1 : w.heap.size ≤ (D1.drew.alloc (.cells #[.int .i64 a, .int .i64 y, .int .i64 (b - a), .int .i64 h] 45)).heap.size := by
              have : D1.drew.heap.size = D1.heap.size := rfl
              rw [World.size_alloc, this]
              omega
            refine wanted_plain rfl ?_
            refine wp_append_own _ _ _ 52 rfl w.heap.size 45 i0 _ 4 32 Try.underlying52 hi hz0 hz1 hz2 rfl (by decide) _ _ _ rfl O9.out ⟨D1.heap.size, 0, none⟩ 1 1 [.int .i64 a, .int .i64 y, .int .i64 (b - a), .int .i64 h] rfl rfl (four_new2 _ _ _ _ _ _) (by simp [Value.oneCell']) (by simp only [maxLen]; omega) (by omega) hsz1 ?_
            intro v' w4 hown' hgrow _
            obtain ⟨A4, c4, hv4, _⟩ := own_form hown'
            subst hv4
            have HO4 := Lib.hid hown'
            have HB10 := Lib.hid ((bstep HBD1.out HB9.out).grown hgrow hsz1 (own_ge OD1.out))
            clear hown' hgrow
            refine hK.out _ _ ?_ (fun hHeld => ?_)
            · (try dsimp only)
              exact ⟨(HB10.out.cell (p := ⟨bx, offx + k, none⟩) hbx).trans f0, (HB10.out.cell (p := ⟨bx, offx + (k + 1), none⟩) hbx).trans f1⟩
            clear hK K
            refine take_at 20 9 (.slice A4 ((kq + 1) + 1) c4) rfl rfl (by kernel_rfl) (by kernel_rfl) (by kernel_rfl) (fun _ _ _ h => h) (Or.inl ⟨by rfl, ?_⟩) (by assumption) ?_
            · intro W0 hSw
              (try dsimp only at hSw)
              go_simp
            simp only [List.set_cons_zero, List.set_cons_succ]
            refine wpAnyH_done (by kernel_rfl) ?_ _
            refine NoPanic.normal ?_
            go_wp2_with fail
            go_roundw
            case rel =>
              refine ⟨k + 1, l0 ++ [s] ++ [(a, b)], by go_num, by omega, by simp [HKK.out]; omega, by rw [← HE.out]; exact HSB2.out, by rw [← HE.out]; exact HS2.out, ?_, HB10.out⟩
              rw [show (l0 ++ [s] ++ [(a, b)]).length = kq + 1 + 1 from by simp [HKK.out], bandL_snoc, rcs_append, bandL_snoc]
              exact HO4.out
            case measure => simp [intOf]; omega
    · have HE := Lib.hid (spGo_end (C := C) (acc := acc) (k := k) (by rw [HXL.out]; omega))
      have d1 : decide (((k + 1 : Nat) : Int) < (nx : Int)) = false := by simp; omega
      have d1' : decide ((k : Int) + 1 < (nx : Int)) = false := by simp; omega
      have kw : IntKind.i64.wrap ((k : Int) + 1) = ((k + 1 : Nat) : Int) := by rw [show (k : Int) + 1 = ((k + 1 : Nat) : Int) from by omega]; exact IntWalk.i64_in _ (by omega)
      rw [HE.out] at hgo
      clear HGO HE HO hsb
      subst hgo
      have HOE := Lib.hid ho
      clear ho hB
      go_wp2_with fail
      go_ret
      exact ⟨_, rfl, HOE.out, HB.out⟩

end Go.Proofs.Ytcdecglbkcllaaa
