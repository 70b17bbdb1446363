/-
  The walk of a tree's Path.
-/
import Derived.Test.YtbfefkhejknmoaaGreatDoorCh13
import Derived.Test.YtbfefkhejknmoaaGreatDoorCh30
namespace Go.Proofs.YtbfefkhejknmoaaGreatDoor
open Go.RowKit Go.Maps Go.Shelf

theorem upv_wf {ns : Nodes} (h : okN ns) {i p : Int} (hp : upOf ns i = some p) : 0 ≤ p ∧ p ≤ 4294967295 := (h _ (upOf_some hp)).2
theorem path_ok {ns : Nodes} (hk : okN ns) (h : TreeOk ns) {id x : Int} (hid : 0 ≤ id ∧ id ≤ 4294967295) (hx : x ∈ pathN ns id) : 0 ≤ x ∧ x ≤ 4294967295 := by
  rcases hasN_iff.1 (path_has h hx) with e | ⟨p, hp⟩
  · rw [e]; omega
  · exact (hk _ (upOf_some hp)).1

set_option maxRecDepth 100000 in
set_option maxHeartbeats 4000000 in
theorem path_any (v : Value) (ns : Nodes) (mk mu : Option Nat) (nk : Nat) (fk : Int → Option Value) (id : Int) (w : World) (hid : 0 ≤ id ∧ id ≤ 4294967295) (h : TreeIs w v ns mk mu nk fk) (hok : TreeOk ns) :
    Calls Tryz.prog 18 #[v, .int .u32 id] w fun e w' => ∃ u, e = .returned u ∧ w'.ownsRow w.heap.size 27 1 u (pathN ns id).length (U32 (pathN ns id)) ∧ Below w.heap.size w w' := by
  obtain ⟨i0, hi0, hz0, hz1, hz2⟩ := info_parts Tryz.infoU
  have hv := h.shape
  subst hv
  have HT := Lib.hid h
  have HB0 := Lib.hid (bal (bre w) (.cells #[.map mk, .map mu] 35))
  have H0 := Lib.hid (Blk.new w 35 #[.map mk, .map mu])
  have hfew := h.few
  have HOK := Lib.hid hok
  clear h
  cases hi : hasN ns id
  · have HI := Lib.hid hi
    rw [path_none hi]
    clear hi
    go_enter Tryz.func18, Tryz.ntmps18
    go_wp2_with fail
    with_reducible refine (has_any _ ns mk mu nk fk _ _ hid (HT.out.below HB0.out)).mono ?_
    rintro e w1 ⟨rfl, hb1⟩
    rw [HI.out]
    have HB1 := Lib.hid hb1
    clear hb1
    go_wp2_with fail
    go_ret
    exact ⟨_, rfl, World.ownsRow_nil _ _ _ _, bstep HB0.out HB1.out⟩
  · have HI := Lib.hid hi
    clear hi
    go_enter Tryz.func18, Tryz.ntmps18
    go_wp2_with fail
    with_reducible refine (has_any _ ns mk mu nk fk _ _ hid (HT.out.below HB0.out)).mono ?_
    rintro e w1 ⟨rfl, hb1⟩
    rw [HI.out]
    have HB1 := Lib.hid (bstep HB0.out hb1)
    have H1 := Lib.hid (H0.out.belowS hb1)
    have hsz : w.heap.size < w1.heap.size := H1.out.lt
    have HT1 := Lib.hid (HT.out.below HB1.out)
    clear hb1
    go_wp2_with fail
    go_loopw [1, 5] (fun i v wr => ∃ (cur : Int) (pre : List Int), i = .int .u32 cur ∧ (0 ≤ cur ∧ cur ≤ 4294967295) ∧ hasN ns cur = true ∧ pathN ns id = pre ++ pathN ns cur ∧ wr.ownsRow w1.heap.size 27 1 v (pre.length + 1) (U32 (pre ++ [cur])) ∧ Below w1.heap.size w1 wr) (fun i _ _ => (pathN ns (intOf i)).length)
    case atStart =>
      exact ⟨id, [], rfl, hid, HI.out, rfl, blk_own (Blk.new w1 27 #[.int .u32 id]) (Nat.le_refl _) rfl (by simp [maxLen]), bal (bre w1) _⟩
    case round =>
      obtain ⟨cur, pre, rfl, hcur, hin, hpath, ho, hB⟩ := hrel
      have hlen := path_len HOK.out id
      rw [hpath, List.length_append] at hlen
      have HO := Lib.hid ho
      have HB := Lib.hid hB
      have HP := Lib.hid hpath
      have HS := Lib.hid hB.size
      have HC := Lib.hid hcur
      have HTR := Lib.hid (HT1.out.below (hB.mono (by have := HB1.out.size; omega)))
      have hc0 := (H1.out.belowS hB).cellV (i := 0) (v := .map mk) rfl
      have hc1 := (H1.out.belowS hB).cellV (i := 1) (v := .map mu) rfl
      clear ho hB hpath hcur
      by_cases hc : cur = 1
      · subst hc
        go_wp2_with fail
        go_ret
        have hp1 : pathN ns id = pre ++ [1] := by rw [HP.out, path_root HOK.out]
        rw [hp1]
        exact ⟨_, rfl, by simpa using own_lower HO.out (by omega), HB1.out.trans (HB.out.mono (by omega))⟩
      · have d1 : (cur != 1) = true := by simp [hc]
        obtain ⟨p, hp⟩ : ∃ p, upOf ns cur = some p := by
          rcases hasN_iff.1 hin with e | h
          · exact absurd e hc
          · exact h
        have hst := path_step HOK.out hp
        have HST := Lib.hid hst
        have HG := Lib.hid (show ((upOf ns cur).map (Value.int .u32)).getD (.int .u32 0) = .int .u32 p by rw [hp]; rfl)
        have HWF := Lib.hid (u32_wf HC.out)
        have HPW := Lib.hid (upv_wf HTR.out.ok hp)
        have hpl : 1 ≤ (pathN ns cur).length := by rw [hst.1]; simp
        clear hst hp hc hin
        go_wp2_with (first
          | (at_lookup; refine opt_look rfl _ _ 33 rfl 27 27 .u32 Tryz.underlying27 Tryz.underlying33 (.int .u32 0) (Tryz.zeroID _) mu ns.length (fun i => (upOf ns i).map (Value.int .u32)) rfl HTR.out.up cur rfl HWF.out ?_; rw [HG.out])
          | (at_builtin; refine wpList_append_own _ rfl _ _ 22 rfl w1.heap.size 27 i0 _ 1 4 Tryz.underlying22 hi0 hz0 hz1 hz2 rfl (by decide) _ _ _ rfl (HO.out.alloc _) ⟨wr.heap.size, 0, none⟩ 1 1 [.int .u32 p] rfl rfl (one_new _ _ _) (by simp [Value.oneCell']) (by simp only [maxLen]; omega) (by omega) (by have := HS.out; simp; omega) ?_; intro v' w4 hown' hgrow _; have HO4 := Lib.hid hown'; have HB4 := Lib.hid ((bal HB.out _).grown hgrow (by have := HS.out; simp; omega) (own_ge HO.out)); clear hown' hgrow))
        go_roundw
        case rel =>
          refine ⟨p, pre ++ [cur], rfl, HPW.out, HST.out.2.1, by rw [HP.out, HST.out.1]; simp, ?_, HB4.out⟩
          simpa [U32] using HO4.out
        case measure =>
          simp only [intOf]
          rw [HST.out.1]
          simp

end Go.Proofs.YtbfefkhejknmoaaGreatDoor
