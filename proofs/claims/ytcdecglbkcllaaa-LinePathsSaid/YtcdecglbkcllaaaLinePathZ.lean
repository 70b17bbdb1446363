/-
  The walk of the document's Path of a line.
  Plain facts of paths: what line.cut tells of a line without its first place; a path's places that a rectangle has; how long a path of near points is.
  The walks of slices.Clone at rectangles and of a region's Rects (the line's seat).
  The walk of the document's Same of a band, at lists that are the same.
  The walks of line.Path, line.Region and the document's Path and Dots, of no points.
  The walk of line.Region, of no points.
-/
import Derived.Test.YtcdecglbkcllaaaRefSpans
import Derived.Test.YtcdecglbkcllaaaLineRegM
import Derived.Test.YtcdecglbkcllaaaLineWalkQ
import Derived.Test.YtcdecglbkcllaaaBandAny
import Derived.Test.YtcdecglbkcllaaaBandMem
import Derived.Test.YtcdecglbkcllaaaLineRegB
namespace Go.Proofs.Ytcdecglbkcllaaa
open Go.RowKit

theorem pts_one (p : Ln.PtR) : Ln.ptsR p.1.1 p.1.2 p.1.1 p.1.2 0 1 = [p] := by
  have h := Ln.pt_one p.1.1 p.1.2 (0 + ((0 : Nat) : Int))
  rw [Ln.ptsR_succ, h.1, h.2]
  simp only [Ln.ptsR, List.range_zero, List.map_nil, List.nil_append]
  congr 1
  exact Subtype.ext (Prod.ext (Ln.mkR_x p.2) (Ln.mkR_y p.2))

set_option maxRecDepth 100000 in
set_option maxHeartbeats 8000000 in
theorem rpath_go (g c n : Nat) (l : List Ln.PtR) (w : World) (hn : l.length = n) (hl : n ≤ 4096) (hg : g < w.heap.size) (hlong : Ln.lenP l ≤ 65536)
    (hc : ∀ k p, (Ln.unR l)[k]? = some p → w.cell? ⟨g, k * 2, none⟩ = some (.int .i64 p.1) ∧ w.cell? ⟨g, k * 2 + 1, none⟩ = some (.int .i64 p.2)) :
    Calls Try.prog 28 #[.slice (some ⟨g, 0, none⟩) n c] w fun e w' => ∃ v', e = .returned v' ∧ w'.ownsRow w.heap.size 23 2 v' (pathA l n).length (Ln.pcs (pathA l n)) ∧ Below w.heap.size w w' := by
  obtain ⟨i0, hi, hz0, hz1, hz2⟩ := info_parts Ln.Try.infoPt
  have HN := Lib.hid hn
  have HC := Lib.hid hc
  have hlv : Ln.lenP l = 1 + Ln.lenK l (n - 1) ∨ n = 0 := by
    rcases Nat.eq_zero_or_pos n with h0 | h0
    · exact .inr h0
    · left; unfold Ln.lenP; rw [if_neg (by omega), hn]
  have HLV := Lib.hid hlv
  clear hn hc hlv
  go_enter Try.func28, Try.ntmps28
  go_wp2_with fail
  go_loopw [3, 4] (fun v i wr => ∃ j : Nat, i = .int .i64 j ∧ j ≤ n ∧ wr.ownsRow w.heap.size 23 2 v (pathA l j).length (Ln.pcs (pathA l j)) ∧ Below w.heap.size w wr) (fun _ i _ => n - (intOf i).toNat)
  case atStart => exact ⟨0, rfl, by omega, by simpa [pathA, Ln.pcs] using World.ownsRow_nil w w.heap.size 23 2, bre w⟩
  case round =>
    obtain ⟨j, rfl, hj, ho, hB⟩ := hrel
    have HO := Lib.hid ho
    have HB := Lib.hid hB
    have hBs := hB.size
    by_cases hlt : j < n
    · obtain ⟨q, hq⟩ : ∃ q, l[j]? = some q := ⟨_, List.getElem?_eq_getElem (by have := HN.out; omega)⟩
      have hq1 := HC.out j q.1 (by simp [Ln.unR, hq])
      have k1 : (j : Int) < (n : Int) := by omega
      have k0 : (0 : Int) ≤ (j : Int) := by omega
      have hpl := pathA_len l j
      have hlm := Ln.lenK_le l (j := j - 1) (k := n - 1) (by omega)
      have hlb : ((pathA l j).length : Int) ≤ 65536 := by
        rcases HLV.out with h | h
        · omega
        · omega
      obtain ⟨Ao, co, hvo, _⟩ := own_form ho
      subst hvo
      rcases Nat.eq_zero_or_pos j with hj0 | hj0
      · subst hj0
        have a0 := (hB.cell (p := ⟨g, 0, none⟩) hg).trans (by simpa using hq1.1)
        have a1 := (hB.cell (p := ⟨g, 1, none⟩) hg).trans (by simpa using hq1.2)
        have HP1 := Lib.hid (show pathA l 1 = [q] by rw [pathA_one hq, pts_one])
        clear ho hB hq hq1 hpl hlm
        go_wp2_with (at_builtin; refine wpList_append_own _ rfl _ _ 25 rfl w.heap.size 23 i0 _ 2 16 Try.underlying25 hi hz0 hz1 hz2 rfl (by decide) _ _ _ rfl (HO.out.alloc _) ⟨wr.heap.size, 0, none⟩ 1 1 [.int .i64 q.1.1, .int .i64 q.1.2] rfl rfl (two_newI _ _ _ _) (by simp [Value.oneCell']) (by simp only [maxLen]; omega) (by omega) (by simp; omega) ?_; intro v' w4 hown' hgrow _; have HO4 := Lib.hid hown'; have HB4 := Lib.hid ((bal HB.out _).grown hgrow (by simp; omega) (own_ge HO.out)); clear hown' hgrow)
        go_roundw
        case rel => exact ⟨1, by go_num, by omega, by rw [HP1.out]; simpa [pathA, Ln.pcs] using HO4.out, HB4.out⟩
        case measure => simp [intOf]; omega
      · obtain ⟨m, rfl⟩ : ∃ m, j = m + 1 := ⟨j - 1, by omega⟩
        obtain ⟨p, hp⟩ : ∃ p, l[m]? = some p := ⟨_, List.getElem?_eq_getElem (by have := HN.out; omega)⟩
        have hp1 := HC.out m p.1 (by simp [Ln.unR, hp])
        have fc0 := hp1.1
        have fc1 := hp1.2
        have fd0 := hq1.1
        have fd1 := hq1.2
        have HPN := Lib.hid (pathA_next hp hq)
        have hls := Ln.lenK_succ hp hq
        have hlm2 := Ln.lenK_le l (j := m + 1) (k := n - 1) (by omega)
        have hj1 : ((m : Int) + 1 == 0) = false := by simp; omega
        have hj2 : (((m + 1 : Nat) : Int) == 0) = false := by simp; omega
        have w1 : IntKind.i64.wrap ((m : Int) + 1 - 1) = m := by rw [show (m : Int) + 1 - 1 = m from by omega]; exact IntWalk.i64_in _ (by omega)
        have w2 : IntKind.i64.wrap (((m + 1 : Nat) : Int) - 1) = m := by rw [show ((m + 1 : Nat) : Int) - 1 = m from by omega]; exact IntWalk.i64_in _ (by omega)
        have w3 : IntKind.i64.wrap (m : Int) = m := IntWalk.i64_in _ (by omega)
        have m0 : (0 : Int) ≤ (m : Int) := by omega
        have m1 : (m : Int) < (n : Int) := by omega
        have m2 : (0 : Int) ≤ (m : Int) + 1 := by omega
        have m3 : (m : Int) + 1 < (n : Int) := by omega
        have m4 : ((m : Int) + 1 < 0) = False := by simp; omega
        have hst : (Ln.stpI p.1.1 p.1.2 q.1.1 q.1.2) = (Ln.stp p.1.1 p.1.2 q.1.1 q.1.2 : Int) := by unfold Ln.stpI; rfl
        have hsb := Ln.stpI_bd p.2 q.2
        have hbd := Ln.lenK_bd l m
        have hsm := Ln.stp_max p.1.1 p.1.2 q.1.1 q.1.2
        obtain ⟨T, hT⟩ : ∃ T, Ln.stp p.1.1 p.1.2 q.1.1 q.1.2 = T := ⟨_, rfl⟩
        rw [hT] at hst hsm HPN
        have hTb : T ≤ 65536 := by
          rcases HLV.out with h | h <;> omega
        have HT := Lib.hid hT
        have HST := Lib.hid hst
        have hKb : (pathA l (m + 1)).length ≤ 65536 := by omega
        clear ho hB hq hq1 hp hp1 hpl hlm hls hlm2 hT hst hsm
        go_wp2_with fail
        go_loopw [3, 5] (fun v i wq => ∃ k : Nat, i = .int .i64 k ∧ 1 ≤ k ∧ k ≤ T + 1 ∧ wq.ownsRow w.heap.size 23 2 v (pathA l (m + 1) ++ Ln.ptsR p.1.1 p.1.2 q.1.1 q.1.2 1 (k - 1)).length (Ln.pcs (pathA l (m + 1) ++ Ln.ptsR p.1.1 p.1.2 q.1.1 q.1.2 1 (k - 1))) ∧ Below w.heap.size w wq) (fun _ i _ => T + 1 - (intOf i).toNat)
        case atStart => exact ⟨1, rfl, Nat.le_refl _, by omega, by simpa [Ln.ptsR] using HO.out, HB.out⟩
        case round =>
          obtain ⟨k, rfl, hk1, hk2, ho, hB⟩ := hrel
          have HQ := Lib.hid ho
          have HBQ := Lib.hid hB
          have hqs := hB.size
          have hlen : (pathA l (m + 1) ++ Ln.ptsR p.1.1 p.1.2 q.1.1 q.1.2 1 (k - 1)).length ≤ 140000 := by rw [List.length_append, Ln.ptsR_length]; omega
          have bc0 := (hB.cell (p := ⟨g, m * 2, none⟩) hg).trans fc0
          have bc1 := (hB.cell (p := ⟨g, m * 2 + 1, none⟩) hg).trans fc1
          have bd0 := (hB.cell (p := ⟨g, (m + 1) * 2, none⟩) hg).trans fd0
          have bd1 := (hB.cell (p := ⟨g, (m + 1) * 2 + 1, none⟩) hg).trans fd1
          have hgq : g < wr.heap.size := by omega
          by_cases hkT : k ≤ T
          · have hd : decide ((k : Int) < Ln.stpI p.1.1 p.1.2 q.1.1 q.1.2 + 1) = true := by rw [HST.out]; simp; omega
            obtain ⟨Ao', co', hvo', _⟩ := own_form ho
            subst hvo'
            obtain ⟨K9, hK9⟩ : ∃ K9, (pathA l (m + 1) ++ Ln.ptsR p.1.1 p.1.2 q.1.1 q.1.2 1 (k - 1)).length = K9 := ⟨_, rfl⟩
            rw [hK9] at HQ hlen ⊢
            have HK9 := Lib.hid hK9
            clear ho hB hK9
            go_upto_region 8 with fail
            refine wp_region_noPanic ?_
            refine wp_region_held_drew (S := (fun w' => w'.cell? ⟨g, m * 2, none⟩ = some (.int .i64 p.1.1) ∧ w'.cell? ⟨g, m * 2 + 1, none⟩ = some (.int .i64 p.1.2) ∧ w'.cell? ⟨g, (m + 1) * 2, none⟩ = some (.int .i64 q.1.1) ∧ w'.cell? ⟨g, (m + 1) * 2 + 1, none⟩ = some (.int .i64 q.1.2))) (by kernel_rfl) ?_ (fun hHeld => ?_)
            · (try dsimp only)
              exact ⟨bc0, bc1, bd0, bd1⟩
            refine take_at 0 20 (.int .i64 (k : Int)) rfl rfl (by kernel_rfl) (by kernel_rfl) (by kernel_rfl) (fun _ _ _ h => h) (Or.inl ⟨by rfl, ?_⟩) (by assumption) ?_
            · intro W0 hSw
              (try dsimp only at hSw)
              go_simp
            simp only [List.set_cons_zero, List.set_cons_succ]
            refine take_at 1 21 (.slice (some ⟨g, 0, none⟩) n c) rfl rfl (by kernel_rfl) (by kernel_rfl) (by kernel_rfl) (fun _ _ _ h => h) (Or.inl ⟨by rfl, ?_⟩) (by assumption) ?_
            · intro W0 hSw
              (try dsimp only at hSw)
              go_simp
            simp only [List.set_cons_zero, List.set_cons_succ]
            refine take_at 2 22 (.int .i64 ((m + 1 : Nat) : Int)) rfl rfl (by kernel_rfl) (by kernel_rfl) (by kernel_rfl) (fun _ _ _ h => h) (Or.inl ⟨by rfl, ?_⟩) (by assumption) ?_
            · intro W0 hSw
              (try dsimp only at hSw)
              go_simp
            simp only [List.set_cons_zero, List.set_cons_succ]
            refine take_at 3 23 (.int .i64 (m : Int)) rfl rfl (by kernel_rfl) (by kernel_rfl) (by kernel_rfl) (fun _ _ _ h => h) (Or.inl ⟨by rfl, ?_⟩) (by assumption) ?_
            · intro W0 hSw
              (try dsimp only at hSw)
              go_simp
            simp only [List.set_cons_zero, List.set_cons_succ]
            refine take_at 4 24 (.pointer (some ⟨g, m * 2, none⟩)) rfl rfl (by kernel_rfl) (by kernel_rfl) (by kernel_rfl) (fun _ _ _ h => h) (Or.inl ⟨by rfl, ?_⟩) (by assumption) ?_
            · intro W0 hSw
              (try dsimp only at hSw)
              go_simp
            simp only [List.set_cons_zero, List.set_cons_succ]
            refine take_at 5 25 (.agg #[.int .i64 p.1.1, .int .i64 p.1.2]) rfl rfl (by kernel_rfl) (by kernel_rfl) (by kernel_rfl) (fun _ _ _ h => h) (Or.inl ⟨by rfl, ?_⟩) (by assumption) ?_
            · intro W0 hSw
              (try dsimp only at hSw)
              go_simp
            simp only [List.set_cons_zero, List.set_cons_succ]
            refine take_at 6 26 (.slice (some ⟨g, 0, none⟩) n c) rfl rfl (by kernel_rfl) (by kernel_rfl) (by kernel_rfl) (fun _ _ _ h => h) (Or.inl ⟨by rfl, ?_⟩) (by assumption) ?_
            · intro W0 hSw
              (try dsimp only at hSw)
              go_simp
            simp only [List.set_cons_zero, List.set_cons_succ]
            refine take_at 7 27 (.int .i64 ((m + 1 : Nat) : Int)) rfl rfl (by kernel_rfl) (by kernel_rfl) (by kernel_rfl) (fun _ _ _ h => h) (Or.inl ⟨by rfl, ?_⟩) (by assumption) ?_
            · intro W0 hSw
              (try dsimp only at hSw)
              go_simp
            simp only [List.set_cons_zero, List.set_cons_succ]
            refine take_at 8 28 (.pointer (some ⟨g, (m + 1) * 2, none⟩)) rfl rfl (by kernel_rfl) (by kernel_rfl) (by kernel_rfl) (fun _ _ _ h => h) (Or.inl ⟨by rfl, ?_⟩) (by assumption) ?_
            · intro W0 hSw
              (try dsimp only at hSw)
              go_simp
            simp only [List.set_cons_zero, List.set_cons_succ]
            refine take_at 9 29 (.agg #[.int .i64 q.1.1, .int .i64 q.1.2]) rfl rfl (by kernel_rfl) (by kernel_rfl) (by kernel_rfl) (fun _ _ _ h => h) (Or.inl ⟨by rfl, ?_⟩) (by assumption) ?_
            · intro W0 hSw
              (try dsimp only at hSw)
              go_simp
            simp only [List.set_cons_zero, List.set_cons_succ]
            refine wpAnyH_ready (rs := [10]) (by kernel_rfl) (by simp) ?_
            refine AllReadyH.cons rfl (fun K hK => ?_) AllReadyH.nil
            go_simp
            go_at_call 13
            refine (Ln.rlong_any p.1.1 p.1.2 q.1.1 q.1.2 _ p.2 q.2).mono ?_
            rintro e w8 ⟨rfl, hb8⟩
            have HB8 := Lib.hid (bstep ((bre wr).drew) hb8)
            clear hb8
            refine hK.out _ _ ?_ (fun hHeld => ?_)
            · (try dsimp only)
              exact ⟨(HB8.out.cell (p := ⟨g, m * 2, none⟩) hgq).trans bc0, (HB8.out.cell (p := ⟨g, m * 2 + 1, none⟩) hgq).trans bc1, (HB8.out.cell (p := ⟨g, (m + 1) * 2, none⟩) hgq).trans bd0, (HB8.out.cell (p := ⟨g, (m + 1) * 2 + 1, none⟩) hgq).trans bd1⟩
            clear hK K
            refine take_at 11 31 (.bool true) rfl rfl (by kernel_rfl) (by kernel_rfl) (by kernel_rfl) (fun _ _ _ h => h) (Or.inl ⟨by rfl, ?_⟩) (by assumption) ?_
            · intro W0 hSw
              (try dsimp only at hSw)
              go_simp
            simp only [List.set_cons_zero, List.set_cons_succ]
            refine wpAnyH_done (by kernel_rfl) ?_ _
            refine NoPanic.normal ?_
            have O8 := Lib.hid (ownsRow_below HQ.out HB8.out)
            have HBW8 := Lib.hid (bstep HBQ.out HB8.out)
            have h8s := HBW8.out.size
            have hg8 : g < w8.heap.size := by omega
            have ec0 := (HBW8.out.cell (p := ⟨g, m * 2, none⟩) hg).trans fc0
            have ec1 := (HBW8.out.cell (p := ⟨g, m * 2 + 1, none⟩) hg).trans fc1
            have ed0 := (HBW8.out.cell (p := ⟨g, (m + 1) * 2, none⟩) hg).trans fd0
            have ed1 := (HBW8.out.cell (p := ⟨g, (m + 1) * 2 + 1, none⟩) hg).trans fd1
            clear bc0 bc1 bd0 bd1
            go_upto_region 10 with fail
            refine wp_region_noPanic ?_
            refine wp_region_held_drew (S := (fun w' => w'.cell? ⟨g, m * 2, none⟩ = some (.int .i64 p.1.1) ∧ w'.cell? ⟨g, m * 2 + 1, none⟩ = some (.int .i64 p.1.2) ∧ w'.cell? ⟨g, (m + 1) * 2, none⟩ = some (.int .i64 q.1.1) ∧ w'.cell? ⟨g, (m + 1) * 2 + 1, none⟩ = some (.int .i64 q.1.2))) (by kernel_rfl) ?_ (fun hHeld => ?_)
            · (try dsimp only)
              exact ⟨ec0, ec1, ed0, ed1⟩
            refine take_at 0 34 (.slice Ao' K9 co') rfl rfl (by kernel_rfl) (by kernel_rfl) (by kernel_rfl) (fun _ _ _ h => h) (Or.inl ⟨by rfl, ?_⟩) (by assumption) ?_
            · intro W0 hSw
              (try dsimp only at hSw)
              go_simp
            simp only [List.set_cons_zero, List.set_cons_succ]
            refine take_at 1 35 (.slice (some ⟨g, 0, none⟩) n c) rfl rfl (by kernel_rfl) (by kernel_rfl) (by kernel_rfl) (fun _ _ _ h => h) (Or.inl ⟨by rfl, ?_⟩) (by assumption) ?_
            · intro W0 hSw
              (try dsimp only at hSw)
              go_simp
            simp only [List.set_cons_zero, List.set_cons_succ]
            refine take_at 2 36 (.int .i64 ((m + 1 : Nat) : Int)) rfl rfl (by kernel_rfl) (by kernel_rfl) (by kernel_rfl) (fun _ _ _ h => h) (Or.inl ⟨by rfl, ?_⟩) (by assumption) ?_
            · intro W0 hSw
              (try dsimp only at hSw)
              go_simp
            simp only [List.set_cons_zero, List.set_cons_succ]
            refine take_at 3 37 (.int .i64 (m : Int)) rfl rfl (by kernel_rfl) (by kernel_rfl) (by kernel_rfl) (fun _ _ _ h => h) (Or.inl ⟨by rfl, ?_⟩) (by assumption) ?_
            · intro W0 hSw
              (try dsimp only at hSw)
              go_simp
            simp only [List.set_cons_zero, List.set_cons_succ]
            refine take_at 4 38 (.pointer (some ⟨g, m * 2, none⟩)) rfl rfl (by kernel_rfl) (by kernel_rfl) (by kernel_rfl) (fun _ _ _ h => h) (Or.inl ⟨by rfl, ?_⟩) (by assumption) ?_
            · intro W0 hSw
              (try dsimp only at hSw)
              go_simp
            simp only [List.set_cons_zero, List.set_cons_succ]
            refine take_at 5 39 (.agg #[.int .i64 p.1.1, .int .i64 p.1.2]) rfl rfl (by kernel_rfl) (by kernel_rfl) (by kernel_rfl) (fun _ _ _ h => h) (Or.inl ⟨by rfl, ?_⟩) (by assumption) ?_
            · intro W0 hSw
              (try dsimp only at hSw)
              go_simp
            simp only [List.set_cons_zero, List.set_cons_succ]
            refine take_at 6 40 (.slice (some ⟨g, 0, none⟩) n c) rfl rfl (by kernel_rfl) (by kernel_rfl) (by kernel_rfl) (fun _ _ _ h => h) (Or.inl ⟨by rfl, ?_⟩) (by assumption) ?_
            · intro W0 hSw
              (try dsimp only at hSw)
              go_simp
            simp only [List.set_cons_zero, List.set_cons_succ]
            refine take_at 7 41 (.int .i64 ((m + 1 : Nat) : Int)) rfl rfl (by kernel_rfl) (by kernel_rfl) (by kernel_rfl) (fun _ _ _ h => h) (Or.inl ⟨by rfl, ?_⟩) (by assumption) ?_
            · intro W0 hSw
              (try dsimp only at hSw)
              go_simp
            simp only [List.set_cons_zero, List.set_cons_succ]
            refine take_at 8 42 (.pointer (some ⟨g, (m + 1) * 2, none⟩)) rfl rfl (by kernel_rfl) (by kernel_rfl) (by kernel_rfl) (fun _ _ _ h => h) (Or.inl ⟨by rfl, ?_⟩) (by assumption) ?_
            · intro W0 hSw
              (try dsimp only at hSw)
              go_simp
            simp only [List.set_cons_zero, List.set_cons_succ]
            refine take_at 9 43 (.agg #[.int .i64 q.1.1, .int .i64 q.1.2]) rfl rfl (by kernel_rfl) (by kernel_rfl) (by kernel_rfl) (fun _ _ _ h => h) (Or.inl ⟨by rfl, ?_⟩) (by assumption) ?_
            · intro W0 hSw
              (try dsimp only at hSw)
              go_simp
            simp only [List.set_cons_zero, List.set_cons_succ]
            refine take_at 10 44 (.int .i64 (k : Int)) rfl rfl (by kernel_rfl) (by kernel_rfl) (by kernel_rfl) (fun _ _ _ h => h) (Or.inl ⟨by rfl, ?_⟩) (by assumption) ?_
            · intro W0 hSw
              (try dsimp only at hSw)
              go_simp
            simp only [List.set_cons_zero, List.set_cons_succ]
            refine wpAnyH_ready (rs := [11]) (by kernel_rfl) (by simp) ?_
            refine AllReadyH.cons rfl (fun K hK => ?_) AllReadyH.nil
            go_simp
            go_at_call 14
            refine (Ln.rat_any p.1.1 p.1.2 q.1.1 q.1.2 k _ p.2 q.2 (by omega) (by omega)).mono ?_
            rintro e w10 ⟨rfl, hb10⟩
            have HB10 := Lib.hid (bstep ((bre w8).drew) hb10)
            clear hb10
            refine hK.out _ _ ?_ (fun hHeld => ?_)
            · (try dsimp only)
              exact ⟨(HB10.out.cell (p := ⟨g, m * 2, none⟩) hg8).trans ec0, (HB10.out.cell (p := ⟨g, m * 2 + 1, none⟩) hg8).trans ec1, (HB10.out.cell (p := ⟨g, (m + 1) * 2, none⟩) hg8).trans ed0, (HB10.out.cell (p := ⟨g, (m + 1) * 2 + 1, none⟩) hg8).trans ed1⟩
            clear hK K
            refine wpAnyH_ready (rs := [12]) (by kernel_rfl) (by simp) ?_
            refine AllReadyH.cons rfl (fun K hK => ?_) AllReadyH.nil
            go_simp
            have O12 := Lib.hid ((ownsRow_below O8.out HB10.out).alloc (.cells #[.int .i64 (Ln.ptx p.1.1 p.1.2 q.1.1 q.1.2 k), .int .i64 (Ln.pty p.1.1 p.1.2 q.1.1 q.1.2 k)] 23))
            have HB12 := Lib.hid (bal HB10.out (.cells #[.int .i64 (Ln.ptx p.1.1 p.1.2 q.1.1 q.1.2 k), .int .i64 (Ln.pty p.1.1 p.1.2 q.1.1 q.1.2 k)] 23))
            refine hK.out _ _ ?_ (fun hHeld => ?_)
            · (try dsimp only)
              exact ⟨(HB12.out.cell (p := ⟨g, m * 2, none⟩) hg8).trans ec0, (HB12.out.cell (p := ⟨g, m * 2 + 1, none⟩) hg8).trans ec1, (HB12.out.cell (p := ⟨g, (m + 1) * 2, none⟩) hg8).trans ed0, (HB12.out.cell (p := ⟨g, (m + 1) * 2 + 1, none⟩) hg8).trans ed1⟩
            clear hK K
            refine wpAnyH_ready (rs := [13]) (by kernel_rfl) (by simp) ?_
            refine AllReadyH.cons rfl (fun K hK => ?_) AllReadyH.nil
            have hsz1 : w.heap.size ≤ (w10.alloc (.cells #[.int .i64 (Ln.ptx p.1.1 p.1.2 q.1.1 q.1.2 k), .int .i64 (Ln.pty p.1.1 p.1.2 q.1.1 q.1.2 k)] 23)).heap.size := by
              have := HB10.out.size
              rw [World.size_alloc]
              omega
            refine wanted_plain rfl ?_
            refine wp_append_own _ _ _ 25 rfl w.heap.size 23 i0 _ 2 16 Try.underlying25 hi hz0 hz1 hz2 rfl (by decide) _ _ _ rfl O12.out ⟨w10.heap.size, 0, none⟩ 1 1 [.int .i64 (Ln.ptx p.1.1 p.1.2 q.1.1 q.1.2 k), .int .i64 (Ln.pty p.1.1 p.1.2 q.1.1 q.1.2 k)] rfl rfl (two_newI _ _ _ _) (by simp [Value.oneCell']) (by simp only [maxLen]; omega) (by omega) hsz1 ?_
            intro v' w4 hown' hgrow _
            obtain ⟨A4, c4, hv4, _⟩ := own_form hown'
            subst hv4
            have HO4 := Lib.hid hown'
            have HB13 := Lib.hid ((bstep HBW8.out HB12.out).grown hgrow hsz1 (own_ge O8.out))
            clear hown' hgrow
            refine hK.out _ _ ?_ (fun hHeld => ?_)
            · (try dsimp only)
              exact ⟨(HB13.out.cell (p := ⟨g, m * 2, none⟩) hg).trans fc0, (HB13.out.cell (p := ⟨g, m * 2 + 1, none⟩) hg).trans fc1, (HB13.out.cell (p := ⟨g, (m + 1) * 2, none⟩) hg).trans fd0, (HB13.out.cell (p := ⟨g, (m + 1) * 2 + 1, none⟩) hg).trans fd1⟩
            clear hK K
            refine take_at 14 3 (.slice A4 (K9 + 1) c4) rfl rfl (by kernel_rfl) (by kernel_rfl) (by kernel_rfl) (fun _ _ _ h => h) (Or.inl ⟨by rfl, ?_⟩) (by assumption) ?_
            · intro W0 hSw
              (try dsimp only at hSw)
              go_simp
            simp only [List.set_cons_zero, List.set_cons_succ]
            refine wpAnyH_done (by kernel_rfl) ?_ _
            refine NoPanic.normal ?_
            have hpr := Ln.pt_right p.2 q.2 (k : Int) (by omega) (by have := HT.out; omega)
            have e9 : Ln.ptsR p.1.1 p.1.2 q.1.1 q.1.2 1 (k + 1 - 1) = Ln.ptsR p.1.1 p.1.2 q.1.1 q.1.2 1 (k - 1) ++ [Ln.mkR (Ln.ptx p.1.1 p.1.2 q.1.1 q.1.2 k) (Ln.pty p.1.1 p.1.2 q.1.1 q.1.2 k)] := by
              rw [show k + 1 - 1 = (k - 1) + 1 from by omega, Ln.ptsR_succ, show (1 : Int) + ((k - 1 : Nat) : Int) = k from by omega]
            have hlast : w4.ownsRow w.heap.size 23 2 (.slice A4 (K9 + 1) c4) (pathA l (m + 1) ++ Ln.ptsR p.1.1 p.1.2 q.1.1 q.1.2 1 (k + 1 - 1)).length (Ln.pcs (pathA l (m + 1) ++ Ln.ptsR p.1.1 p.1.2 q.1.1 q.1.2 1 (k + 1 - 1))) := by
              rw [e9, ← List.append_assoc, Ln.pcs_snoc, List.length_append (bs := [_]), HK9.out, Ln.mkR_x hpr, Ln.mkR_y hpr]
              exact HO4.out
            have HLAST := Lib.hid hlast
            clear hlast e9 hpr
            go_wp2_with fail
            go_roundw
            case rel => exact ⟨_, _, _, _, _, _, _, _, _, _, _, _, _, _, _, _, _, _, _, _, _, _, _, _, _, _, _, _, _, _, ⟨k + 1, by go_num, by omega, by omega, HLAST.out, HB13.out⟩, rfl⟩
            case measure => simp [intOf]; omega
          · have hkk : k = T + 1 := by omega
            have hd : decide ((k : Int) < Ln.stpI p.1.1 p.1.2 q.1.1 q.1.2 + 1) = false := by rw [HST.out]; simp; omega
            have HE := Lib.hid (show wr.ownsRow w.heap.size 23 2 _ (pathA l (m + 2)).length (Ln.pcs (pathA l (m + 2))) by rw [HPN.out]; rw [hkk, Nat.add_sub_cancel] at ho; exact ho)
            clear ho hB hkk
            go_upto_region 8 with fail
            refine wp_region_noPanic ?_
            refine wp_region_held_drew (S := (fun w' => w'.cell? ⟨g, m * 2, none⟩ = some (.int .i64 p.1.1) ∧ w'.cell? ⟨g, m * 2 + 1, none⟩ = some (.int .i64 p.1.2) ∧ w'.cell? ⟨g, (m + 1) * 2, none⟩ = some (.int .i64 q.1.1) ∧ w'.cell? ⟨g, (m + 1) * 2 + 1, none⟩ = some (.int .i64 q.1.2))) (by kernel_rfl) ?_ (fun hHeld => ?_)
            · (try dsimp only)
              exact ⟨bc0, bc1, bd0, bd1⟩
            refine take_at 0 20 (.int .i64 (k : Int)) rfl rfl (by kernel_rfl) (by kernel_rfl) (by kernel_rfl) (fun _ _ _ h => h) (Or.inl ⟨by rfl, ?_⟩) (by assumption) ?_
            · intro W0 hSw
              (try dsimp only at hSw)
              go_simp
            simp only [List.set_cons_zero, List.set_cons_succ]
            refine take_at 1 21 (.slice (some ⟨g, 0, none⟩) n c) rfl rfl (by kernel_rfl) (by kernel_rfl) (by kernel_rfl) (fun _ _ _ h => h) (Or.inl ⟨by rfl, ?_⟩) (by assumption) ?_
            · intro W0 hSw
              (try dsimp only at hSw)
              go_simp
            simp only [List.set_cons_zero, List.set_cons_succ]
            refine take_at 2 22 (.int .i64 ((m + 1 : Nat) : Int)) rfl rfl (by kernel_rfl) (by kernel_rfl) (by kernel_rfl) (fun _ _ _ h => h) (Or.inl ⟨by rfl, ?_⟩) (by assumption) ?_
            · intro W0 hSw
              (try dsimp only at hSw)
              go_simp
            simp only [List.set_cons_zero, List.set_cons_succ]
            refine take_at 3 23 (.int .i64 (m : Int)) rfl rfl (by kernel_rfl) (by kernel_rfl) (by kernel_rfl) (fun _ _ _ h => h) (Or.inl ⟨by rfl, ?_⟩) (by assumption) ?_
            · intro W0 hSw
              (try dsimp only at hSw)
              go_simp
            simp only [List.set_cons_zero, List.set_cons_succ]
            refine take_at 4 24 (.pointer (some ⟨g, m * 2, none⟩)) rfl rfl (by kernel_rfl) (by kernel_rfl) (by kernel_rfl) (fun _ _ _ h => h) (Or.inl ⟨by rfl, ?_⟩) (by assumption) ?_
            · intro W0 hSw
              (try dsimp only at hSw)
              go_simp
            simp only [List.set_cons_zero, List.set_cons_succ]
            refine take_at 5 25 (.agg #[.int .i64 p.1.1, .int .i64 p.1.2]) rfl rfl (by kernel_rfl) (by kernel_rfl) (by kernel_rfl) (fun _ _ _ h => h) (Or.inl ⟨by rfl, ?_⟩) (by assumption) ?_
            · intro W0 hSw
              (try dsimp only at hSw)
              go_simp
            simp only [List.set_cons_zero, List.set_cons_succ]
            refine take_at 6 26 (.slice (some ⟨g, 0, none⟩) n c) rfl rfl (by kernel_rfl) (by kernel_rfl) (by kernel_rfl) (fun _ _ _ h => h) (Or.inl ⟨by rfl, ?_⟩) (by assumption) ?_
            · intro W0 hSw
              (try dsimp only at hSw)
              go_simp
            simp only [List.set_cons_zero, List.set_cons_succ]
            refine take_at 7 27 (.int .i64 ((m + 1 : Nat) : Int)) rfl rfl (by kernel_rfl) (by kernel_rfl) (by kernel_rfl) (fun _ _ _ h => h) (Or.inl ⟨by rfl, ?_⟩) (by assumption) ?_
            · intro W0 hSw
              (try dsimp only at hSw)
              go_simp
            simp only [List.set_cons_zero, List.set_cons_succ]
            refine take_at 8 28 (.pointer (some ⟨g, (m + 1) * 2, none⟩)) rfl rfl (by kernel_rfl) (by kernel_rfl) (by kernel_rfl) (fun _ _ _ h => h) (Or.inl ⟨by rfl, ?_⟩) (by assumption) ?_
            · intro W0 hSw
              (try dsimp only at hSw)
              go_simp
            simp only [List.set_cons_zero, List.set_cons_succ]
            refine take_at 9 29 (.agg #[.int .i64 q.1.1, .int .i64 q.1.2]) rfl rfl (by kernel_rfl) (by kernel_rfl) (by kernel_rfl) (fun _ _ _ h => h) (Or.inl ⟨by rfl, ?_⟩) (by assumption) ?_
            · intro W0 hSw
              (try dsimp only at hSw)
              go_simp
            simp only [List.set_cons_zero, List.set_cons_succ]
            refine wpAnyH_ready (rs := [10]) (by kernel_rfl) (by simp) ?_
            refine AllReadyH.cons rfl (fun K hK => ?_) AllReadyH.nil
            go_simp
            go_at_call 13
            refine (Ln.rlong_any p.1.1 p.1.2 q.1.1 q.1.2 _ p.2 q.2).mono ?_
            rintro e w8 ⟨rfl, hb8⟩
            have HB8 := Lib.hid (bstep ((bre wr).drew) hb8)
            clear hb8
            refine hK.out _ _ ?_ (fun hHeld => ?_)
            · (try dsimp only)
              exact ⟨(HB8.out.cell (p := ⟨g, m * 2, none⟩) hgq).trans bc0, (HB8.out.cell (p := ⟨g, m * 2 + 1, none⟩) hgq).trans bc1, (HB8.out.cell (p := ⟨g, (m + 1) * 2, none⟩) hgq).trans bd0, (HB8.out.cell (p := ⟨g, (m + 1) * 2 + 1, none⟩) hgq).trans bd1⟩
            clear hK K
            refine take_at 11 31 (.bool false) rfl rfl (by kernel_rfl) (by kernel_rfl) (by kernel_rfl) (fun _ _ _ h => h) (Or.inl ⟨by rfl, ?_⟩) (by assumption) ?_
            · intro W0 hSw
              (try dsimp only at hSw)
              go_simp
            simp only [List.set_cons_zero, List.set_cons_succ]
            refine wpAnyH_done (by kernel_rfl) ?_ _
            refine NoPanic.normal ?_
            go_wp2_with fail
            go_roundw
            case rel => exact ⟨m + 2, by go_num, by omega, ownsRow_below HE.out HB8.out, bstep HBQ.out HB8.out⟩
            case measure => simp [intOf]; omega
    · obtain rfl : j = n := by omega
      clear ho hB
      go_wp2_with fail
      go_ret
      exact ⟨_, rfl, HO.out, HB.out⟩

end Go.Proofs.Ytcdecglbkcllaaa

namespace Go.Proofs.Ytcdecglbkcllaaa
open Go.RowKit

/-- what cut tells of the line without its first place. -/
theorem cutL_tail {ax ay bx by' X Y W H : Int} (h1 : Ln.rightB ax ay = true) (h2 : Ln.rightB bx by' = true) : Ln.cutL ax ay bx by' X Y W H 1 = Ln.wiR X Y W H (Ln.ptsR ax ay bx by' 1 (Ln.stp ax ay bx by')) := by
  unfold Ln.cutL Ln.wiR
  split
  · rename_i hc
    have hb := Ln.partLo_bd h1 h2 hc
    unfold Ln.inR Ln.ptsR
    have e0 : 1 ≤ Ln.cutLo ax ay bx by' X Y W H 1 := by unfold Ln.cutLo; omega
    have e1 : Ln.cutHi ax ay bx by' X Y W H ≤ Ln.stp ax ay bx by' := by unfold Ln.cutHi Ln.stpI; omega
    have key := Ln.filter_part (fun j : Nat => Ln.mkR (Ln.ptx ax ay bx by' (1 + j)) (Ln.pty ax ay bx by' (1 + j))) (fun p => Ln.inB X Y W H p.1.1 p.1.2) (Ln.stp ax ay bx by') ((Ln.cutLo ax ay bx by' X Y W H 1).toNat - 1) (Ln.cutHi ax ay bx by' X Y W H - Ln.cutLo ax ay bx by' X Y W H 1 + 1).toNat (by omega) (fun i hi hp => by
      have hr := Ln.pt_right h1 h2 (1 + (i : Int)) (by omega) (by omega)
      rw [Ln.mkR_x hr, Ln.mkR_y hr] at hp
      have := Ln.in_part (by omega) (by omega) hp
      unfold Ln.cutLo Ln.cutHi Ln.stpI
      unfold Ln.cutLo at e0
      omega)
    rw [key]
    congr 1
    apply List.map_congr_left
    intro j _
    have : ((1 : Int) + (((Ln.cutLo ax ay bx by' X Y W H 1).toNat - 1) + j : Nat)) = Ln.cutLo ax ay bx by' X Y W H 1 + j := by omega
    simp only [this]
  · rfl
theorem wiR_append (X Y W H : Int) (l m : List Ln.PtR) : Ln.wiR X Y W H (l ++ m) = Ln.wiR X Y W H l ++ Ln.wiR X Y W H m := by
  unfold Ln.wiR Ln.inR
  split
  · exact List.filter_append _ _
  · rfl
theorem stp_self (a b : Int) : Ln.stp a b a b = 0 := by
  have h := Ln.stp_max a b a b
  simp at h
  omega
/-- what line.Path tells is what of the path a rectangle has. -/
theorem pathL_all (X Y W H : Int) (l : List Ln.PtR) (k : Nat) : Ln.pathL X Y W H l k = Ln.wiR X Y W H (pathA l k) := by
  match k with
  | 0 => simp [Ln.pathL, pathA, Ln.wiR, Ln.inR]
  | 1 =>
    cases hp : l[0]? with
    | none => simp [Ln.pathL, pathA, hp, Ln.wiR, Ln.inR]
    | some p => rw [Ln.pathL_one hp, pathA_one hp, Ln.cutL_all p.2 p.2, stp_self]
  | k + 2 =>
    have ih := pathL_all X Y W H l (k + 1)
    cases hp : l[k]? with
    | none => simp only [Ln.pathL, pathA, hp, List.append_nil]; exact ih
    | some p =>
      cases hq : l[k + 1]? with
      | none => simp only [Ln.pathL, pathA, hp, hq, List.append_nil]; exact ih
      | some q => rw [Ln.pathL_next hp hq, pathA_next hp hq, wiR_append, ih, cutL_tail p.2 q.2]
/-- a path of near points isn't long. -/
theorem near_len {l : List Ln.PtR} (h : ∀ p ∈ l, (-128 ≤ p.1.1 ∧ p.1.1 ≤ 127) ∧ -128 ≤ p.1.2 ∧ p.1.2 ≤ 127) (k : Nat) : Ln.lenK l k ≤ (k : Int) * 255 := by
  induction k with
  | zero => simp [Ln.lenK]
  | succ k ih =>
    cases hp : l[k]? with
    | none => simp [Ln.lenK, hp]; omega
    | some p =>
      cases hq : l[k + 1]? with
      | none => simp [Ln.lenK, hp, hq]; omega
      | some q =>
        rw [Ln.lenK_succ hp hq]
        have h1 := h p (List.mem_of_getElem? hp)
        have h2 := h q (List.mem_of_getElem? hq)
        rw [Int.natCast_add, Int.add_mul]
        omega
/-- a near pair as a point. -/
def ptN (x y : Int) : Ln.PtR := Ln.mkR x y
theorem near_right {x y : Int} (h : (-128 ≤ x ∧ x ≤ 127) ∧ -128 ≤ y ∧ y ≤ 127) : Ln.rightB x y = true := Ln.right_mk (by omega)
theorem ptN_x {x y : Int} (h : (-128 ≤ x ∧ x ≤ 127) ∧ -128 ≤ y ∧ y ≤ 127) : (ptN x y).1.1 = x := Ln.mkR_x (near_right h)
theorem ptN_y {x y : Int} (h : (-128 ≤ x ∧ x ≤ 127) ∧ -128 ≤ y ∧ y ≤ 127) : (ptN x y).1.2 = y := Ln.mkR_y (near_right h)

end Go.Proofs.Ytcdecglbkcllaaa

namespace Go.Proofs.Ytcdecglbkcllaaa
open Go.RowKit Go.Shelf

theorem rcs_flat {w : World} {b : Nat} (rs : List RC) : ∀ (off : Nat), (∀ i r, rs[i]? = some r → RcAt w b (off + i * 4) r) → ∀ j u, (rcs rs)[j]? = some u → w.cell? ⟨b, off + j, none⟩ = some u := by
  induction rs with
  | nil => intro off _ j u h; simp [rcs] at h
  | cons r rs ih =>
    intro off h j u hj
    obtain ⟨a0, a1, a2, a3⟩ := h 0 r rfl
    simp only [Nat.zero_mul, Nat.add_zero] at a0 a1 a2 a3
    have e : rcs (r :: rs) = .int .i64 r.X :: .int .i64 r.Y :: .int .i64 r.W :: .int .i64 r.H :: rcs rs := by simp [rcs, RC.cells]
    rw [e] at hj
    match j, hj with
    | 0, hj => simp at hj; subst hj; exact a0
    | 1, hj => simp at hj; subst hj; exact a1
    | 2, hj => simp at hj; subst hj; exact a2
    | 3, hj => simp at hj; subst hj; exact a3
    | j + 4, hj =>
      have := ih (off + 4) (fun i r' hi => by
        have := h (i + 1) r' (by simpa using hi)
        rwa [show off + (i + 1) * 4 = off + 4 + i * 4 from by omega] at this) j u (by simpa using hj)
      rwa [show off + (j + 4) = off + 4 + j from by omega]
theorem rcs_one (rs : List RC) : ∀ u ∈ rcs rs, u.oneCell' = true := by
  intro u hu
  obtain ⟨r, _, hr⟩ := List.mem_flatMap.1 hu
  exact cells_one r u hr
theorem Rd_nil {w : World} {A : Option Addr} {n : Nat} {rs : List RC} (h : RdR w A n rs) (hA : A = none) : n = 0 ∧ rs = [] := by
  have h0 : n = 0 := by
    refine Classical.byContradiction fun hn => ?_
    obtain ⟨b, off, e, _⟩ := h.2 (by omega)
    rw [hA] at e
    cases e
  exact ⟨h0, List.eq_nil_of_length_eq_zero (h.1.trans h0)⟩

set_option maxRecDepth 100000 in
set_option maxHeartbeats 1000000 in
theorem clone_any (A : Option Addr) (n c : Nat) (rs : List RC) (w : World) (hn : n ≤ 1000000000000) (hr : RdR w A n rs) :
    Calls Try.prog 44 #[.slice A n c] w fun e w' => ∃ A' c', e = .returned (.slice A' n c') ∧ RdR w' A' n rs ∧ Fr w.heap.size A' ∧ Below w.heap.size w w' := by
  obtain ⟨i0, hi0, hz0, hz1, hz2⟩ := info_parts Try.infoR
  have qn : ∀ (w : World) (a : Option Addr) (n c n' c' : Nat), (binOp .eql 52 (.slice a n c) (.slice none n' c')).run Try.prog w = .ok (.bool a.isNone) w := fun w a n c n' c' => Lib.run_eql_slice_nil w _ _ a n c n' c' Try.underlying52
  have HR := Lib.hid hr
  clear hr
  cases A with
  | none =>
    obtain ⟨rfl, rfl⟩ := Rd_nil HR.out rfl
    go_enter Try.func44, Try.ntmps44
    go_wp2_with fail
    go_ret
    exact ⟨none, 0, rfl, ⟨rfl, fun h => absurd h (by omega)⟩, (fun a e => by cases e), bre _⟩
  | some a =>
    go_enter Try.func44, Try.ntmps44
    have hown : (w.alloc (.cells #[] 45)).ownsRow w.heap.size 45 4 (.slice (some ⟨w.heap.size, 0, none⟩) 0 0) 0 (rcs []) := rcs_own (cs := []) (Nat.le_refl _) (Nat.le_refl _) (Nat.zero_le _) (Blk.new w _ _) rfl rfl rfl
    have HOWN := Lib.hid hown
    have hnews : ∀ j u, (rcs rs)[j]? = some u → (w.alloc (.cells #[] 45)).cell? (a.add j) = some u := fun j u hj => by
      have hl := (List.getElem?_eq_some_iff.1 hj).1
      rw [rcs_len, HR.out.1] at hl
      obtain ⟨b, off, e, hb, hc⟩ := HR.out.2 (by omega)
      injection e with e
      subst e
      have h1 := rcs_flat rs off hc j u hj
      have h2 := (World.cell?_alloc_lt w (.cells #[] 45) ⟨b, off + j, none⟩ hb).trans h1
      unfold Addr.add
      split
      · rename_i e0; subst e0; exact h2
      · exact h2
    have HNEW := Lib.hid hnews
    have hrl : (rcs rs).length = n * 4 := by rw [rcs_len, HR.out.1]
    have HRL := Lib.hid hrl
    clear hown hnews hrl
    go_wp2_with (at_builtin; refine wpList_append_own _ rfl _ _ 52 rfl w.heap.size 45 i0 _ 4 32 Try.underlying52 hi0 hz0 hz1 hz2 rfl (by decide) _ _ _ rfl HOWN.out a n c (rcs rs) rfl HRL.out HNEW.out (rcs_one rs) (by simp only [maxLen]; omega) (by omega) (by simp) ?_; intro v' w4 hown' hgrow _; have HO' := Lib.hid hown'; have HG := Lib.hid hgrow; clear hown' hgrow)
    have ho : w4.ownsRow w.heap.size 45 4 v' n (rcs rs) := by
      have := HO'.out
      rwa [Nat.zero_add, show rcs [] = [] from rfl, List.nil_append] at this
    have hB : Below w.heap.size w w4 := (bal (bre w) _).grown HG.out (by simp) (fun g e => by cases e; exact Nat.le_refl _)
    obtain ⟨A', c', rfl, _⟩ := own_form ho
    go_ret
    exact ⟨A', c', rfl, RdR.of_own ho HR.out.1, Fr.own ho, hB⟩

set_option maxRecDepth 100000 in
set_option maxHeartbeats 1000000 in
theorem rects_any (A : Option Addr) (n c : Nat) (rs : List RC) (w : World) (hn : n ≤ 1000000000000) (hr : RdR w A n rs) :
    Calls Try.prog 30 #[.agg #[.slice A n c]] w fun e w' => ∃ A' c', e = .returned (.slice A' n c') ∧ RdR w' A' n rs ∧ Fr w.heap.size A' ∧ Below w.heap.size w w' := by
  have HR := Lib.hid hr
  clear hr
  go_enter Try.func30, Try.ntmps30
  go_wp2_with (go_at_call 44; refine (clone_any _ _ _ rs _ hn (HR.out.below (bal (bre w) _))).mono ?_; rintro e w1 ⟨A', c', rfl, hr1, hf1, hb1⟩; have HR1 := Lib.hid hr1; have HF1 := Lib.hid hf1; have HB1 := Lib.hid hb1; clear hr1 hf1 hb1)
  go_ret
  exact ⟨A', c', rfl, HR1.out, HF1.out.mono (by simp), bstep (bal (bre w) _) HB1.out⟩

end Go.Proofs.Ytcdecglbkcllaaa

namespace Go.Proofs.Ytcdecglbkcllaaa
open Go.RowKit

theorem run_neq_rc (w : World) (a b c d a' b' c' d' : Int) : (binOp .neq 45 (.agg #[.int .i64 a, .int .i64 b, .int .i64 c, .int .i64 d]) (.agg #[.int .i64 a', .int .i64 b', .int .i64 c', .int .i64 d'])).run Try.prog w = .ok (.bool (!(a == a' && b == b' && c == c' && d == d'))) w := by
  cases h1 : (a == a') <;> cases h2 : (b == b') <;> cases h3 : (c == c') <;> cases h4 : (d == d') <;> simp [go_sem, h1, h2, h3, h4]
attribute [local go_sem ↓] run_neq_rc

set_option maxRecDepth 100000 in
set_option maxHeartbeats 2000000 in
theorem rsame_eq (A A' : Option Addr) (n c c' : Nat) (rs : List RC) (w : World) (hn : n ≤ 1000000000000) (hr : RdR w A n rs) (hq : RdR w A' n rs) :
    Calls Try.prog 29 #[.slice A n c, .slice A' n c'] w fun e w' => e = .returned (.bool true) ∧ Below w.heap.size w w' := by
  have HR := Lib.hid hr
  have HQ := Lib.hid hq
  have HL := Lib.hid hr.1
  have e0 : ((n : Int) != (n : Int)) = false := by simp
  clear hr hq
  go_enter Try.func29, Try.ntmps29
  go_wp2_with fail
  go_loopw [5] (fun i wr => ∃ k : Nat, i = .int .i64 k ∧ k ≤ n ∧ Below w.heap.size w wr) (fun i _ => n - (intOf i).toNat)
  case atStart => exact ⟨0, rfl, by omega, bre w⟩
  case round =>
    obtain ⟨k, rfl, hk, hB⟩ := hrel
    have HB := Lib.hid hB
    by_cases hlt : k < n
    · obtain ⟨r, hr⟩ : ∃ r, rs[k]? = some r := ⟨_, List.getElem?_eq_getElem (by have := HL.out; omega)⟩
      obtain ⟨b, off, rfl, hb, hcl⟩ := (HR.out.below hB).2 (by omega)
      obtain ⟨b', off', rfl, hb', hcl'⟩ := (HQ.out.below hB).2 (by omega)
      obtain ⟨c0, c1, c2, c3⟩ := hcl k r hr
      obtain ⟨d0, d1, d2, d3⟩ := hcl' k r hr
      have k1 : (k : Int) < (n : Int) := by omega
      have k0 : (0 : Int) ≤ (k : Int) := by omega
      clear hB hr hcl hcl'
      go_wp2_with fail
      go_quiet (fail)
      go_wp2_with fail
      go_roundw
      case rel => exact ⟨k + 1, by go_num, by omega, below_drewN HB.out _⟩
      case measure => simp [intOf]; omega
    · obtain rfl : k = n := by omega
      clear hB
      go_wp2_with fail
      go_ret
      exact ⟨rfl, HB.out⟩

end Go.Proofs.Ytcdecglbkcllaaa

namespace Go.Proofs.Ytcdecglbkcllaaa
open Go.RowKit Go.Shelf

theorem rdp_none (w : World) (A : Option Addr) (c : Nat) : Ln.RdP w (.slice A 0 c) (Ln.unR []) := .inl ⟨rfl, A, c, rfl⟩

set_option maxRecDepth 100000 in
set_option maxHeartbeats 2000000 in
theorem path_none (A : Option Addr) (c : Nat) (X Y W H : Int) (w : World) (hb : Ln.bigB X Y W H = false) :
    Calls Try.prog 23 #[.agg #[.int .i64 X, .int .i64 Y, .int .i64 W, .int .i64 H], .slice A 0 c] w fun e w' => e = .returned (.tuple #[.slice none 0 0, .int .i64 0]) ∧ Below w.heap.size w w' := by
  have HRP := Lib.hid (fun w => rdp_none w A c)
  go_enter Try.func23, Try.ntmps23
  go_wp2_with fail
  have BZ := Lib.hid (Blk.new w 45 #[.int .i64 X, .int .i64 Y, .int .i64 W, .int .i64 H])
  have HB0 := Lib.hid (bal (bre w) (.cells #[.int .i64 X, .int .i64 Y, .int .i64 W, .int .i64 H] 45))
  have hzs : (w.alloc (.cells #[.int .i64 X, .int .i64 Y, .int .i64 W, .int .i64 H] 45)).heap.size = w.heap.size + 1 := World.size_alloc _ _
  obtain ⟨Z, hZ⟩ : ∃ Z, w.alloc (.cells #[.int .i64 X, .int .i64 Y, .int .i64 W, .int .i64 H] 45) = Z := ⟨_, rfl⟩
  rw [hZ] at BZ HB0 hzs ⊢
  clear hZ
  go_loopw [16] (fun i wr => i = .int .i64 0 ∧ Below Z.heap.size Z wr) (fun i _ => 0)
  case atStart => exact ⟨rfl, bre Z⟩
  case round =>
    obtain ⟨rfl, hB⟩ := hrel
    have HB := Lib.hid hB
    have bR := BZ.out.belowS hB
    have r0 := bR.cellV (i := 0) (v := .int .i64 X) rfl
    have r1 := bR.cellV (i := 1) (v := .int .i64 Y) rfl
    have r2 := bR.cellV (i := 2) (v := .int .i64 W) rfl
    have r3 := bR.cellV (i := 3) (v := .int .i64 H) rfl
    have hl0 : Ln.lenP [] = 0 := rfl
    have HL := Lib.hid hl0
    clear hB bR hl0
    go_wp2_with (first
      | (go_at_call 39; refine (Ln.big_any _ _ _ _ _).mono ?_; rintro e w1 ⟨rfl, hb1⟩; rw [hb]; have HB1 := Lib.hid (bstep HB.out hb1); clear hb1)
      | (go_at_call 41; refine (Ln.length_any _ [] _ (by simp) (HRP.out _)).mono ?_; rintro e w2 ⟨rfl, hb2⟩; rw [HL.out]; have HB2 := Lib.hid (bstep HB1.out hb2); clear hb2))
    clear r0 r1 r2 r3
    go_loopw [8, 31] (fun o i wr => o = .slice none 0 0 ∧ i = .int .i64 0 ∧ Below Z.heap.size Z wr) (fun _ i _ => 0)
    case atStart => exact ⟨rfl, rfl, HB2.out⟩
    case round =>
      obtain ⟨rfl, rfl, hB3⟩ := hrel
      have HB3 := Lib.hid hB3
      clear hB3
      go_wp2_with fail
      go_ret2
      exact ⟨rfl, bstep HB0.out HB3.out⟩

set_option maxRecDepth 100000 in
set_option maxHeartbeats 2000000 in
theorem rpath_none (A : Option Addr) (c : Nat) (w : World) : Calls Try.prog 28 #[.slice A 0 c] w fun e w' => e = .returned (.slice none 0 0) ∧ Below w.heap.size w w' := by
  go_enter Try.func28, Try.ntmps28
  go_wp2_with fail
  go_loopw [3, 4] (fun o i wr => o = .slice none 0 0 ∧ i = .int .i64 0 ∧ Below w.heap.size w wr) (fun _ i _ => 0)
  case atStart => exact ⟨rfl, rfl, bre w⟩
  case round =>
    obtain ⟨rfl, rfl, hB⟩ := hrel
    have HB := Lib.hid hB
    clear hB
    go_wp2_with fail
    go_ret
    exact ⟨rfl, HB.out⟩

set_option maxRecDepth 100000 in
set_option maxHeartbeats 2000000 in
theorem dots_none (A : Option Addr) (c : Nat) (w : World) : Calls Try.prog 32 #[.slice A 0 c] w fun e w' => e = .returned (.slice none 0 0) ∧ Below w.heap.size w w' := by
  go_enter Try.func32, Try.ntmps32
  go_wp2_with fail
  go_loopw [3, 4] (fun o i wr => o = .slice none 0 0 ∧ i = .int .i64 0 ∧ Below w.heap.size w wr) (fun _ i _ => 0)
  case atStart => exact ⟨rfl, rfl, bre w⟩
  case round =>
    obtain ⟨rfl, rfl, hB⟩ := hrel
    have HB := Lib.hid hB
    clear hB
    go_wp2_with fail
    go_ret
    exact ⟨rfl, HB.out⟩

end Go.Proofs.Ytcdecglbkcllaaa

namespace Go.Proofs.Ytcdecglbkcllaaa
open Go.RowKit Go.Shelf Go.Lib Go.Sort

set_option maxRecDepth 1000000 in
set_option maxHeartbeats 4000000 in
theorem region_none (A : Option Addr) (c : Nat) (w : World) :
    Calls Try.prog 24 #[.slice A 0 c] w fun e w' => ∃ (out : List RC) (A' : Option Addr) (c' : Nat), e = .returned (.agg #[.slice A' out.length c']) ∧ RdR w' A' out.length out ∧ Canon out ∧ (∀ x y, InR out x y ↔ InR ([] : List RC) x y) ∧ out.length ≤ 1000000000000 ∧ Below w.heap.size w w' := by
  have HRP := Lib.hid (fun w => rdp_none w A c)
  go_enter Try.func24, Try.ntmps24
  go_wp2_with fail
  have HB0 := Lib.hid (bal (bre w) (.cells #[.slice none 0 0] 54))
  have bZ := Blk.new w 54 #[.slice none 0 0]
  have hzs : (w.alloc (.cells #[.slice none 0 0] 54)).heap.size = w.heap.size + 1 := World.size_alloc _ _
  obtain ⟨Z, hZ⟩ : ∃ Z, w.alloc (.cells #[.slice none 0 0] 54) = Z := ⟨_, rfl⟩
  rw [hZ] at HB0 bZ hzs ⊢
  have BZ := Lib.hid bZ
  have HZS := Lib.hid hzs
  clear hZ bZ hzs
  go_loopw [19] (fun i wr => i = .int .i64 0 ∧ Below Z.heap.size Z wr) (fun i _ => 0)
  case atStart => exact ⟨rfl, bre Z⟩
  case round =>
    obtain ⟨rfl, hB⟩ := hrel
    have HB := Lib.hid hB
    have bR := BZ.out.belowS hB
    have r0 : wr.cell? ⟨w.heap.size, 0, none⟩ = some (.slice none 0 0) := (bR.cell 0).trans rfl
    have rf : wr.frozen? ⟨w.heap.size, 0, none⟩ = false := bR.frozen 0
    have rl := bR.lt
    have hl0 : Ln.lenP [] = 0 := rfl
    have HL := Lib.hid hl0
    clear hB bR hl0
    go_upto_region 13 with (go_at_call 41; refine (Ln.length_any _ [] _ (by simp) (HRP.out _)).mono ?_; rintro e w2 ⟨rfl, hb2⟩; rw [HL.out]; have HB2 := Lib.hid hb2; have s0 := (hb2.cell (p := ⟨w.heap.size, 0, none⟩) rl).trans r0; have sf := (hb2.frozen (p := ⟨w.heap.size, 0, none⟩) rl).trans rf; have sl := Nat.lt_of_lt_of_le rl hb2.size; clear hb2)
    have bx := Blk.new w2 52 #[.slice none 0 0]
    have bV := Lib.hid (bstep (bstep HB.out HB2.out) (bal (bre w2) (.cells #[.slice none 0 0] 52)))
    obtain ⟨V, hV⟩ : ∃ V, w2.alloc (.cells #[.slice none 0 0] 52) = V := ⟨_, rfl⟩
    obtain ⟨g5, hg5⟩ : ∃ g5, w2.heap.size = g5 := ⟨_, rfl⟩
    rw [hV] at bx bV ⊢
    rw [hg5] at bx ⊢
    have HX := Lib.hid bx
    have b5 := bx.cellV (i := 0) (v := .slice none 0 0) rfl
    have bR := BZ.out.belowS bV.out
    have HBR := Lib.hid bR
    clear hV hg5 bx s0 sf sl r0 rf
    go_wp2_with fail
    refine wp_loop_rounds 1 ?_
    rw [rounds_succ]
    go_wp2_with (go_at_call 43; refine (of_any none 0 0 [] _ (by omega) ⟨rfl, fun h => absurd h (by omega)⟩ (by simp)).mono ?_; rintro e w8 ⟨out, A', c', rfl, hr8, hca, hpl8, hol8, hb8⟩; have b8 := HBR.out.belowS hb8; have s0 := b8.cellV (i := 0) (v := .slice none 0 0) rfl; have sf := b8.frozen 0; have sl8 := b8.lt; have HB8 := Lib.hid b8; have HR8 := Lib.hid hr8; have HCA := Lib.hid hca; have HPL := Lib.hid hpl8; have HOL := Lib.hid hol8; have HBB8 := Lib.hid hb8; clear b8 hr8 hca hpl8 hol8 hb8)
    have hr := (HB8.out.set_ 0 (.slice A' out.length c')).cellV (i := 0) (v := .slice A' out.length c') rfl
    have hrd := RdR.farSlice HR8.out HB8.out (.slice A' out.length c')
    have hb2 := bset (bstep (bstep HB0.out bV.out) HBB8.out) (p := ⟨w.heap.size, 0, none⟩) (Nat.le_refl _) (.slice A' out.length c')
    exact bodyPost_ret (v := .agg #[.slice A' out.length c']) (by simp [results, Try.results24, go_sem, hr]) rfl ⟨out, A', c', rfl, hrd, HCA.out, fun x y => by rw [HPL.out]; rfl, HOL.out, hb2⟩

end Go.Proofs.Ytcdecglbkcllaaa
