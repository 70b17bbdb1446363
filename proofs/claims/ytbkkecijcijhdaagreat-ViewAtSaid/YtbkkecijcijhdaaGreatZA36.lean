/-
  The walks of the document's answers of a scene: Origin; the window at a place; those below one.
-/
import Derived.Test.YtbkkecijcijhdaaGreatZA35
import Derived.BigRegion
section
namespace Go.Proofs.YtbkkecijcijhdaaGreat
open Go.RowKit Go.Maps Go.Shelf

set_option maxRecDepth 100000 in
set_option maxHeartbeats 4000000 in
theorem dorigin_any (A : Option Addr) (n c : Nat) (l : List DW) (m : Int) (RW RH : Int) (w : World) (hn : n ≤ 1000) (hl : RdWs w A n l) (hu : UpOk l) (hok : ∀ d ∈ l, DWok d) (hm : -1 ≤ m ∧ m < (l.length : Int)) :
    Calls Tryz.prog 32 #[.slice A n c, .int .i64 m] w fun e w' => e = .returned (.agg #[.int .i64 (orgN (nodesW l) (bxW RW RH l) (idW m)).1, .int .i64 (orgN (nodesW l) (bxW RW RH l) (idW m)).2]) ∧ Below w.heap.size w w' := by
  have HL := Lib.hid hl
  have HLN := Lib.hid hl.recs.1
  have HU := Lib.hid hu
  have HOB := Lib.hid (fun (p : Int) (h : -1 ≤ p ∧ p < (l.length : Int)) => orgW_bd (RW := RW) (RH := RH) hu (fun d hd => ⟨(hok d hd).x, (hok d hd).y⟩) (l.length + 1) p (by omega) h.1 h.2)
  clear hl hu hok
  obtain ⟨ox, hox⟩ : ∃ ox, (orgN (nodesW l) (bxW RW RH l) (idW m)).1 = ox := ⟨_, rfl⟩
  obtain ⟨oy, hoy⟩ : ∃ oy, (orgN (nodesW l) (bxW RW RH l) (idW m)).2 = oy := ⟨_, rfl⟩
  have hmb := HOB.out m hm
  rw [hox, hoy] at hmb ⊢
  have HOX := Lib.hid hox
  have HOY := Lib.hid hoy
  clear hox hoy
  go_enter Tryz.func32, Tryz.ntmps32
  go_wp2_with fail
  have xK4 := (Blk.new w 53 #[.int .i64 0, .int .i64 0]).alloc (.cells #[.int .i64 0, .int .i64 0] 53)
  have xK5 := blk_new2 w (.cells #[.int .i64 0, .int .i64 0] 53) 53 #[.int .i64 0, .int .i64 0]
  have xHB := bal (bal (bre w) (.cells #[.int .i64 0, .int .i64 0] 53)) (.cells #[.int .i64 0, .int .i64 0] 53)
  obtain ⟨X0, hX0⟩ : ∃ X0, (w.alloc (.cells #[.int .i64 0, .int .i64 0] 53)).alloc (.cells #[.int .i64 0, .int .i64 0] 53) = X0 := ⟨_, rfl⟩
  rw [hX0] at xK4 xK5 xHB ⊢
  have K4 := Lib.hid xK4
  have K5 := Lib.hid xK5
  have HB := Lib.hid xHB
  clear xK4 xK5 xHB hX0
  go_loopw [1] (fun i wr => ∃ (p px py : Int), i = .int .i64 p ∧ (-1 ≤ p ∧ p < (l.length : Int)) ∧ (px = ox - (orgN (nodesW l) (bxW RW RH l) (idW p)).1 ∧ py = oy - (orgN (nodesW l) (bxW RW RH l) (idW p)).2) ∧ Blk wr w.heap.size 53 #[.int .i64 0, .int .i64 0] ∧ Blk wr (w.heap.size + 1) 53 #[.int .i64 px, .int .i64 py] ∧ Below w.heap.size w wr) (fun i _ => (intOf i + 1).toNat)
  case atStart => exact ⟨m, 0, 0, rfl, hm, ⟨by rw [HOX.out]; omega, by rw [HOY.out]; omega⟩, K4.out, K5.out, HB.out⟩
  case round =>
    obtain ⟨p, px, py, rfl, hp, ⟨hpx, hpy⟩, h4, h5, hB⟩ := hrel
    have hob := HOB.out p hp
    by_cases hlt : 0 ≤ p
    · obtain ⟨k, rfl⟩ : ∃ k : Nat, p = (k : Int) := ⟨p.toNat, by omega⟩
      obtain ⟨d, hx⟩ : ∃ d, l[k]? = some d := ⟨_, List.getElem?_eq_getElem (by omega)⟩
      obtain ⟨b, off, rfl, hb, hcl⟩ := HL.out.at_ (by have := HLN.out; omega)
      obtain ⟨⟨c0, c1, c2, c3⟩, c4, c5, c6, c7⟩ := hcl k d hx
      replace c0 := (hB.cell (p := ⟨b, off + k * 8, none⟩) hb).trans c0
      replace c1 := (hB.cell (p := ⟨b, off + k * 8 + 1, none⟩) hb).trans c1
      replace c2 := (hB.cell (p := ⟨b, off + k * 8 + 2, none⟩) hb).trans c2
      have k1 : (k : Int) < (n : Int) := by have := HLN.out; omega
      have hoo := orgW (RW := RW) (RH := RH) HU.out hx
      have hpp := HU.out k d hx
      have hob2 := HOB.out d.P (by have := HLN.out; omega)
      rw [hoo] at hpx hpy hob
      dsimp only at hpx hpy hob
      obtain ⟨qx, hqx⟩ : ∃ qx, (orgN (nodesW l) (bxW RW RH l) (idW d.P)).1 = qx := ⟨_, rfl⟩
      obtain ⟨qy, hqy⟩ : ∃ qy, (orgN (nodesW l) (bxW RW RH l) (idW d.P)).2 = qy := ⟨_, rfl⟩
      rw [hqx] at hpx hob hob2
      rw [hqy] at hpy hob hob2
      have HQX := Lib.hid hqx
      have HQY := Lib.hid hqy
      have wX : IntKind.i64.wrap (px + d.X) = px + d.X := IntWalk.i64_in _ (by have := HLN.out; omega)
      have wY : IntKind.i64.wrap (py + d.Y) = py + d.Y := IntWalk.i64_in _ (by have := HLN.out; omega)
      have HP5 := Lib.hid (show px + d.X = ox - qx ∧ py + d.Y = oy - qy by omega)
      have HP := Lib.hid hpp
      have q0 := h5.cellV (i := 0) (v := .int .i64 px) rfl
      have q1 := h5.cellV (i := 1) (v := .int .i64 py) rfl
      have f0 := h5.frozen 0
      have f1 := h5.frozen 1
      have l5 := h5.lt
      have n5 : ¬ (w.heap.size + 1 = b) := by have := hB.size; omega
      have n6 : ¬ (b = w.heap.size + 1) := by omega
      have K4 := Lib.hid h4
      have K5 := Lib.hid h5
      have HB := Lib.hid hB
      have HBL := Lib.hid hb
      clear hx hcl c3 c4 c5 c6 c7 hoo hpx hpy hob hob2 hqx hqy h4 h5 hB hpp hb hmb
      go_upto_region 3 with fail
      go_region
      have tk4 := ((K4.out.far (p := ⟨w.heap.size + 1, 0, none⟩) (by show _ ≠ _; simp) (.int .i64 (px + d.X))).far (p := ⟨w.heap.size + 1, 1, none⟩) (by show _ ≠ _; simp) (.int .i64 (py + d.Y))).drewT
      have tk5 := ((K5.out.set_ 0 (.int .i64 (px + d.X))).set_ 1 (.int .i64 (py + d.Y))).drewT
      have thb := (bset (p := ⟨w.heap.size + 1, 1, none⟩) (bset (p := ⟨w.heap.size + 1, 0, none⟩) HB.out (by show w.heap.size ≤ w.heap.size + 1; omega) (.int .i64 (px + d.X))) (by show w.heap.size ≤ w.heap.size + 1; omega) (.int .i64 (py + d.Y))).drew
      have hpp := HP.out
      go_wp2_with fail
      go_roundw
      case rel => exact ⟨d.P, px + d.X, py + d.Y, rfl, by omega, by rw [HQX.out, HQY.out]; exact HP5.out, tk4, tk5, thb⟩
      case measure => simp [intOf]; omega
    · obtain rfl : p = -1 := by omega
      have hz := orgN_root (bx := bxW RW RH l) (nodesW_ok HU.out)
      rw [idW_root, hz] at hpx hpy
      obtain rfl : px = ox := by simpa using hpx
      obtain rfl : py = oy := by simpa using hpy
      have q0 := h5.cellV (i := 0) (v := .int .i64 px) rfl
      have q1 := h5.cellV (i := 1) (v := .int .i64 py) rfl
      have s0 := h4.cellV (i := 0) (v := .int .i64 0) rfl
      have s1 := h4.cellV (i := 1) (v := .int .i64 0) rfl
      have f0 := h4.frozen 0
      have f1 := h4.frozen 1
      have l4 := h4.lt
      have K4 := Lib.hid h4
      have HB := Lib.hid hB
      clear h4 h5 hB hpx hpy hz
      go_wp2_with fail
      have hk := (K4.out.set_ 0 (.int .i64 px)).set_ 1 (.int .i64 py)
      have hb := bset (p := ⟨w.heap.size, 1, none⟩) (bset (p := ⟨w.heap.size, 0, none⟩) HB.out (by show w.heap.size ≤ w.heap.size; omega) (.int .i64 px)) (by show w.heap.size ≤ w.heap.size; omega) (.int .i64 py)
      have r0 := hk.cellV (i := 0) (v := .int .i64 px) rfl
      have r1 := hk.cellV (i := 1) (v := .int .i64 py) rfl
      exact bodyPost_ret (v := .agg #[.int .i64 px, .int .i64 py]) (by simp [results, Tryz.results32, go_sem, r0, r1]) rfl ⟨rfl, hb⟩

theorem zip_at {l : List DW} {k : Nat} {d : DW} (h : l[k]? = some d) : l.zipIdx[k]? = some (d, k) := by
  rw [List.getElem?_zipIdx, h]
  simp
theorem lastHit_take {hit : DW × Nat → Bool} {l : List DW} {k : Nat} {d : DW} (h : l[k]? = some d) : lastHit hit (l.zipIdx.take (k + 1)) = if hit (d, k) then (k : Int) else lastHit hit (l.zipIdx.take k) := by
  rw [take_snocI' (zip_at h), lastHit_snoc]
set_option maxRecDepth 100000 in
set_option maxHeartbeats 8000000 in
theorem dat_any (A : Option Addr) (n c : Nat) (l : List DW) (hn : n ≤ 1000) (hu : UpOk l) (hok : ∀ d ∈ l, DWok d) : ∀ (f : Nat) (p x y : Int) (w : World), RdWs w A n l → (-1 ≤ p ∧ p < (l.length : Int)) → ((l.length : Int) - p ≤ f ∧ f ≤ 2000) → (-1000000 - 200 * (2000 - f) ≤ x ∧ x ≤ 1000000 + 200 * (2000 - f)) ∧ (-1000000 - 200 * (2000 - f) ≤ y ∧ y ≤ 1000000 + 200 * (2000 - f)) →
    Calls Tryz.prog 38 #[.slice A n c, .int .i64 p, .int .i64 x, .int .i64 y] w fun e w' => e = .returned (.int .i64 (atD l f p x y)) ∧ Below w.heap.size w w' := by
  intro f
  have HU := Lib.hid hu
  have HOK := Lib.hid hok
  clear hu hok
  induction f with
  | zero => intro p x y w hl hp hf; omega
  | succ f ih =>
  intro p x y w hl hp hf hxy
  have HL := Lib.hid hl
  have HLN := Lib.hid hl.recs.1
  have IH := Lib.hid ih
  have HXY := Lib.hid hxy
  clear hl ih
  go_enter Tryz.func38, Tryz.ntmps38
  go_wp2_with fail
  go_loopw [9, 10] (fun h i wr => ∃ k : Nat, h = .int .i64 (lastHit (hitW p x y) (l.zipIdx.take k)) ∧ i = .int .i64 k ∧ k ≤ n ∧ Below w.heap.size w wr) (fun _ i _ => n - (intOf i).toNat)
  case atStart => exact ⟨0, rfl, rfl, by omega, bre w⟩
  case round =>
    obtain ⟨k, rfl, rfl, hk, hB⟩ := hrel
    by_cases hlt : k < n
    · obtain ⟨d, hx⟩ : ∃ d, l[k]? = some d := ⟨_, List.getElem?_eq_getElem (by rw [HLN.out]; exact hlt)⟩
      have HD := Lib.hid (HOK.out d (List.mem_of_getElem? hx))
      have HST := Lib.hid (lastHit_take (hit := hitW p x y) hx)
      have HLR := Lib.hid (HL.out.below hB)
      obtain ⟨b, off, rfl, hb, hcl⟩ := HLR.out.at_ (by omega)
      have HC := Lib.hid (hcl k d hx)
      have HBL := Lib.hid hb
      have HSHP := Lib.hid (HLR.out.shapes d (List.mem_of_getElem? hx))
      have HB := Lib.hid hB
      have k1 : (k : Int) < (n : Int) := by omega
      have k0 : (0 : Int) ≤ (k : Int) := by omega
      have HK := Lib.hid hk
      have HX := Lib.hid hx
      have wX : IntKind.i64.wrap (x - d.X) = x - d.X := IntWalk.i64_in _ (by have := HD.out.x; omega)
      have wY : IntKind.i64.wrap (y - d.Y) = y - d.Y := IntWalk.i64_in _ (by have := HD.out.y; omega)
      clear hx hb hcl hB hxy hf
      by_cases hP : d.P = p
      · cases hM : d.M with
        | false =>
          have HCM := Lib.hid (show wr.cell? ⟨b, off + k * 8 + 5, none⟩ = some (.bool false) by have h9 := HC.out.2.2.1; rwa [hM] at h9)
          have HIT := Lib.hid (show hitW p x y (d, k) = false by unfold hitW; simp [hM])
          have hPb : (d.P == p) = true := by rw [hP]; simp
          go_upto_region 5 with fail
          have HBW := Lib.hid (show Below wr.heap.size wr wr.drew from (bre wr).drew)
          refine wp_region_noPanic ?_
          refine wp_region_held_drew (S := (fun w' => w'.cell? ⟨b, off + k * 8, none⟩ = some (.int .i64 d.P) ∧ w'.cell? ⟨b, off + k * 8 + 5, none⟩ = some (.bool false))) (by kernel_rfl) ?_ (fun hHeld => ?_)
          · (try dsimp only)
            exact ⟨((HBW.out.cell (p := ⟨b, off + k * 8, none⟩) HBL.out).trans HC.out.1.1), ((HBW.out.cell (p := ⟨b, off + k * 8 + 5, none⟩) HBL.out).trans HCM.out)⟩
          refine Tr.take_at 0 17 (.slice (some ⟨b, off, none⟩) n c) rfl rfl (by kernel_rfl) (by kernel_rfl) (by kernel_rfl) (fun _ _ _ h => h) (Or.inl ⟨by rfl, ?_⟩) (by assumption) ?_
          · intro W0 hSw
            (try dsimp only at hSw)
            go_simp
          simp only [List.set_cons_zero, List.set_cons_succ]
          refine Tr.take_at 1 18 (.int .i64 k) rfl rfl (by kernel_rfl) (by kernel_rfl) (by kernel_rfl) (fun _ _ _ h => h) (Or.inl ⟨by rfl, ?_⟩) (by assumption) ?_
          · intro W0 hSw
            (try dsimp only at hSw)
            go_simp
          simp only [List.set_cons_zero, List.set_cons_succ]
          refine Tr.take_at 2 19 (.pointer (some ⟨b, off + k * 8, none⟩)) rfl rfl (by kernel_rfl) (by kernel_rfl) (by kernel_rfl) (fun _ _ _ h => h) (Or.inl ⟨by rfl, ?_⟩) (by assumption) ?_
          · intro W0 hSw
            (try dsimp only at hSw)
            go_simp
          simp only [List.set_cons_zero, List.set_cons_succ]
          refine Tr.take_at 3 20 (.pointer (some ⟨b, off + k * 8, none⟩)) rfl rfl (by kernel_rfl) (by kernel_rfl) (by kernel_rfl) (fun _ _ _ h => h) (Or.inl ⟨by rfl, ?_⟩) (by assumption) ?_
          · intro W0 hSw
            (try dsimp only at hSw)
            go_simp
          simp only [List.set_cons_zero, List.set_cons_succ]
          refine Tr.take_at 4 21 (.int .i64 d.P) rfl rfl (by kernel_rfl) (by kernel_rfl) (by kernel_rfl) (fun _ _ _ h => h) (Or.inl ⟨by rfl, ?_⟩) (by assumption) ?_
          · intro W0 hSw
            (try dsimp only at hSw)
            go_simp
          simp only [List.set_cons_zero, List.set_cons_succ]
          refine Tr.take_at 5 22 (.int .i64 p) rfl rfl (by kernel_rfl) (by kernel_rfl) (by kernel_rfl) (fun _ _ _ h => h) (Or.inl ⟨by rfl, ?_⟩) (by assumption) ?_
          · intro W0 hSw
            (try dsimp only at hSw)
            go_simp
          simp only [List.set_cons_zero, List.set_cons_succ]
          refine Tr.take_at 6 23 (.bool true) rfl rfl (by kernel_rfl) (by kernel_rfl) (by kernel_rfl) (fun _ _ _ h => h) (Or.inl ⟨by rfl, ?_⟩) (by assumption) ?_
          · intro W0 hSw
            (try dsimp only at hSw)
            go_simp
          simp only [List.set_cons_zero, List.set_cons_succ]
          refine Tr.take_at 7 24 (.bool true) rfl rfl (by kernel_rfl) (by kernel_rfl) (by kernel_rfl) (fun _ _ _ h => h) (Or.inl ⟨by rfl, ?_⟩) (by assumption) ?_
          · intro W0 hSw
            (try dsimp only at hSw)
            go_simp
          simp only [List.set_cons_zero, List.set_cons_succ]
          refine Tr.take_at 8 25 (.slice (some ⟨b, off, none⟩) n c) rfl rfl (by kernel_rfl) (by kernel_rfl) (by kernel_rfl) (fun _ _ _ h => h) (Or.inl ⟨by rfl, ?_⟩) (by assumption) ?_
          · intro W0 hSw
            (try dsimp only at hSw)
            go_simp
          simp only [List.set_cons_zero, List.set_cons_succ]
          refine Tr.take_at 9 26 (.int .i64 k) rfl rfl (by kernel_rfl) (by kernel_rfl) (by kernel_rfl) (fun _ _ _ h => h) (Or.inl ⟨by rfl, ?_⟩) (by assumption) ?_
          · intro W0 hSw
            (try dsimp only at hSw)
            go_simp
          simp only [List.set_cons_zero, List.set_cons_succ]
          refine Tr.take_at 10 27 (.pointer (some ⟨b, off + k * 8, none⟩)) rfl rfl (by kernel_rfl) (by kernel_rfl) (by kernel_rfl) (fun _ _ _ h => h) (Or.inl ⟨by rfl, ?_⟩) (by assumption) ?_
          · intro W0 hSw
            (try dsimp only at hSw)
            go_simp
          simp only [List.set_cons_zero, List.set_cons_succ]
          refine Tr.take_at 11 28 (.pointer (some ⟨b, off + k * 8 + 5, none⟩)) rfl rfl (by kernel_rfl) (by kernel_rfl) (by kernel_rfl) (fun _ _ _ h => h) (Or.inl ⟨by rfl, ?_⟩) (by assumption) ?_
          · intro W0 hSw
            (try dsimp only at hSw)
            go_simp
          simp only [List.set_cons_zero, List.set_cons_succ]
          refine Tr.take_at 12 29 (.bool false) rfl rfl (by kernel_rfl) (by kernel_rfl) (by kernel_rfl) (fun _ _ _ h => h) (Or.inl ⟨by rfl, ?_⟩) (by assumption) ?_
          · intro W0 hSw
            (try dsimp only at hSw)
            go_simp
          simp only [List.set_cons_zero, List.set_cons_succ]
          refine Tr.take_at 13 30 (.bool false) rfl rfl (by kernel_rfl) (by kernel_rfl) (by kernel_rfl) (fun _ _ _ h => h) (Or.inl ⟨by rfl, ?_⟩) (by assumption) ?_
          · intro W0 hSw
            (try dsimp only at hSw)
            go_simp
          simp only [List.set_cons_zero, List.set_cons_succ]
          refine Tr.take_at 14 31 (.bool false) rfl rfl (by kernel_rfl) (by kernel_rfl) (by kernel_rfl) (fun _ _ _ h => h) (Or.inl ⟨by rfl, ?_⟩) (by assumption) ?_
          · intro W0 hSw
            (try dsimp only at hSw)
            go_simp
          simp only [List.set_cons_zero, List.set_cons_succ]
          refine Tr.take_at 15 32 undef rfl rfl (by kernel_rfl) (by kernel_rfl) (by kernel_rfl) (fun _ _ _ h => h) (Or.inr ⟨by rfl, rfl⟩) (by assumption) ?_
          simp only [List.set_cons_zero, List.set_cons_succ]
          refine Tr.take_at 16 33 undef rfl rfl (by kernel_rfl) (by kernel_rfl) (by kernel_rfl) (fun _ _ _ h => h) (Or.inr ⟨by rfl, rfl⟩) (by assumption) ?_
          simp only [List.set_cons_zero, List.set_cons_succ]
          refine Tr.take_at 17 34 undef rfl rfl (by kernel_rfl) (by kernel_rfl) (by kernel_rfl) (fun _ _ _ h => h) (Or.inr ⟨by rfl, rfl⟩) (by assumption) ?_
          simp only [List.set_cons_zero, List.set_cons_succ]
          refine Tr.take_at 18 35 undef rfl rfl (by kernel_rfl) (by kernel_rfl) (by kernel_rfl) (fun _ _ _ h => h) (Or.inr ⟨by rfl, rfl⟩) (by assumption) ?_
          simp only [List.set_cons_zero, List.set_cons_succ]
          refine Tr.take_at 19 36 undef rfl rfl (by kernel_rfl) (by kernel_rfl) (by kernel_rfl) (fun _ _ _ h => h) (Or.inr ⟨by rfl, rfl⟩) (by assumption) ?_
          simp only [List.set_cons_zero, List.set_cons_succ]
          refine Tr.take_at 20 37 undef rfl rfl (by kernel_rfl) (by kernel_rfl) (by kernel_rfl) (fun _ _ _ h => h) (Or.inr ⟨by rfl, rfl⟩) (by assumption) ?_
          simp only [List.set_cons_zero, List.set_cons_succ]
          refine Tr.take_at 21 38 undef rfl rfl (by kernel_rfl) (by kernel_rfl) (by kernel_rfl) (fun _ _ _ h => h) (Or.inr ⟨by rfl, rfl⟩) (by assumption) ?_
          simp only [List.set_cons_zero, List.set_cons_succ]
          refine Tr.take_at 22 39 undef rfl rfl (by kernel_rfl) (by kernel_rfl) (by kernel_rfl) (fun _ _ _ h => h) (Or.inr ⟨by rfl, rfl⟩) (by assumption) ?_
          simp only [List.set_cons_zero, List.set_cons_succ]
          refine Tr.take_at 23 40 undef rfl rfl (by kernel_rfl) (by kernel_rfl) (by kernel_rfl) (fun _ _ _ h => h) (Or.inr ⟨by rfl, rfl⟩) (by assumption) ?_
          simp only [List.set_cons_zero, List.set_cons_succ]
          refine Tr.take_at 24 41 undef rfl rfl (by kernel_rfl) (by kernel_rfl) (by kernel_rfl) (fun _ _ _ h => h) (Or.inr ⟨by rfl, rfl⟩) (by assumption) ?_
          simp only [List.set_cons_zero, List.set_cons_succ]
          refine Tr.take_at 25 42 undef rfl rfl (by kernel_rfl) (by kernel_rfl) (by kernel_rfl) (fun _ _ _ h => h) (Or.inr ⟨by rfl, rfl⟩) (by assumption) ?_
          simp only [List.set_cons_zero, List.set_cons_succ]
          refine Tr.take_at 26 43 undef rfl rfl (by kernel_rfl) (by kernel_rfl) (by kernel_rfl) (fun _ _ _ h => h) (Or.inr ⟨by rfl, rfl⟩) (by assumption) ?_
          simp only [List.set_cons_zero, List.set_cons_succ]
          refine Tr.take_at 27 44 undef rfl rfl (by kernel_rfl) (by kernel_rfl) (by kernel_rfl) (fun _ _ _ h => h) (Or.inr ⟨by rfl, rfl⟩) (by assumption) ?_
          simp only [List.set_cons_zero, List.set_cons_succ]
          refine Tr.take_at 28 45 undef rfl rfl (by kernel_rfl) (by kernel_rfl) (by kernel_rfl) (fun _ _ _ h => h) (Or.inr ⟨by rfl, rfl⟩) (by assumption) ?_
          simp only [List.set_cons_zero, List.set_cons_succ]
          refine Tr.take_at 29 46 undef rfl rfl (by kernel_rfl) (by kernel_rfl) (by kernel_rfl) (fun _ _ _ h => h) (Or.inr ⟨by rfl, rfl⟩) (by assumption) ?_
          simp only [List.set_cons_zero, List.set_cons_succ]
          refine Tr.take_at 30 47 undef rfl rfl (by kernel_rfl) (by kernel_rfl) (by kernel_rfl) (fun _ _ _ h => h) (Or.inr ⟨by rfl, rfl⟩) (by assumption) ?_
          simp only [List.set_cons_zero, List.set_cons_succ]
          refine Tr.take_at 31 48 undef rfl rfl (by kernel_rfl) (by kernel_rfl) (by kernel_rfl) (fun _ _ _ h => h) (Or.inr ⟨by rfl, rfl⟩) (by assumption) ?_
          simp only [List.set_cons_zero, List.set_cons_succ]
          refine Tr.take_at 32 49 undef rfl rfl (by kernel_rfl) (by kernel_rfl) (by kernel_rfl) (fun _ _ _ h => h) (Or.inr ⟨by rfl, rfl⟩) (by assumption) ?_
          simp only [List.set_cons_zero, List.set_cons_succ]
          refine Tr.take_at 33 50 undef rfl rfl (by kernel_rfl) (by kernel_rfl) (by kernel_rfl) (fun _ _ _ h => h) (Or.inr ⟨by rfl, rfl⟩) (by assumption) ?_
          simp only [List.set_cons_zero, List.set_cons_succ]
          refine Tr.take_at 34 51 (.bool false) rfl rfl (by kernel_rfl) (by kernel_rfl) (by kernel_rfl) (fun _ _ _ h => h) (Or.inl ⟨by rfl, ?_⟩) (by assumption) ?_
          · intro W0 hSw
            (try dsimp only at hSw)
            go_simp
          simp only [List.set_cons_zero, List.set_cons_succ]
          refine wpAnyH_done (by kernel_rfl) ?_ _
          refine NoPanic.normal ?_
          go_wp2_with fail
          go_roundw
          case rel => exact ⟨k + 1, by rw [HST.out, HIT.out]; rfl, by go_num, by omega, bstep HB.out HBW.out⟩
          case measure => simp [intOf]; omega
        | true =>
          have HCM := Lib.hid (show wr.cell? ⟨b, off + k * 8 + 5, none⟩ = some (.bool true) by have h9 := HC.out.2.2.1; rwa [hM] at h9)
          have HM := Lib.hid hM
          have hPb : (d.P == p) = true := by rw [hP]; simp
          clear hM
          cases hh : d.has (x - d.X) (y - d.Y) with
          | false =>
            have HH := Lib.hid hh
            have HIT := Lib.hid (show hitW p x y (d, k) = false by unfold hitW; simp [hh])
            go_upto_region 5 with fail
            have HBW := Lib.hid (show Below wr.heap.size wr wr.drew from (bre wr).drew)
            refine wp_region_noPanic ?_
            refine wp_region_held_drew (S := (fun w' => w'.cell? ⟨b, off + k * 8, none⟩ = some (.int .i64 d.P) ∧ w'.cell? ⟨b, off + k * 8 + 5, none⟩ = some (.bool true) ∧ w'.cell? ⟨b, off + k * 8 + 1, none⟩ = some (.int .i64 d.X) ∧ w'.cell? ⟨b, off + k * 8 + 2, none⟩ = some (.int .i64 d.Y) ∧ w'.cell? ⟨b, off + k * 8 + 3, none⟩ = some (.int .i64 d.W) ∧ w'.cell? ⟨b, off + k * 8 + 4, none⟩ = some (.int .i64 d.H) ∧ w'.cell? ⟨b, off + k * 8 + 6, none⟩ = some (.bool d.S) ∧ w'.cell? ⟨b, off + k * 8 + 7, none⟩ = some (.slice d.A d.n d.c))) (by kernel_rfl) ?_ (fun hHeld => ?_)
            · (try dsimp only)
              exact ⟨((HBW.out.cell (p := ⟨b, off + k * 8, none⟩) HBL.out).trans HC.out.1.1), ((HBW.out.cell (p := ⟨b, off + k * 8 + 5, none⟩) HBL.out).trans HCM.out), ((HBW.out.cell (p := ⟨b, off + k * 8 + 1, none⟩) HBL.out).trans HC.out.1.2.1), ((HBW.out.cell (p := ⟨b, off + k * 8 + 2, none⟩) HBL.out).trans HC.out.1.2.2.1), ((HBW.out.cell (p := ⟨b, off + k * 8 + 3, none⟩) HBL.out).trans HC.out.1.2.2.2), ((HBW.out.cell (p := ⟨b, off + k * 8 + 4, none⟩) HBL.out).trans HC.out.2.1), ((HBW.out.cell (p := ⟨b, off + k * 8 + 6, none⟩) HBL.out).trans HC.out.2.2.2.1), ((HBW.out.cell (p := ⟨b, off + k * 8 + 7, none⟩) HBL.out).trans HC.out.2.2.2.2)⟩
            refine Tr.take_at 0 17 (.slice (some ⟨b, off, none⟩) n c) rfl rfl (by kernel_rfl) (by kernel_rfl) (by kernel_rfl) (fun _ _ _ h => h) (Or.inl ⟨by rfl, ?_⟩) (by assumption) ?_
            · intro W0 hSw
              (try dsimp only at hSw)
              go_simp
            simp only [List.set_cons_zero, List.set_cons_succ]
            refine Tr.take_at 1 18 (.int .i64 k) rfl rfl (by kernel_rfl) (by kernel_rfl) (by kernel_rfl) (fun _ _ _ h => h) (Or.inl ⟨by rfl, ?_⟩) (by assumption) ?_
            · intro W0 hSw
              (try dsimp only at hSw)
              go_simp
            simp only [List.set_cons_zero, List.set_cons_succ]
            refine Tr.take_at 2 19 (.pointer (some ⟨b, off + k * 8, none⟩)) rfl rfl (by kernel_rfl) (by kernel_rfl) (by kernel_rfl) (fun _ _ _ h => h) (Or.inl ⟨by rfl, ?_⟩) (by assumption) ?_
            · intro W0 hSw
              (try dsimp only at hSw)
              go_simp
            simp only [List.set_cons_zero, List.set_cons_succ]
            refine Tr.take_at 3 20 (.pointer (some ⟨b, off + k * 8, none⟩)) rfl rfl (by kernel_rfl) (by kernel_rfl) (by kernel_rfl) (fun _ _ _ h => h) (Or.inl ⟨by rfl, ?_⟩) (by assumption) ?_
            · intro W0 hSw
              (try dsimp only at hSw)
              go_simp
            simp only [List.set_cons_zero, List.set_cons_succ]
            refine Tr.take_at 4 21 (.int .i64 d.P) rfl rfl (by kernel_rfl) (by kernel_rfl) (by kernel_rfl) (fun _ _ _ h => h) (Or.inl ⟨by rfl, ?_⟩) (by assumption) ?_
            · intro W0 hSw
              (try dsimp only at hSw)
              go_simp
            simp only [List.set_cons_zero, List.set_cons_succ]
            refine Tr.take_at 5 22 (.int .i64 p) rfl rfl (by kernel_rfl) (by kernel_rfl) (by kernel_rfl) (fun _ _ _ h => h) (Or.inl ⟨by rfl, ?_⟩) (by assumption) ?_
            · intro W0 hSw
              (try dsimp only at hSw)
              go_simp
            simp only [List.set_cons_zero, List.set_cons_succ]
            refine Tr.take_at 6 23 (.bool true) rfl rfl (by kernel_rfl) (by kernel_rfl) (by kernel_rfl) (fun _ _ _ h => h) (Or.inl ⟨by rfl, ?_⟩) (by assumption) ?_
            · intro W0 hSw
              (try dsimp only at hSw)
              go_simp
            simp only [List.set_cons_zero, List.set_cons_succ]
            refine Tr.take_at 7 24 (.bool true) rfl rfl (by kernel_rfl) (by kernel_rfl) (by kernel_rfl) (fun _ _ _ h => h) (Or.inl ⟨by rfl, ?_⟩) (by assumption) ?_
            · intro W0 hSw
              (try dsimp only at hSw)
              go_simp
            simp only [List.set_cons_zero, List.set_cons_succ]
            refine Tr.take_at 8 25 (.slice (some ⟨b, off, none⟩) n c) rfl rfl (by kernel_rfl) (by kernel_rfl) (by kernel_rfl) (fun _ _ _ h => h) (Or.inl ⟨by rfl, ?_⟩) (by assumption) ?_
            · intro W0 hSw
              (try dsimp only at hSw)
              go_simp
            simp only [List.set_cons_zero, List.set_cons_succ]
            refine Tr.take_at 9 26 (.int .i64 k) rfl rfl (by kernel_rfl) (by kernel_rfl) (by kernel_rfl) (fun _ _ _ h => h) (Or.inl ⟨by rfl, ?_⟩) (by assumption) ?_
            · intro W0 hSw
              (try dsimp only at hSw)
              go_simp
            simp only [List.set_cons_zero, List.set_cons_succ]
            refine Tr.take_at 10 27 (.pointer (some ⟨b, off + k * 8, none⟩)) rfl rfl (by kernel_rfl) (by kernel_rfl) (by kernel_rfl) (fun _ _ _ h => h) (Or.inl ⟨by rfl, ?_⟩) (by assumption) ?_
            · intro W0 hSw
              (try dsimp only at hSw)
              go_simp
            simp only [List.set_cons_zero, List.set_cons_succ]
            refine Tr.take_at 11 28 (.pointer (some ⟨b, off + k * 8 + 5, none⟩)) rfl rfl (by kernel_rfl) (by kernel_rfl) (by kernel_rfl) (fun _ _ _ h => h) (Or.inl ⟨by rfl, ?_⟩) (by assumption) ?_
            · intro W0 hSw
              (try dsimp only at hSw)
              go_simp
            simp only [List.set_cons_zero, List.set_cons_succ]
            refine Tr.take_at 12 29 (.bool true) rfl rfl (by kernel_rfl) (by kernel_rfl) (by kernel_rfl) (fun _ _ _ h => h) (Or.inl ⟨by rfl, ?_⟩) (by assumption) ?_
            · intro W0 hSw
              (try dsimp only at hSw)
              go_simp
            simp only [List.set_cons_zero, List.set_cons_succ]
            refine Tr.take_at 13 30 (.bool true) rfl rfl (by kernel_rfl) (by kernel_rfl) (by kernel_rfl) (fun _ _ _ h => h) (Or.inl ⟨by rfl, ?_⟩) (by assumption) ?_
            · intro W0 hSw
              (try dsimp only at hSw)
              go_simp
            simp only [List.set_cons_zero, List.set_cons_succ]
            refine Tr.take_at 14 31 (.bool true) rfl rfl (by kernel_rfl) (by kernel_rfl) (by kernel_rfl) (fun _ _ _ h => h) (Or.inl ⟨by rfl, ?_⟩) (by assumption) ?_
            · intro W0 hSw
              (try dsimp only at hSw)
              go_simp
            simp only [List.set_cons_zero, List.set_cons_succ]
            refine Tr.take_at 15 32 (.slice (some ⟨b, off, none⟩) n c) rfl rfl (by kernel_rfl) (by kernel_rfl) (by kernel_rfl) (fun _ _ _ h => h) (Or.inl ⟨by rfl, ?_⟩) (by assumption) ?_
            · intro W0 hSw
              (try dsimp only at hSw)
              go_simp
            simp only [List.set_cons_zero, List.set_cons_succ]
            refine Tr.take_at 16 33 (.int .i64 k) rfl rfl (by kernel_rfl) (by kernel_rfl) (by kernel_rfl) (fun _ _ _ h => h) (Or.inl ⟨by rfl, ?_⟩) (by assumption) ?_
            · intro W0 hSw
              (try dsimp only at hSw)
              go_simp
            simp only [List.set_cons_zero, List.set_cons_succ]
            refine Tr.take_at 17 34 (.pointer (some ⟨b, off + k * 8, none⟩)) rfl rfl (by kernel_rfl) (by kernel_rfl) (by kernel_rfl) (fun _ _ _ h => h) (Or.inl ⟨by rfl, ?_⟩) (by assumption) ?_
            · intro W0 hSw
              (try dsimp only at hSw)
              go_simp
            simp only [List.set_cons_zero, List.set_cons_succ]
            refine Tr.take_at 18 35 (.agg #[.int .i64 d.P, .int .i64 d.X, .int .i64 d.Y, .int .i64 d.W, .int .i64 d.H, .bool true, .bool d.S, .slice d.A d.n d.c]) rfl rfl (by kernel_rfl) (by kernel_rfl) (by kernel_rfl) (fun _ _ _ h => h) (Or.inl ⟨by rfl, ?_⟩) (by assumption) ?_
            · intro W0 hSw
              (try dsimp only at hSw)
              go_simp
            simp only [List.set_cons_zero, List.set_cons_succ]
            refine Tr.take_at 19 36 (.int .i64 x) rfl rfl (by kernel_rfl) (by kernel_rfl) (by kernel_rfl) (fun _ _ _ h => h) (Or.inl ⟨by rfl, ?_⟩) (by assumption) ?_
            · intro W0 hSw
              (try dsimp only at hSw)
              go_simp
            simp only [List.set_cons_zero, List.set_cons_succ]
            refine Tr.take_at 20 37 (.slice (some ⟨b, off, none⟩) n c) rfl rfl (by kernel_rfl) (by kernel_rfl) (by kernel_rfl) (fun _ _ _ h => h) (Or.inl ⟨by rfl, ?_⟩) (by assumption) ?_
            · intro W0 hSw
              (try dsimp only at hSw)
              go_simp
            simp only [List.set_cons_zero, List.set_cons_succ]
            refine Tr.take_at 21 38 (.int .i64 k) rfl rfl (by kernel_rfl) (by kernel_rfl) (by kernel_rfl) (fun _ _ _ h => h) (Or.inl ⟨by rfl, ?_⟩) (by assumption) ?_
            · intro W0 hSw
              (try dsimp only at hSw)
              go_simp
            simp only [List.set_cons_zero, List.set_cons_succ]
            refine Tr.take_at 22 39 (.pointer (some ⟨b, off + k * 8, none⟩)) rfl rfl (by kernel_rfl) (by kernel_rfl) (by kernel_rfl) (fun _ _ _ h => h) (Or.inl ⟨by rfl, ?_⟩) (by assumption) ?_
            · intro W0 hSw
              (try dsimp only at hSw)
              go_simp
            simp only [List.set_cons_zero, List.set_cons_succ]
            refine Tr.take_at 23 40 (.pointer (some ⟨b, off + k * 8 + 1, none⟩)) rfl rfl (by kernel_rfl) (by kernel_rfl) (by kernel_rfl) (fun _ _ _ h => h) (Or.inl ⟨by rfl, ?_⟩) (by assumption) ?_
            · intro W0 hSw
              (try dsimp only at hSw)
              go_simp
            simp only [List.set_cons_zero, List.set_cons_succ]
            refine Tr.take_at 24 41 (.int .i64 d.X) rfl rfl (by kernel_rfl) (by kernel_rfl) (by kernel_rfl) (fun _ _ _ h => h) (Or.inl ⟨by rfl, ?_⟩) (by assumption) ?_
            · intro W0 hSw
              (try dsimp only at hSw)
              go_simp
            simp only [List.set_cons_zero, List.set_cons_succ]
            refine Tr.take_at 25 42 (.int .i64 (x - d.X)) rfl rfl (by kernel_rfl) (by kernel_rfl) (by kernel_rfl) (fun _ _ _ h => h) (Or.inl ⟨by rfl, ?_⟩) (by assumption) ?_
            · intro W0 hSw
              (try dsimp only at hSw)
              go_simp
            simp only [List.set_cons_zero, List.set_cons_succ]
            refine Tr.take_at 26 43 (.int .i64 y) rfl rfl (by kernel_rfl) (by kernel_rfl) (by kernel_rfl) (fun _ _ _ h => h) (Or.inl ⟨by rfl, ?_⟩) (by assumption) ?_
            · intro W0 hSw
              (try dsimp only at hSw)
              go_simp
            simp only [List.set_cons_zero, List.set_cons_succ]
            refine Tr.take_at 27 44 (.slice (some ⟨b, off, none⟩) n c) rfl rfl (by kernel_rfl) (by kernel_rfl) (by kernel_rfl) (fun _ _ _ h => h) (Or.inl ⟨by rfl, ?_⟩) (by assumption) ?_
            · intro W0 hSw
              (try dsimp only at hSw)
              go_simp
            simp only [List.set_cons_zero, List.set_cons_succ]
            refine Tr.take_at 28 45 (.int .i64 k) rfl rfl (by kernel_rfl) (by kernel_rfl) (by kernel_rfl) (fun _ _ _ h => h) (Or.inl ⟨by rfl, ?_⟩) (by assumption) ?_
            · intro W0 hSw
              (try dsimp only at hSw)
              go_simp
            simp only [List.set_cons_zero, List.set_cons_succ]
            refine Tr.take_at 29 46 (.pointer (some ⟨b, off + k * 8, none⟩)) rfl rfl (by kernel_rfl) (by kernel_rfl) (by kernel_rfl) (fun _ _ _ h => h) (Or.inl ⟨by rfl, ?_⟩) (by assumption) ?_
            · intro W0 hSw
              (try dsimp only at hSw)
              go_simp
            simp only [List.set_cons_zero, List.set_cons_succ]
            refine Tr.take_at 30 47 (.pointer (some ⟨b, off + k * 8 + 2, none⟩)) rfl rfl (by kernel_rfl) (by kernel_rfl) (by kernel_rfl) (fun _ _ _ h => h) (Or.inl ⟨by rfl, ?_⟩) (by assumption) ?_
            · intro W0 hSw
              (try dsimp only at hSw)
              go_simp
            simp only [List.set_cons_zero, List.set_cons_succ]
            refine Tr.take_at 31 48 (.int .i64 d.Y) rfl rfl (by kernel_rfl) (by kernel_rfl) (by kernel_rfl) (fun _ _ _ h => h) (Or.inl ⟨by rfl, ?_⟩) (by assumption) ?_
            · intro W0 hSw
              (try dsimp only at hSw)
              go_simp
            simp only [List.set_cons_zero, List.set_cons_succ]
            refine Tr.take_at 32 49 (.int .i64 (y - d.Y)) rfl rfl (by kernel_rfl) (by kernel_rfl) (by kernel_rfl) (fun _ _ _ h => h) (Or.inl ⟨by rfl, ?_⟩) (by assumption) ?_
            · intro W0 hSw
              (try dsimp only at hSw)
              go_simp
            simp only [List.set_cons_zero, List.set_cons_succ]
            refine wpAnyH_ready (rs := [33]) (by kernel_rfl) (by simp) ?_
            refine AllReadyH.cons rfl (fun K hK => ?_) AllReadyH.nil
            go_simp
            have hq := dwhas_any d (x - d.X) (y - d.Y) wr.drew HD.out (HSHP.out.below HBW.out)
            rw [HM.out, HH.out, hP] at hq
            have hq2 := hq
            clear hq
            refine hq2.mono ?_
            rintro e wc0 ⟨rfl, hbA⟩
            clear hq2
            replace HBW := Lib.hid (bstep HBW.out hbA)
            clear hbA
            go_simp
            refine hK.out _ _ ?_ (fun hHeld => ?_)
            · (try dsimp only)
              exact ⟨((HBW.out.cell (p := ⟨b, off + k * 8, none⟩) HBL.out).trans HC.out.1.1), ((HBW.out.cell (p := ⟨b, off + k * 8 + 5, none⟩) HBL.out).trans HCM.out), ((HBW.out.cell (p := ⟨b, off + k * 8 + 1, none⟩) HBL.out).trans HC.out.1.2.1), ((HBW.out.cell (p := ⟨b, off + k * 8 + 2, none⟩) HBL.out).trans HC.out.1.2.2.1), ((HBW.out.cell (p := ⟨b, off + k * 8 + 3, none⟩) HBL.out).trans HC.out.1.2.2.2), ((HBW.out.cell (p := ⟨b, off + k * 8 + 4, none⟩) HBL.out).trans HC.out.2.1), ((HBW.out.cell (p := ⟨b, off + k * 8 + 6, none⟩) HBL.out).trans HC.out.2.2.2.1), ((HBW.out.cell (p := ⟨b, off + k * 8 + 7, none⟩) HBL.out).trans HC.out.2.2.2.2)⟩
            clear hK K
            refine Tr.take_at 34 51 (.bool false) rfl rfl (by kernel_rfl) (by kernel_rfl) (by kernel_rfl) (fun _ _ _ h => h) (Or.inl ⟨by rfl, ?_⟩) (by assumption) ?_
            · intro W0 hSw
              (try dsimp only at hSw)
              go_simp
            simp only [List.set_cons_zero, List.set_cons_succ]
            refine wpAnyH_done (by kernel_rfl) ?_ _
            refine NoPanic.normal ?_
            go_wp2_with fail
            go_roundw
            case rel => exact ⟨k + 1, by rw [HST.out, HIT.out]; rfl, by go_num, by omega, bstep HB.out HBW.out⟩
            case measure => simp [intOf]; omega
          | true =>
            have HH := Lib.hid hh
            have HIT := Lib.hid (show hitW p x y (d, k) = true by unfold hitW; rw [HM.out, hh, hP]; simp)
            go_upto_region 5 with fail
            have HBW := Lib.hid (show Below wr.heap.size wr wr.drew from (bre wr).drew)
            refine wp_region_noPanic ?_
            refine wp_region_held_drew (S := (fun w' => w'.cell? ⟨b, off + k * 8, none⟩ = some (.int .i64 d.P) ∧ w'.cell? ⟨b, off + k * 8 + 5, none⟩ = some (.bool true) ∧ w'.cell? ⟨b, off + k * 8 + 1, none⟩ = some (.int .i64 d.X) ∧ w'.cell? ⟨b, off + k * 8 + 2, none⟩ = some (.int .i64 d.Y) ∧ w'.cell? ⟨b, off + k * 8 + 3, none⟩ = some (.int .i64 d.W) ∧ w'.cell? ⟨b, off + k * 8 + 4, none⟩ = some (.int .i64 d.H) ∧ w'.cell? ⟨b, off + k * 8 + 6, none⟩ = some (.bool d.S) ∧ w'.cell? ⟨b, off + k * 8 + 7, none⟩ = some (.slice d.A d.n d.c))) (by kernel_rfl) ?_ (fun hHeld => ?_)
            · (try dsimp only)
              exact ⟨((HBW.out.cell (p := ⟨b, off + k * 8, none⟩) HBL.out).trans HC.out.1.1), ((HBW.out.cell (p := ⟨b, off + k * 8 + 5, none⟩) HBL.out).trans HCM.out), ((HBW.out.cell (p := ⟨b, off + k * 8 + 1, none⟩) HBL.out).trans HC.out.1.2.1), ((HBW.out.cell (p := ⟨b, off + k * 8 + 2, none⟩) HBL.out).trans HC.out.1.2.2.1), ((HBW.out.cell (p := ⟨b, off + k * 8 + 3, none⟩) HBL.out).trans HC.out.1.2.2.2), ((HBW.out.cell (p := ⟨b, off + k * 8 + 4, none⟩) HBL.out).trans HC.out.2.1), ((HBW.out.cell (p := ⟨b, off + k * 8 + 6, none⟩) HBL.out).trans HC.out.2.2.2.1), ((HBW.out.cell (p := ⟨b, off + k * 8 + 7, none⟩) HBL.out).trans HC.out.2.2.2.2)⟩
            refine Tr.take_at 0 17 (.slice (some ⟨b, off, none⟩) n c) rfl rfl (by kernel_rfl) (by kernel_rfl) (by kernel_rfl) (fun _ _ _ h => h) (Or.inl ⟨by rfl, ?_⟩) (by assumption) ?_
            · intro W0 hSw
              (try dsimp only at hSw)
              go_simp
            simp only [List.set_cons_zero, List.set_cons_succ]
            refine Tr.take_at 1 18 (.int .i64 k) rfl rfl (by kernel_rfl) (by kernel_rfl) (by kernel_rfl) (fun _ _ _ h => h) (Or.inl ⟨by rfl, ?_⟩) (by assumption) ?_
            · intro W0 hSw
              (try dsimp only at hSw)
              go_simp
            simp only [List.set_cons_zero, List.set_cons_succ]
            refine Tr.take_at 2 19 (.pointer (some ⟨b, off + k * 8, none⟩)) rfl rfl (by kernel_rfl) (by kernel_rfl) (by kernel_rfl) (fun _ _ _ h => h) (Or.inl ⟨by rfl, ?_⟩) (by assumption) ?_
            · intro W0 hSw
              (try dsimp only at hSw)
              go_simp
            simp only [List.set_cons_zero, List.set_cons_succ]
            refine Tr.take_at 3 20 (.pointer (some ⟨b, off + k * 8, none⟩)) rfl rfl (by kernel_rfl) (by kernel_rfl) (by kernel_rfl) (fun _ _ _ h => h) (Or.inl ⟨by rfl, ?_⟩) (by assumption) ?_
            · intro W0 hSw
              (try dsimp only at hSw)
              go_simp
            simp only [List.set_cons_zero, List.set_cons_succ]
            refine Tr.take_at 4 21 (.int .i64 d.P) rfl rfl (by kernel_rfl) (by kernel_rfl) (by kernel_rfl) (fun _ _ _ h => h) (Or.inl ⟨by rfl, ?_⟩) (by assumption) ?_
            · intro W0 hSw
              (try dsimp only at hSw)
              go_simp
            simp only [List.set_cons_zero, List.set_cons_succ]
            refine Tr.take_at 5 22 (.int .i64 p) rfl rfl (by kernel_rfl) (by kernel_rfl) (by kernel_rfl) (fun _ _ _ h => h) (Or.inl ⟨by rfl, ?_⟩) (by assumption) ?_
            · intro W0 hSw
              (try dsimp only at hSw)
              go_simp
            simp only [List.set_cons_zero, List.set_cons_succ]
            refine Tr.take_at 6 23 (.bool true) rfl rfl (by kernel_rfl) (by kernel_rfl) (by kernel_rfl) (fun _ _ _ h => h) (Or.inl ⟨by rfl, ?_⟩) (by assumption) ?_
            · intro W0 hSw
              (try dsimp only at hSw)
              go_simp
            simp only [List.set_cons_zero, List.set_cons_succ]
            refine Tr.take_at 7 24 (.bool true) rfl rfl (by kernel_rfl) (by kernel_rfl) (by kernel_rfl) (fun _ _ _ h => h) (Or.inl ⟨by rfl, ?_⟩) (by assumption) ?_
            · intro W0 hSw
              (try dsimp only at hSw)
              go_simp
            simp only [List.set_cons_zero, List.set_cons_succ]
            refine Tr.take_at 8 25 (.slice (some ⟨b, off, none⟩) n c) rfl rfl (by kernel_rfl) (by kernel_rfl) (by kernel_rfl) (fun _ _ _ h => h) (Or.inl ⟨by rfl, ?_⟩) (by assumption) ?_
            · intro W0 hSw
              (try dsimp only at hSw)
              go_simp
            simp only [List.set_cons_zero, List.set_cons_succ]
            refine Tr.take_at 9 26 (.int .i64 k) rfl rfl (by kernel_rfl) (by kernel_rfl) (by kernel_rfl) (fun _ _ _ h => h) (Or.inl ⟨by rfl, ?_⟩) (by assumption) ?_
            · intro W0 hSw
              (try dsimp only at hSw)
              go_simp
            simp only [List.set_cons_zero, List.set_cons_succ]
            refine Tr.take_at 10 27 (.pointer (some ⟨b, off + k * 8, none⟩)) rfl rfl (by kernel_rfl) (by kernel_rfl) (by kernel_rfl) (fun _ _ _ h => h) (Or.inl ⟨by rfl, ?_⟩) (by assumption) ?_
            · intro W0 hSw
              (try dsimp only at hSw)
              go_simp
            simp only [List.set_cons_zero, List.set_cons_succ]
            refine Tr.take_at 11 28 (.pointer (some ⟨b, off + k * 8 + 5, none⟩)) rfl rfl (by kernel_rfl) (by kernel_rfl) (by kernel_rfl) (fun _ _ _ h => h) (Or.inl ⟨by rfl, ?_⟩) (by assumption) ?_
            · intro W0 hSw
              (try dsimp only at hSw)
              go_simp
            simp only [List.set_cons_zero, List.set_cons_succ]
            refine Tr.take_at 12 29 (.bool true) rfl rfl (by kernel_rfl) (by kernel_rfl) (by kernel_rfl) (fun _ _ _ h => h) (Or.inl ⟨by rfl, ?_⟩) (by assumption) ?_
            · intro W0 hSw
              (try dsimp only at hSw)
              go_simp
            simp only [List.set_cons_zero, List.set_cons_succ]
            refine Tr.take_at 13 30 (.bool true) rfl rfl (by kernel_rfl) (by kernel_rfl) (by kernel_rfl) (fun _ _ _ h => h) (Or.inl ⟨by rfl, ?_⟩) (by assumption) ?_
            · intro W0 hSw
              (try dsimp only at hSw)
              go_simp
            simp only [List.set_cons_zero, List.set_cons_succ]
            refine Tr.take_at 14 31 (.bool true) rfl rfl (by kernel_rfl) (by kernel_rfl) (by kernel_rfl) (fun _ _ _ h => h) (Or.inl ⟨by rfl, ?_⟩) (by assumption) ?_
            · intro W0 hSw
              (try dsimp only at hSw)
              go_simp
            simp only [List.set_cons_zero, List.set_cons_succ]
            refine Tr.take_at 15 32 (.slice (some ⟨b, off, none⟩) n c) rfl rfl (by kernel_rfl) (by kernel_rfl) (by kernel_rfl) (fun _ _ _ h => h) (Or.inl ⟨by rfl, ?_⟩) (by assumption) ?_
            · intro W0 hSw
              (try dsimp only at hSw)
              go_simp
            simp only [List.set_cons_zero, List.set_cons_succ]
            refine Tr.take_at 16 33 (.int .i64 k) rfl rfl (by kernel_rfl) (by kernel_rfl) (by kernel_rfl) (fun _ _ _ h => h) (Or.inl ⟨by rfl, ?_⟩) (by assumption) ?_
            · intro W0 hSw
              (try dsimp only at hSw)
              go_simp
            simp only [List.set_cons_zero, List.set_cons_succ]
            refine Tr.take_at 17 34 (.pointer (some ⟨b, off + k * 8, none⟩)) rfl rfl (by kernel_rfl) (by kernel_rfl) (by kernel_rfl) (fun _ _ _ h => h) (Or.inl ⟨by rfl, ?_⟩) (by assumption) ?_
            · intro W0 hSw
              (try dsimp only at hSw)
              go_simp
            simp only [List.set_cons_zero, List.set_cons_succ]
            refine Tr.take_at 18 35 (.agg #[.int .i64 d.P, .int .i64 d.X, .int .i64 d.Y, .int .i64 d.W, .int .i64 d.H, .bool true, .bool d.S, .slice d.A d.n d.c]) rfl rfl (by kernel_rfl) (by kernel_rfl) (by kernel_rfl) (fun _ _ _ h => h) (Or.inl ⟨by rfl, ?_⟩) (by assumption) ?_
            · intro W0 hSw
              (try dsimp only at hSw)
              go_simp
            simp only [List.set_cons_zero, List.set_cons_succ]
            refine Tr.take_at 19 36 (.int .i64 x) rfl rfl (by kernel_rfl) (by kernel_rfl) (by kernel_rfl) (fun _ _ _ h => h) (Or.inl ⟨by rfl, ?_⟩) (by assumption) ?_
            · intro W0 hSw
              (try dsimp only at hSw)
              go_simp
            simp only [List.set_cons_zero, List.set_cons_succ]
            refine Tr.take_at 20 37 (.slice (some ⟨b, off, none⟩) n c) rfl rfl (by kernel_rfl) (by kernel_rfl) (by kernel_rfl) (fun _ _ _ h => h) (Or.inl ⟨by rfl, ?_⟩) (by assumption) ?_
            · intro W0 hSw
              (try dsimp only at hSw)
              go_simp
            simp only [List.set_cons_zero, List.set_cons_succ]
            refine Tr.take_at 21 38 (.int .i64 k) rfl rfl (by kernel_rfl) (by kernel_rfl) (by kernel_rfl) (fun _ _ _ h => h) (Or.inl ⟨by rfl, ?_⟩) (by assumption) ?_
            · intro W0 hSw
              (try dsimp only at hSw)
              go_simp
            simp only [List.set_cons_zero, List.set_cons_succ]
            refine Tr.take_at 22 39 (.pointer (some ⟨b, off + k * 8, none⟩)) rfl rfl (by kernel_rfl) (by kernel_rfl) (by kernel_rfl) (fun _ _ _ h => h) (Or.inl ⟨by rfl, ?_⟩) (by assumption) ?_
            · intro W0 hSw
              (try dsimp only at hSw)
              go_simp
            simp only [List.set_cons_zero, List.set_cons_succ]
            refine Tr.take_at 23 40 (.pointer (some ⟨b, off + k * 8 + 1, none⟩)) rfl rfl (by kernel_rfl) (by kernel_rfl) (by kernel_rfl) (fun _ _ _ h => h) (Or.inl ⟨by rfl, ?_⟩) (by assumption) ?_
            · intro W0 hSw
              (try dsimp only at hSw)
              go_simp
            simp only [List.set_cons_zero, List.set_cons_succ]
            refine Tr.take_at 24 41 (.int .i64 d.X) rfl rfl (by kernel_rfl) (by kernel_rfl) (by kernel_rfl) (fun _ _ _ h => h) (Or.inl ⟨by rfl, ?_⟩) (by assumption) ?_
            · intro W0 hSw
              (try dsimp only at hSw)
              go_simp
            simp only [List.set_cons_zero, List.set_cons_succ]
            refine Tr.take_at 25 42 (.int .i64 (x - d.X)) rfl rfl (by kernel_rfl) (by kernel_rfl) (by kernel_rfl) (fun _ _ _ h => h) (Or.inl ⟨by rfl, ?_⟩) (by assumption) ?_
            · intro W0 hSw
              (try dsimp only at hSw)
              go_simp
            simp only [List.set_cons_zero, List.set_cons_succ]
            refine Tr.take_at 26 43 (.int .i64 y) rfl rfl (by kernel_rfl) (by kernel_rfl) (by kernel_rfl) (fun _ _ _ h => h) (Or.inl ⟨by rfl, ?_⟩) (by assumption) ?_
            · intro W0 hSw
              (try dsimp only at hSw)
              go_simp
            simp only [List.set_cons_zero, List.set_cons_succ]
            refine Tr.take_at 27 44 (.slice (some ⟨b, off, none⟩) n c) rfl rfl (by kernel_rfl) (by kernel_rfl) (by kernel_rfl) (fun _ _ _ h => h) (Or.inl ⟨by rfl, ?_⟩) (by assumption) ?_
            · intro W0 hSw
              (try dsimp only at hSw)
              go_simp
            simp only [List.set_cons_zero, List.set_cons_succ]
            refine Tr.take_at 28 45 (.int .i64 k) rfl rfl (by kernel_rfl) (by kernel_rfl) (by kernel_rfl) (fun _ _ _ h => h) (Or.inl ⟨by rfl, ?_⟩) (by assumption) ?_
            · intro W0 hSw
              (try dsimp only at hSw)
              go_simp
            simp only [List.set_cons_zero, List.set_cons_succ]
            refine Tr.take_at 29 46 (.pointer (some ⟨b, off + k * 8, none⟩)) rfl rfl (by kernel_rfl) (by kernel_rfl) (by kernel_rfl) (fun _ _ _ h => h) (Or.inl ⟨by rfl, ?_⟩) (by assumption) ?_
            · intro W0 hSw
              (try dsimp only at hSw)
              go_simp
            simp only [List.set_cons_zero, List.set_cons_succ]
            refine Tr.take_at 30 47 (.pointer (some ⟨b, off + k * 8 + 2, none⟩)) rfl rfl (by kernel_rfl) (by kernel_rfl) (by kernel_rfl) (fun _ _ _ h => h) (Or.inl ⟨by rfl, ?_⟩) (by assumption) ?_
            · intro W0 hSw
              (try dsimp only at hSw)
              go_simp
            simp only [List.set_cons_zero, List.set_cons_succ]
            refine Tr.take_at 31 48 (.int .i64 d.Y) rfl rfl (by kernel_rfl) (by kernel_rfl) (by kernel_rfl) (fun _ _ _ h => h) (Or.inl ⟨by rfl, ?_⟩) (by assumption) ?_
            · intro W0 hSw
              (try dsimp only at hSw)
              go_simp
            simp only [List.set_cons_zero, List.set_cons_succ]
            refine Tr.take_at 32 49 (.int .i64 (y - d.Y)) rfl rfl (by kernel_rfl) (by kernel_rfl) (by kernel_rfl) (fun _ _ _ h => h) (Or.inl ⟨by rfl, ?_⟩) (by assumption) ?_
            · intro W0 hSw
              (try dsimp only at hSw)
              go_simp
            simp only [List.set_cons_zero, List.set_cons_succ]
            refine wpAnyH_ready (rs := [33]) (by kernel_rfl) (by simp) ?_
            refine AllReadyH.cons rfl (fun K hK => ?_) AllReadyH.nil
            go_simp
            have hq := dwhas_any d (x - d.X) (y - d.Y) wr.drew HD.out (HSHP.out.below HBW.out)
            rw [HM.out, HH.out, hP] at hq
            have hq2 := hq
            clear hq
            refine hq2.mono ?_
            rintro e wc0 ⟨rfl, hbA⟩
            clear hq2
            replace HBW := Lib.hid (bstep HBW.out hbA)
            clear hbA
            go_simp
            refine hK.out _ _ ?_ (fun hHeld => ?_)
            · (try dsimp only)
              exact ⟨((HBW.out.cell (p := ⟨b, off + k * 8, none⟩) HBL.out).trans HC.out.1.1), ((HBW.out.cell (p := ⟨b, off + k * 8 + 5, none⟩) HBL.out).trans HCM.out), ((HBW.out.cell (p := ⟨b, off + k * 8 + 1, none⟩) HBL.out).trans HC.out.1.2.1), ((HBW.out.cell (p := ⟨b, off + k * 8 + 2, none⟩) HBL.out).trans HC.out.1.2.2.1), ((HBW.out.cell (p := ⟨b, off + k * 8 + 3, none⟩) HBL.out).trans HC.out.1.2.2.2), ((HBW.out.cell (p := ⟨b, off + k * 8 + 4, none⟩) HBL.out).trans HC.out.2.1), ((HBW.out.cell (p := ⟨b, off + k * 8 + 6, none⟩) HBL.out).trans HC.out.2.2.2.1), ((HBW.out.cell (p := ⟨b, off + k * 8 + 7, none⟩) HBL.out).trans HC.out.2.2.2.2)⟩
            clear hK K
            refine Tr.take_at 34 51 (.bool true) rfl rfl (by kernel_rfl) (by kernel_rfl) (by kernel_rfl) (fun _ _ _ h => h) (Or.inl ⟨by rfl, ?_⟩) (by assumption) ?_
            · intro W0 hSw
              (try dsimp only at hSw)
              go_simp
            simp only [List.set_cons_zero, List.set_cons_succ]
            refine wpAnyH_done (by kernel_rfl) ?_ _
            refine NoPanic.normal ?_
            go_wp2_with fail
            go_roundw
            case rel => exact ⟨k + 1, by rw [HST.out, HIT.out]; rfl, by go_num, by omega, bstep HB.out HBW.out⟩
            case measure => simp [intOf]; omega
      · have HIT := Lib.hid (show hitW p x y (d, k) = false by unfold hitW; simp [hP])
        have hPb : (d.P == p) = false := by simpa using hP
        go_upto_region 5 with fail
        have HBW := Lib.hid (show Below wr.heap.size wr wr.drew from (bre wr).drew)
        refine wp_region_noPanic ?_
        refine wp_region_held_drew (S := (fun w' => w'.cell? ⟨b, off + k * 8, none⟩ = some (.int .i64 d.P))) (by kernel_rfl) ?_ (fun hHeld => ?_)
        · (try dsimp only)
          exact ((HBW.out.cell (p := ⟨b, off + k * 8, none⟩) HBL.out).trans HC.out.1.1)
        refine Tr.take_at 0 17 (.slice (some ⟨b, off, none⟩) n c) rfl rfl (by kernel_rfl) (by kernel_rfl) (by kernel_rfl) (fun _ _ _ h => h) (Or.inl ⟨by rfl, ?_⟩) (by assumption) ?_
        · intro W0 hSw
          (try dsimp only at hSw)
          go_simp
        simp only [List.set_cons_zero, List.set_cons_succ]
        refine Tr.take_at 1 18 (.int .i64 k) rfl rfl (by kernel_rfl) (by kernel_rfl) (by kernel_rfl) (fun _ _ _ h => h) (Or.inl ⟨by rfl, ?_⟩) (by assumption) ?_
        · intro W0 hSw
          (try dsimp only at hSw)
          go_simp
        simp only [List.set_cons_zero, List.set_cons_succ]
        refine Tr.take_at 2 19 (.pointer (some ⟨b, off + k * 8, none⟩)) rfl rfl (by kernel_rfl) (by kernel_rfl) (by kernel_rfl) (fun _ _ _ h => h) (Or.inl ⟨by rfl, ?_⟩) (by assumption) ?_
        · intro W0 hSw
          (try dsimp only at hSw)
          go_simp
        simp only [List.set_cons_zero, List.set_cons_succ]
        refine Tr.take_at 3 20 (.pointer (some ⟨b, off + k * 8, none⟩)) rfl rfl (by kernel_rfl) (by kernel_rfl) (by kernel_rfl) (fun _ _ _ h => h) (Or.inl ⟨by rfl, ?_⟩) (by assumption) ?_
        · intro W0 hSw
          (try dsimp only at hSw)
          go_simp
        simp only [List.set_cons_zero, List.set_cons_succ]
        refine Tr.take_at 4 21 (.int .i64 d.P) rfl rfl (by kernel_rfl) (by kernel_rfl) (by kernel_rfl) (fun _ _ _ h => h) (Or.inl ⟨by rfl, ?_⟩) (by assumption) ?_
        · intro W0 hSw
          (try dsimp only at hSw)
          go_simp
        simp only [List.set_cons_zero, List.set_cons_succ]
        refine Tr.take_at 5 22 (.int .i64 p) rfl rfl (by kernel_rfl) (by kernel_rfl) (by kernel_rfl) (fun _ _ _ h => h) (Or.inl ⟨by rfl, ?_⟩) (by assumption) ?_
        · intro W0 hSw
          (try dsimp only at hSw)
          go_simp
        simp only [List.set_cons_zero, List.set_cons_succ]
        refine Tr.take_at 6 23 (.bool false) rfl rfl (by kernel_rfl) (by kernel_rfl) (by kernel_rfl) (fun _ _ _ h => h) (Or.inl ⟨by rfl, ?_⟩) (by assumption) ?_
        · intro W0 hSw
          (try dsimp only at hSw)
          go_simp
        simp only [List.set_cons_zero, List.set_cons_succ]
        refine Tr.take_at 7 24 (.bool false) rfl rfl (by kernel_rfl) (by kernel_rfl) (by kernel_rfl) (fun _ _ _ h => h) (Or.inl ⟨by rfl, ?_⟩) (by assumption) ?_
        · intro W0 hSw
          (try dsimp only at hSw)
          go_simp
        simp only [List.set_cons_zero, List.set_cons_succ]
        refine Tr.take_at 8 25 undef rfl rfl (by kernel_rfl) (by kernel_rfl) (by kernel_rfl) (fun _ _ _ h => h) (Or.inr ⟨by rfl, rfl⟩) (by assumption) ?_
        simp only [List.set_cons_zero, List.set_cons_succ]
        refine Tr.take_at 9 26 undef rfl rfl (by kernel_rfl) (by kernel_rfl) (by kernel_rfl) (fun _ _ _ h => h) (Or.inr ⟨by rfl, rfl⟩) (by assumption) ?_
        simp only [List.set_cons_zero, List.set_cons_succ]
        refine Tr.take_at 10 27 undef rfl rfl (by kernel_rfl) (by kernel_rfl) (by kernel_rfl) (fun _ _ _ h => h) (Or.inr ⟨by rfl, rfl⟩) (by assumption) ?_
        simp only [List.set_cons_zero, List.set_cons_succ]
        refine Tr.take_at 11 28 undef rfl rfl (by kernel_rfl) (by kernel_rfl) (by kernel_rfl) (fun _ _ _ h => h) (Or.inr ⟨by rfl, rfl⟩) (by assumption) ?_
        simp only [List.set_cons_zero, List.set_cons_succ]
        refine Tr.take_at 12 29 undef rfl rfl (by kernel_rfl) (by kernel_rfl) (by kernel_rfl) (fun _ _ _ h => h) (Or.inr ⟨by rfl, rfl⟩) (by assumption) ?_
        simp only [List.set_cons_zero, List.set_cons_succ]
        refine Tr.take_at 13 30 (.bool false) rfl rfl (by kernel_rfl) (by kernel_rfl) (by kernel_rfl) (fun _ _ _ h => h) (Or.inl ⟨by rfl, ?_⟩) (by assumption) ?_
        · intro W0 hSw
          (try dsimp only at hSw)
          go_simp
        simp only [List.set_cons_zero, List.set_cons_succ]
        refine Tr.take_at 14 31 (.bool false) rfl rfl (by kernel_rfl) (by kernel_rfl) (by kernel_rfl) (fun _ _ _ h => h) (Or.inl ⟨by rfl, ?_⟩) (by assumption) ?_
        · intro W0 hSw
          (try dsimp only at hSw)
          go_simp
        simp only [List.set_cons_zero, List.set_cons_succ]
        refine Tr.take_at 15 32 undef rfl rfl (by kernel_rfl) (by kernel_rfl) (by kernel_rfl) (fun _ _ _ h => h) (Or.inr ⟨by rfl, rfl⟩) (by assumption) ?_
        simp only [List.set_cons_zero, List.set_cons_succ]
        refine Tr.take_at 16 33 undef rfl rfl (by kernel_rfl) (by kernel_rfl) (by kernel_rfl) (fun _ _ _ h => h) (Or.inr ⟨by rfl, rfl⟩) (by assumption) ?_
        simp only [List.set_cons_zero, List.set_cons_succ]
        refine Tr.take_at 17 34 undef rfl rfl (by kernel_rfl) (by kernel_rfl) (by kernel_rfl) (fun _ _ _ h => h) (Or.inr ⟨by rfl, rfl⟩) (by assumption) ?_
        simp only [List.set_cons_zero, List.set_cons_succ]
        refine Tr.take_at 18 35 undef rfl rfl (by kernel_rfl) (by kernel_rfl) (by kernel_rfl) (fun _ _ _ h => h) (Or.inr ⟨by rfl, rfl⟩) (by assumption) ?_
        simp only [List.set_cons_zero, List.set_cons_succ]
        refine Tr.take_at 19 36 undef rfl rfl (by kernel_rfl) (by kernel_rfl) (by kernel_rfl) (fun _ _ _ h => h) (Or.inr ⟨by rfl, rfl⟩) (by assumption) ?_
        simp only [List.set_cons_zero, List.set_cons_succ]
        refine Tr.take_at 20 37 undef rfl rfl (by kernel_rfl) (by kernel_rfl) (by kernel_rfl) (fun _ _ _ h => h) (Or.inr ⟨by rfl, rfl⟩) (by assumption) ?_
        simp only [List.set_cons_zero, List.set_cons_succ]
        refine Tr.take_at 21 38 undef rfl rfl (by kernel_rfl) (by kernel_rfl) (by kernel_rfl) (fun _ _ _ h => h) (Or.inr ⟨by rfl, rfl⟩) (by assumption) ?_
        simp only [List.set_cons_zero, List.set_cons_succ]
        refine Tr.take_at 22 39 undef rfl rfl (by kernel_rfl) (by kernel_rfl) (by kernel_rfl) (fun _ _ _ h => h) (Or.inr ⟨by rfl, rfl⟩) (by assumption) ?_
        simp only [List.set_cons_zero, List.set_cons_succ]
        refine Tr.take_at 23 40 undef rfl rfl (by kernel_rfl) (by kernel_rfl) (by kernel_rfl) (fun _ _ _ h => h) (Or.inr ⟨by rfl, rfl⟩) (by assumption) ?_
        simp only [List.set_cons_zero, List.set_cons_succ]
        refine Tr.take_at 24 41 undef rfl rfl (by kernel_rfl) (by kernel_rfl) (by kernel_rfl) (fun _ _ _ h => h) (Or.inr ⟨by rfl, rfl⟩) (by assumption) ?_
        simp only [List.set_cons_zero, List.set_cons_succ]
        refine Tr.take_at 25 42 undef rfl rfl (by kernel_rfl) (by kernel_rfl) (by kernel_rfl) (fun _ _ _ h => h) (Or.inr ⟨by rfl, rfl⟩) (by assumption) ?_
        simp only [List.set_cons_zero, List.set_cons_succ]
        refine Tr.take_at 26 43 undef rfl rfl (by kernel_rfl) (by kernel_rfl) (by kernel_rfl) (fun _ _ _ h => h) (Or.inr ⟨by rfl, rfl⟩) (by assumption) ?_
        simp only [List.set_cons_zero, List.set_cons_succ]
        refine Tr.take_at 27 44 undef rfl rfl (by kernel_rfl) (by kernel_rfl) (by kernel_rfl) (fun _ _ _ h => h) (Or.inr ⟨by rfl, rfl⟩) (by assumption) ?_
        simp only [List.set_cons_zero, List.set_cons_succ]
        refine Tr.take_at 28 45 undef rfl rfl (by kernel_rfl) (by kernel_rfl) (by kernel_rfl) (fun _ _ _ h => h) (Or.inr ⟨by rfl, rfl⟩) (by assumption) ?_
        simp only [List.set_cons_zero, List.set_cons_succ]
        refine Tr.take_at 29 46 undef rfl rfl (by kernel_rfl) (by kernel_rfl) (by kernel_rfl) (fun _ _ _ h => h) (Or.inr ⟨by rfl, rfl⟩) (by assumption) ?_
        simp only [List.set_cons_zero, List.set_cons_succ]
        refine Tr.take_at 30 47 undef rfl rfl (by kernel_rfl) (by kernel_rfl) (by kernel_rfl) (fun _ _ _ h => h) (Or.inr ⟨by rfl, rfl⟩) (by assumption) ?_
        simp only [List.set_cons_zero, List.set_cons_succ]
        refine Tr.take_at 31 48 undef rfl rfl (by kernel_rfl) (by kernel_rfl) (by kernel_rfl) (fun _ _ _ h => h) (Or.inr ⟨by rfl, rfl⟩) (by assumption) ?_
        simp only [List.set_cons_zero, List.set_cons_succ]
        refine Tr.take_at 32 49 undef rfl rfl (by kernel_rfl) (by kernel_rfl) (by kernel_rfl) (fun _ _ _ h => h) (Or.inr ⟨by rfl, rfl⟩) (by assumption) ?_
        simp only [List.set_cons_zero, List.set_cons_succ]
        refine Tr.take_at 33 50 undef rfl rfl (by kernel_rfl) (by kernel_rfl) (by kernel_rfl) (fun _ _ _ h => h) (Or.inr ⟨by rfl, rfl⟩) (by assumption) ?_
        simp only [List.set_cons_zero, List.set_cons_succ]
        refine Tr.take_at 34 51 (.bool false) rfl rfl (by kernel_rfl) (by kernel_rfl) (by kernel_rfl) (fun _ _ _ h => h) (Or.inl ⟨by rfl, ?_⟩) (by assumption) ?_
        · intro W0 hSw
          (try dsimp only at hSw)
          go_simp
        simp only [List.set_cons_zero, List.set_cons_succ]
        refine wpAnyH_done (by kernel_rfl) ?_ _
        refine NoPanic.normal ?_
        go_wp2_with fail
        go_roundw
        case rel => exact ⟨k + 1, by rw [HST.out, HIT.out]; rfl, by go_num, by omega, bstep HB.out HBW.out⟩
        case measure => simp [intOf]; omega
    · obtain rfl : k = n := by omega
      have k1 : ¬ (k : Int) < (k : Int) := by omega
      have HE := Lib.hid (show lastHit (hitW p x y) (l.zipIdx.take k) = lastHit (hitW p x y) l.zipIdx by rw [List.take_of_length_le (by rw [List.length_zipIdx, HLN.out]; exact Nat.le_refl _)])
      have HB := Lib.hid hB
      clear hB
      rw [HE.out]
      by_cases hh : lastHit (hitW p x y) l.zipIdx < 0
      · have HF := Lib.hid (atD_no (f := f) hh)
        have hd : decide (lastHit (hitW p x y) l.zipIdx < 0) = true := decide_eq_true hh
        go_wp2_with fail
        go_ret
        rw [HF.out]
        exact ⟨rfl, HB.out⟩
      · obtain ⟨i, d, e, hx, hit⟩ := lastHit_is hh
        have HF := Lib.hid (atD_yes (f := f) e hx)
        rw [e]
        have HLR := Lib.hid (HL.out.below HB.out)
        have hil := (List.getElem?_eq_some_iff.1 hx).1
        obtain ⟨b, off, rfl, hb, hcl⟩ := HLR.out.at_ (by have := HLN.out; omega)
        have HC := Lib.hid (hcl i d hx)
        have HBL := Lib.hid hb
        have HD := Lib.hid (HOK.out d (List.mem_of_getElem? hx))
        have HUI := Lib.hid (show p < (i : Int) by have h1 := HU.out i d hx; have h2 := hitW_up hit; omega)
        have k2 : (i : Int) < (k : Int) := by have := HLN.out; omega
        have k0 : (0 : Int) ≤ (i : Int) := by omega
        have wX : IntKind.i64.wrap (x - d.X) = x - d.X := IntWalk.i64_in _ (by have := HD.out.x; omega)
        have wY : IntKind.i64.wrap (y - d.Y) = y - d.Y := IntWalk.i64_in _ (by have := HD.out.y; omega)
        clear hx hb hcl hit hh e
        go_upto_region 9 with fail
        have HBW := Lib.hid (show Below wr.heap.size wr wr.drew from (bre wr).drew)
        refine wp_region_noPanic ?_
        refine wp_region_held_drew (S := (fun w' => w'.cell? ⟨b, off + i * 8 + 1, none⟩ = some (.int .i64 d.X) ∧ w'.cell? ⟨b, off + i * 8 + 2, none⟩ = some (.int .i64 d.Y))) (by kernel_rfl) ?_ (fun hHeld => ?_)
        · (try dsimp only)
          exact ⟨((HBW.out.cell (p := ⟨b, off + i * 8 + 1, none⟩) HBL.out).trans HC.out.1.2.1), ((HBW.out.cell (p := ⟨b, off + i * 8 + 2, none⟩) HBL.out).trans HC.out.1.2.2.1)⟩
        refine Tr.take_at 0 56 (.slice (some ⟨b, off, none⟩) k c) rfl rfl (by kernel_rfl) (by kernel_rfl) (by kernel_rfl) (fun _ _ _ h => h) (Or.inl ⟨by rfl, ?_⟩) (by assumption) ?_
        · intro W0 hSw
          (try dsimp only at hSw)
          go_simp
        simp only [List.set_cons_zero, List.set_cons_succ]
        refine Tr.take_at 1 57 (.int .i64 i) rfl rfl (by kernel_rfl) (by kernel_rfl) (by kernel_rfl) (fun _ _ _ h => h) (Or.inl ⟨by rfl, ?_⟩) (by assumption) ?_
        · intro W0 hSw
          (try dsimp only at hSw)
          go_simp
        simp only [List.set_cons_zero, List.set_cons_succ]
        refine Tr.take_at 2 58 (.int .i64 x) rfl rfl (by kernel_rfl) (by kernel_rfl) (by kernel_rfl) (fun _ _ _ h => h) (Or.inl ⟨by rfl, ?_⟩) (by assumption) ?_
        · intro W0 hSw
          (try dsimp only at hSw)
          go_simp
        simp only [List.set_cons_zero, List.set_cons_succ]
        refine Tr.take_at 3 59 (.slice (some ⟨b, off, none⟩) k c) rfl rfl (by kernel_rfl) (by kernel_rfl) (by kernel_rfl) (fun _ _ _ h => h) (Or.inl ⟨by rfl, ?_⟩) (by assumption) ?_
        · intro W0 hSw
          (try dsimp only at hSw)
          go_simp
        simp only [List.set_cons_zero, List.set_cons_succ]
        refine Tr.take_at 4 60 (.int .i64 i) rfl rfl (by kernel_rfl) (by kernel_rfl) (by kernel_rfl) (fun _ _ _ h => h) (Or.inl ⟨by rfl, ?_⟩) (by assumption) ?_
        · intro W0 hSw
          (try dsimp only at hSw)
          go_simp
        simp only [List.set_cons_zero, List.set_cons_succ]
        refine Tr.take_at 5 61 (.pointer (some ⟨b, off + i * 8, none⟩)) rfl rfl (by kernel_rfl) (by kernel_rfl) (by kernel_rfl) (fun _ _ _ h => h) (Or.inl ⟨by rfl, ?_⟩) (by assumption) ?_
        · intro W0 hSw
          (try dsimp only at hSw)
          go_simp
        simp only [List.set_cons_zero, List.set_cons_succ]
        refine Tr.take_at 6 62 (.pointer (some ⟨b, off + i * 8 + 1, none⟩)) rfl rfl (by kernel_rfl) (by kernel_rfl) (by kernel_rfl) (fun _ _ _ h => h) (Or.inl ⟨by rfl, ?_⟩) (by assumption) ?_
        · intro W0 hSw
          (try dsimp only at hSw)
          go_simp
        simp only [List.set_cons_zero, List.set_cons_succ]
        refine Tr.take_at 7 63 (.int .i64 d.X) rfl rfl (by kernel_rfl) (by kernel_rfl) (by kernel_rfl) (fun _ _ _ h => h) (Or.inl ⟨by rfl, ?_⟩) (by assumption) ?_
        · intro W0 hSw
          (try dsimp only at hSw)
          go_simp
        simp only [List.set_cons_zero, List.set_cons_succ]
        refine Tr.take_at 8 64 (.int .i64 (x - d.X)) rfl rfl (by kernel_rfl) (by kernel_rfl) (by kernel_rfl) (fun _ _ _ h => h) (Or.inl ⟨by rfl, ?_⟩) (by assumption) ?_
        · intro W0 hSw
          (try dsimp only at hSw)
          go_simp
        simp only [List.set_cons_zero, List.set_cons_succ]
        refine Tr.take_at 9 65 (.int .i64 y) rfl rfl (by kernel_rfl) (by kernel_rfl) (by kernel_rfl) (fun _ _ _ h => h) (Or.inl ⟨by rfl, ?_⟩) (by assumption) ?_
        · intro W0 hSw
          (try dsimp only at hSw)
          go_simp
        simp only [List.set_cons_zero, List.set_cons_succ]
        refine Tr.take_at 10 66 (.slice (some ⟨b, off, none⟩) k c) rfl rfl (by kernel_rfl) (by kernel_rfl) (by kernel_rfl) (fun _ _ _ h => h) (Or.inl ⟨by rfl, ?_⟩) (by assumption) ?_
        · intro W0 hSw
          (try dsimp only at hSw)
          go_simp
        simp only [List.set_cons_zero, List.set_cons_succ]
        refine Tr.take_at 11 67 (.int .i64 i) rfl rfl (by kernel_rfl) (by kernel_rfl) (by kernel_rfl) (fun _ _ _ h => h) (Or.inl ⟨by rfl, ?_⟩) (by assumption) ?_
        · intro W0 hSw
          (try dsimp only at hSw)
          go_simp
        simp only [List.set_cons_zero, List.set_cons_succ]
        refine Tr.take_at 12 68 (.pointer (some ⟨b, off + i * 8, none⟩)) rfl rfl (by kernel_rfl) (by kernel_rfl) (by kernel_rfl) (fun _ _ _ h => h) (Or.inl ⟨by rfl, ?_⟩) (by assumption) ?_
        · intro W0 hSw
          (try dsimp only at hSw)
          go_simp
        simp only [List.set_cons_zero, List.set_cons_succ]
        refine Tr.take_at 13 69 (.pointer (some ⟨b, off + i * 8 + 2, none⟩)) rfl rfl (by kernel_rfl) (by kernel_rfl) (by kernel_rfl) (fun _ _ _ h => h) (Or.inl ⟨by rfl, ?_⟩) (by assumption) ?_
        · intro W0 hSw
          (try dsimp only at hSw)
          go_simp
        simp only [List.set_cons_zero, List.set_cons_succ]
        refine Tr.take_at 14 70 (.int .i64 d.Y) rfl rfl (by kernel_rfl) (by kernel_rfl) (by kernel_rfl) (fun _ _ _ h => h) (Or.inl ⟨by rfl, ?_⟩) (by assumption) ?_
        · intro W0 hSw
          (try dsimp only at hSw)
          go_simp
        simp only [List.set_cons_zero, List.set_cons_succ]
        refine Tr.take_at 15 71 (.int .i64 (y - d.Y)) rfl rfl (by kernel_rfl) (by kernel_rfl) (by kernel_rfl) (fun _ _ _ h => h) (Or.inl ⟨by rfl, ?_⟩) (by assumption) ?_
        · intro W0 hSw
          (try dsimp only at hSw)
          go_simp
        simp only [List.set_cons_zero, List.set_cons_succ]
        refine wpAnyH_ready (rs := [16]) (by kernel_rfl) (by simp) ?_
        refine AllReadyH.cons rfl (fun K hK => ?_) AllReadyH.nil
        go_simp
        refine (IH.out i (x - d.X) (y - d.Y) _ (HLR.out.below HBW.out) ⟨by omega, by omega⟩ ⟨by have := HUI.out; omega, by omega⟩ ⟨by have := HD.out.x; omega, by have := HD.out.y; omega⟩).mono ?_
        rintro e wc0 ⟨rfl, hbA⟩
        replace HBW := Lib.hid (bstep HBW.out hbA)
        clear hbA
        go_simp
        refine hK.out _ _ ?_ (fun hHeld => ?_)
        · (try dsimp only)
          exact ⟨((HBW.out.cell (p := ⟨b, off + i * 8 + 1, none⟩) HBL.out).trans HC.out.1.2.1), ((HBW.out.cell (p := ⟨b, off + i * 8 + 2, none⟩) HBL.out).trans HC.out.1.2.2.1)⟩
        clear hK K
        refine Tr.take_at 17 8 (.int .i64 (atD l f i (x - d.X) (y - d.Y))) rfl rfl (by kernel_rfl) (by kernel_rfl) (by kernel_rfl) (fun _ _ _ h => h) (Or.inl ⟨by rfl, ?_⟩) (by assumption) ?_
        · intro W0 hSw
          (try dsimp only at hSw)
          go_simp
        simp only [List.set_cons_zero, List.set_cons_succ]
        refine wpAnyH_done (by kernel_rfl) ?_ _
        refine NoPanic.normal ?_
        go_wp2_with fail
        go_ret
        rw [HF.out]
        exact ⟨rfl, bstep HB.out HBW.out⟩

theorem blwD_step {l : List DW} {f : Nat} {p : Int} : blwD l (f + 1) p = p :: (l.zipIdx.filter (fun q => decide (q.1.P = p) && q.1.M)).flatMap fun q => blwD l f q.2 := rfl
/-- what is told below a window of the first k windows. -/
def blwT (l : List DW) (f : Nat) (p : Int) (k : Nat) : List Int := ((l.zipIdx.take k).filter (fun q => decide (q.1.P = p) && q.1.M)).flatMap fun q => blwD l f q.2
theorem blwT_snoc {l : List DW} {f : Nat} {p : Int} {k : Nat} {d : DW} (h : l[k]? = some d) : blwT l f p (k + 1) = blwT l f p k ++ (if decide (d.P = p) && d.M then blwD l f k else []) := by
  unfold blwT
  rw [take_snocI' (zip_at h), List.filter_append, List.flatMap_append]
  congr 1
  cases hh : (decide (d.P = p) && d.M) <;> simp [hh]
theorem blwT_all {l : List DW} {f : Nat} {p : Int} {k : Nat} (h : l.length ≤ k) : p :: blwT l f p k = blwD l (f + 1) p := by
  rw [blwD_step]
  unfold blwT
  rw [List.take_of_length_le (by rw [List.length_zipIdx]; exact h)]

end Go.Proofs.YtbkkecijcijhdaaGreat
end
