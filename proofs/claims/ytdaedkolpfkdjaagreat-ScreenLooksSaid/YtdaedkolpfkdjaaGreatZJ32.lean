/-
  The walks of the document's topmost window and pixel at a place.
-/
import Derived.Test.YtdaedkolpfkdjaaGreatZJ31
import Derived.BigRegion
section
namespace Go.Proofs.YtdaedkolpfkdjaaGreat
open Go.RowKit Go.Maps Go.Shelf

/-- the document's windows, as its answers read them. -/
structure Doc34 (w : World) (A : Option Addr) (n : Nat) (l : List R34) (RW RH : Nat) : Prop where
 recs : RdF R34.cells 9 w A n l
 shapes : ∀ d ∈ l, RdR w d.A d.n d.sh
 pix : MX w l
 up : UpR l
 ok : ∀ d ∈ l, DWok d.dw
 root : ∃ r, l[0]? = some r ∧ r.W = RW ∧ r.H = RH ∧ r.S = false
 few : 1 ≤ n ∧ n ≤ 7
 area : ∀ d ∈ l, d.np = d.W * d.H ∧ d.W ≤ 128 ∧ d.H ≤ 128 ∧ Gr.Pix d.px
theorem Doc34.below {w w' : World} {A : Option Addr} {n : Nat} {l : List R34} {RW RH : Nat} (h : Doc34 w A n l RW RH) (hb : Below w.heap.size w w') : Doc34 w' A n l RW RH :=
 ⟨h.recs.below hb, fun d hd => (h.shapes d hd).below hb, h.pix.below hb, h.up, h.ok, h.root, h.few, h.area⟩
theorem Doc34.len {w : World} {A : Option Addr} {n : Nat} {l : List R34} {RW RH : Nat} (h : Doc34 w A n l RW RH) : l.length = n := h.recs.1
theorem root_has {r : R34} {RW RH : Nat} (hW : r.W = RW) (hH : r.H = RH) (hS : r.S = false) (x y : Int) : r.dw.has x y = rectP RW RH x y := by
 unfold DW.has rectP
 rw [show r.dw.S = false from hS, show r.dw.W = (RW : Int) from by rw [← hW]; rfl, show r.dw.H = (RH : Int) from by rw [← hH]; rfl]
 simp
def topV (l : List R34) (RW RH : Nat) (x y : Int) : Value := if rectP RW RH x y then .tuple #[.int .i64 (topI l x y), .int .i64 (topL l x y).1, .int .i64 (topL l x y).2] else .tuple #[.int .i64 (-1), .int .i64 0, .int .i64 0]
set_option maxRecDepth 100000 in
set_option maxHeartbeats 8000000 in
theorem top34_any (A : Option Addr) (n c : Nat) (l : List R34) (RW RH : Nat) (x y : Int) (w : World) (h : Doc34 w A n l RW RH) :
 Calls Tryz.prog 48 #[.slice A n c, .int .i64 x, .int .i64 y] w fun e w' => e = .returned (topV l RW RH x y) ∧ Below w.heap.size w w' := by
 have HD := Lib.hid h
 have HLN := Lib.hid h.len
 have hn1 := h.few.1
 have hn7 := h.few.2
 obtain ⟨r, hr0, hrW, hrH, hrS⟩ := h.root
 have HRT := Lib.hid (show r.dw.has x y = rectP RW RH x y from root_has hrW hrH hrS x y)
 have HRO := Lib.hid (h.ok r (List.mem_of_getElem? hr0))
 have HRS := Lib.hid (h.shapes r (List.mem_of_getElem? hr0))
 have hl1 : 1 ≤ l.length := by rw [HLN.out]; exact hn1
 have HF := Lib.hid (topI_fuel h.up hl1 x y)
 have HBX := Lib.hid (show rectP RW RH x y = true → (0 ≤ x ∧ x ≤ 128) ∧ 0 ≤ y ∧ y ≤ 128 from fun hh => by
  have h1 := (rectP_iff x y).1 hh
  have h2 := (h.ok r (List.mem_of_getElem? hr0)).w
  have h3 := (h.ok r (List.mem_of_getElem? hr0)).h
  have h4 : r.dw.W = (r.W : Int) := rfl
  have h5 : r.dw.H = (r.H : Int) := rfl
  omega)
 obtain ⟨b, off, rfl, hbl, hcl⟩ := h.recs.2 (by omega)
 have hrow := fun i u hu => hcl 0 r hr0 i u hu
 have x0 := hrow 0 _ rfl
 have x1 := hrow 1 _ rfl
 have x2 := hrow 2 _ rfl
 have x3 := hrow 3 _ rfl
 have x4 := hrow 4 _ rfl
 have x5 := hrow 5 _ rfl
 have x6 := hrow 6 _ rfl
 have x7 := hrow 7 _ rfl
 have x8 := hrow 8 _ rfl
 simp only [Nat.zero_mul, Nat.add_zero] at x0 x1 x2 x3 x4 x5 x6 x7 x8
 have z0 : ((n : Int) == 0) = false := by rw [beq_eq_false_iff_ne]; omega
 have z1 : (0 : Int) < (n : Int) := by omega
 have HBL := Lib.hid hbl
 clear h hr0 hrW hrH hrS hl1 hbl hcl hrow
 go_enter Tryz.func48, Tryz.ntmps48
 go_wp2_with fail
 refine (in34_any r x y _ HRO.out HRS.out).mono ?_
 rintro e w1 ⟨rfl, hb1⟩
 rw [HRT.out]
 have HB := Lib.hid hb1
 clear hb1 x0 x1 x2 x3 x4 x5 x6 x7 x8 z0
 cases hxy : rectP (RW : Int) (RH : Int) x y with
 | false =>
  have HV := Lib.hid (show topV l RW RH x y = .tuple #[.int .i64 (-1), .int .i64 0, .int .i64 0] by unfold topV; rw [hxy]; rfl)
  clear hxy
  go_wp2_with fail
  exact bodyPost_ret (v := .tuple #[.int .i64 (-1), .int .i64 0, .int .i64 0]) (by simp [results, Tryz.results48, go_sem]) rfl ⟨by rw [HV.out], HB.out⟩
 | true =>
  have HV := Lib.hid (show topV l RW RH x y = .tuple #[.int .i64 (topI l x y), .int .i64 (topL l x y).1, .int .i64 (topL l x y).2] by unfold topV; rw [hxy]; rfl)
  have hbx := HBX.out hxy
  clear hxy
  go_wp2_with fail
  go_loopw [9, 1, 2, 10, 11] (fun a s1 s2 _ _ wr => ∃ (m f : Nat) (X Y : Int), a = .int .i64 m ∧ s1 = .int .i64 X ∧ s2 = .int .i64 Y ∧ m < n ∧ n ≤ f + m ∧ (topI l x y = atD (dws l) f ((m : Int) - 1) X Y + 1 ∧ topL l x y = locD (dws l) f ((m : Int) - 1) X Y) ∧ ((0 ≤ X ∧ X ≤ 128) ∧ 0 ≤ Y ∧ Y ≤ 128) ∧ Below w.heap.size w wr) (fun a _ _ _ _ _ => n - (intOf a).toNat)
  case atStart => exact ⟨0, n, x, y, rfl, rfl, rfl, by omega, by omega, by rw [← HLN.out]; exact HF.out, hbx, HB.out⟩
  case round =>
   obtain ⟨m, f, X, Y, rfl, rfl, rfl, hm, hf, hat, hXY, hB⟩ := hrel
   have HAT := Lib.hid hat
   have HBO := Lib.hid hB
   have HXY := Lib.hid hXY
   obtain ⟨f, rfl⟩ : ∃ g, f = g + 1 := ⟨f - 1, by omega⟩
   have t0 : IntKind.i64.wrap ((n : Int) - 1) = ((n - 1 : Nat) : Int) := by rw [IntWalk.i64_in _ (by omega)]; omega
   clear hat hB hXY hbx
   go_wp2_with fail
   go_loopw [10, 11] (fun s10 s11 wr => ∃ rr : Nat, s11 = .int .i64 rr ∧ rr ≤ n - 1 ∧ ((s10 = .int .i64 (-1) ∧ lastHit (hitW ((m : Int) - 1) X Y) (dws l).zipIdx = lastHit (hitW ((m : Int) - 1) X Y) ((dws l).zipIdx.take rr)) ∨ ∃ q : Nat, s10 = .int .i64 q ∧ (1 ≤ q ∧ q ≤ n - 1) ∧ lastHit (hitW ((m : Int) - 1) X Y) (dws l).zipIdx = (q : Int) - 1) ∧ Below w.heap.size w wr) (fun _ s11 _ => (intOf s11).toNat)
   case atStart => exact ⟨n - 1, rfl, Nat.le_refl _, .inl ⟨rfl, by rw [List.take_of_length_le (by rw [List.length_zipIdx, dws_len, HLN.out]; exact Nat.le_refl _)]⟩, HBO.out⟩
   case round =>
    obtain ⟨rr, rfl, hrr, hcase, hB⟩ := hrel
    have HBI := Lib.hid hB
    clear hB t0
    rcases hcase with ⟨rfl, hlh⟩ | ⟨q, rfl, hq, hlh⟩
    ·
     have HLH := Lib.hid hlh
     clear hlh
     by_cases h0 : rr = 0
     ·
      subst h0
      have hnone : lastHit (hitW ((m : Int) - 1) X Y) (dws l).zipIdx < 0 := by rw [HLH.out]; show (-1 : Int) < 0; omega
      have HT := Lib.hid (show topI l x y = (m : Int) ∧ topL l x y = (X, Y) from ⟨by rw [HAT.out.1, atD_no hnone]; omega, by rw [HAT.out.2, locD_no hnone]⟩)
      clear hnone
      go_wp2_with fail
      exact bodyPost_ret (v := .tuple #[.int .i64 (m : Int), .int .i64 X, .int .i64 Y]) (by simp [results, Tryz.results48, go_sem]) rfl ⟨by rw [HV.out, HT.out.1, HT.out.2], HBI.out⟩
     ·
      obtain ⟨k, hk⟩ : ∃ k, k + 1 = rr := ⟨rr - 1, by omega⟩
      obtain ⟨d, hd⟩ : ∃ d, l[rr]? = some d := ⟨_, List.getElem?_eq_getElem (by rw [HLN.out]; omega)⟩
      have hdw : (dws l)[k]? = some d.dw := by rw [dws_at, hk, hd]; rfl
      have HST := Lib.hid (show lastHit (hitW ((m : Int) - 1) X Y) (dws l).zipIdx = if hitW ((m : Int) - 1) X Y (d.dw, k) then (k : Int) else lastHit (hitW ((m : Int) - 1) X Y) ((dws l).zipIdx.take k) by rw [HLH.out, ← hk]; exact lastHit_take hdw)
      have HDO := Lib.hid (HD.out.ok d (List.mem_of_getElem? hd))
      have HDS := Lib.hid (HD.out.shapes d (List.mem_of_getElem? hd))
      have HC := Lib.hid (show ∀ (i : Nat) (u : Value), d.cells[i]? = some u → w.cell? ⟨b, off + rr * 9 + i, none⟩ = some u from fun i u hu => by
       obtain ⟨b', off', e, _, hcl⟩ := HD.out.recs.2 (by omega)
       cases e
       exact hcl rr d hd i u hu)
      have HK := Lib.hid hk
      have k1 : (0 : Int) < (rr : Int) := by omega
      have k2 : (rr : Int) < (n : Int) := by omega
      have k3 : (0 : Int) ≤ (rr : Int) := by omega
      have t1 : IntKind.i64.wrap ((rr : Int) - 1) = (k : Int) := by rw [IntWalk.i64_in _ (by omega)]; omega
      have hdx := HDO.out.x
      have hdy := HDO.out.y
      have hxy := HXY.out
      have hdx' : d.dw.X = d.X := rfl
      have hdy' : d.dw.Y = d.Y := rfl
      have wX : IntKind.i64.wrap (X - d.X) = X - d.X := IntWalk.i64_in _ (by omega)
      have wY : IntKind.i64.wrap (Y - d.Y) = Y - d.Y := IntWalk.i64_in _ (by omega)
      clear hd hdw hk hdx hdy hxy hdx' hdy'
      by_cases hP : d.U = (m : Int)
      ·
       have hPb : (d.U == (m : Int)) = true := by rw [hP]; simp
       have hP2 : d.dw.P = (m : Int) - 1 := by show d.U - 1 = _; omega
       cases hM : d.M with
       | false =>
        have HCM := Lib.hid (show w.cell? ⟨b, off + rr * 9 + 5, none⟩ = some (.bool false) by have h9 := HC.out 5 _ rfl; rwa [hM] at h9)
        have HIT := Lib.hid (show hitW ((m : Int) - 1) X Y (d.dw, k) = false by unfold hitW; rw [show d.dw.M = false from hM]; simp)
        have HM := Lib.hid hM
        clear hM hP2
        as_aux_lemma =>
         go_upto_region 8 with fail
         have HBW := Lib.hid (show Below wr.heap.size wr wr.drew from (bre wr).drew)
         have KW := Lib.hid (fun (W' : World) (h : Below wr.heap.size wr W') => show (fun w' => w'.cell? ⟨b, off + rr * 9, none⟩ = some (.int .i64 d.U) ∧ w'.cell? ⟨b, off + rr * 9 + 5, none⟩ = some (.bool false)) W' from ⟨(((bstep HBI.out h).cell (p := ⟨b, off + rr * 9, none⟩) HBL.out).trans (HC.out 0 _ rfl)), (((bstep HBI.out h).cell (p := ⟨b, off + rr * 9 + 5, none⟩) HBL.out).trans HCM.out)⟩)
         refine wp_region_noPanic ?_
         refine wp_region_held_drew (S := (fun w' => w'.cell? ⟨b, off + rr * 9, none⟩ = some (.int .i64 d.U) ∧ w'.cell? ⟨b, off + rr * 9 + 5, none⟩ = some (.bool false))) (by kernel_rfl) ?_ (fun _ => ?_)
         ·
          (try dsimp only)
          exact ⟨(((bstep HBI.out HBW.out).cell (p := ⟨b, off + rr * 9, none⟩) HBL.out).trans (HC.out 0 _ rfl)), (((bstep HBI.out HBW.out).cell (p := ⟨b, off + rr * 9 + 5, none⟩) HBL.out).trans HCM.out)⟩
         refine Tr.take_at 0 35 (.slice (some ⟨b, off, none⟩) n c) rfl rfl (by kernel_rfl) (by kernel_rfl) (by kernel_rfl) (fun _ _ _ h => h) (Or.inl ⟨by rfl, ?_⟩) (by assumption) ?_
         ·
          intro W0 hSw
          (try dsimp only at hSw)
          go_simp
         simp only [List.set_cons_zero, List.set_cons_succ]
         refine Tr.take_at 1 36 (.int .i64 rr) rfl rfl (by kernel_rfl) (by kernel_rfl) (by kernel_rfl) (fun _ _ _ h => h) (Or.inl ⟨by rfl, ?_⟩) (by assumption) ?_
         ·
          intro W0 hSw
          (try dsimp only at hSw)
          go_simp
         simp only [List.set_cons_zero, List.set_cons_succ]
         refine Tr.take_at 2 37 (.pointer (some ⟨b, off + rr * 9, none⟩)) rfl rfl (by kernel_rfl) (by kernel_rfl) (by kernel_rfl) (fun _ _ _ h => h) (Or.inl ⟨by rfl, ?_⟩) (by assumption) ?_
         ·
          intro W0 hSw
          (try dsimp only at hSw)
          go_simp
         simp only [List.set_cons_zero, List.set_cons_succ]
         refine Tr.take_at 3 38 (.pointer (some ⟨b, off + rr * 9, none⟩)) rfl rfl (by kernel_rfl) (by kernel_rfl) (by kernel_rfl) (fun _ _ _ h => h) (Or.inl ⟨by rfl, ?_⟩) (by assumption) ?_
         ·
          intro W0 hSw
          (try dsimp only at hSw)
          go_simp
         simp only [List.set_cons_zero, List.set_cons_succ]
         refine Tr.take_at 4 39 (.int .i64 d.U) rfl rfl (by kernel_rfl) (by kernel_rfl) (by kernel_rfl) (fun _ _ _ h => h) (Or.inl ⟨by rfl, ?_⟩) (by assumption) ?_
         ·
          intro W0 hSw
          (try dsimp only at hSw)
          go_simp
         simp only [List.set_cons_zero, List.set_cons_succ]
         refine Tr.take_at 5 40 (.int .i64 m) rfl rfl (by kernel_rfl) (by kernel_rfl) (by kernel_rfl) (fun _ _ _ h => h) (Or.inl ⟨by rfl, ?_⟩) (by assumption) ?_
         ·
          intro W0 hSw
          (try dsimp only at hSw)
          go_simp
         simp only [List.set_cons_zero, List.set_cons_succ]
         refine Tr.take_at 6 41 (.bool true) rfl rfl (by kernel_rfl) (by kernel_rfl) (by kernel_rfl) (fun _ _ _ h => h) (Or.inl ⟨by rfl, ?_⟩) (by assumption) ?_
         ·
          intro W0 hSw
          (try dsimp only at hSw)
          go_simp
         simp only [List.set_cons_zero, List.set_cons_succ]
         refine Tr.take_at 7 42 (.bool true) rfl rfl (by kernel_rfl) (by kernel_rfl) (by kernel_rfl) (fun _ _ _ h => h) (Or.inl ⟨by rfl, ?_⟩) (by assumption) ?_
         ·
          intro W0 hSw
          (try dsimp only at hSw)
          go_simp
         simp only [List.set_cons_zero, List.set_cons_succ]
         refine Tr.take_at 8 43 (.slice (some ⟨b, off, none⟩) n c) rfl rfl (by kernel_rfl) (by kernel_rfl) (by kernel_rfl) (fun _ _ _ h => h) (Or.inl ⟨by rfl, ?_⟩) (by assumption) ?_
         ·
          intro W0 hSw
          (try dsimp only at hSw)
          go_simp
         simp only [List.set_cons_zero, List.set_cons_succ]
         refine Tr.take_at 9 44 (.int .i64 rr) rfl rfl (by kernel_rfl) (by kernel_rfl) (by kernel_rfl) (fun _ _ _ h => h) (Or.inl ⟨by rfl, ?_⟩) (by assumption) ?_
         ·
          intro W0 hSw
          (try dsimp only at hSw)
          go_simp
         simp only [List.set_cons_zero, List.set_cons_succ]
         refine Tr.take_at 10 45 (.pointer (some ⟨b, off + rr * 9, none⟩)) rfl rfl (by kernel_rfl) (by kernel_rfl) (by kernel_rfl) (fun _ _ _ h => h) (Or.inl ⟨by rfl, ?_⟩) (by assumption) ?_
         ·
          intro W0 hSw
          (try dsimp only at hSw)
          go_simp
         simp only [List.set_cons_zero, List.set_cons_succ]
         refine Tr.take_at 11 46 (.pointer (some ⟨b, off + rr * 9 + 5, none⟩)) rfl rfl (by kernel_rfl) (by kernel_rfl) (by kernel_rfl) (fun _ _ _ h => h) (Or.inl ⟨by rfl, ?_⟩) (by assumption) ?_
         ·
          intro W0 hSw
          (try dsimp only at hSw)
          go_simp
         simp only [List.set_cons_zero, List.set_cons_succ]
         refine Tr.take_at 12 47 (.bool false) rfl rfl (by kernel_rfl) (by kernel_rfl) (by kernel_rfl) (fun _ _ _ h => h) (Or.inl ⟨by rfl, ?_⟩) (by assumption) ?_
         ·
          intro W0 hSw
          (try dsimp only at hSw)
          go_simp
         simp only [List.set_cons_zero, List.set_cons_succ]
         refine Tr.take_at 13 48 (.bool false) rfl rfl (by kernel_rfl) (by kernel_rfl) (by kernel_rfl) (fun _ _ _ h => h) (Or.inl ⟨by rfl, ?_⟩) (by assumption) ?_
         ·
          intro W0 hSw
          (try dsimp only at hSw)
          go_simp
         simp only [List.set_cons_zero, List.set_cons_succ]
         refine Tr.take_at 14 49 (.bool false) rfl rfl (by kernel_rfl) (by kernel_rfl) (by kernel_rfl) (fun _ _ _ h => h) (Or.inl ⟨by rfl, ?_⟩) (by assumption) ?_
         ·
          intro W0 hSw
          (try dsimp only at hSw)
          go_simp
         simp only [List.set_cons_zero, List.set_cons_succ]
         refine Tr.take_at 15 50 undef rfl rfl (by kernel_rfl) (by kernel_rfl) (by kernel_rfl) (fun _ _ _ h => h) (Or.inr ⟨by rfl, rfl⟩) (by assumption) ?_; simp only [List.set_cons_zero, List.set_cons_succ]
         refine Tr.take_at 16 51 undef rfl rfl (by kernel_rfl) (by kernel_rfl) (by kernel_rfl) (fun _ _ _ h => h) (Or.inr ⟨by rfl, rfl⟩) (by assumption) ?_; simp only [List.set_cons_zero, List.set_cons_succ]
         refine Tr.take_at 17 52 undef rfl rfl (by kernel_rfl) (by kernel_rfl) (by kernel_rfl) (fun _ _ _ h => h) (Or.inr ⟨by rfl, rfl⟩) (by assumption) ?_; simp only [List.set_cons_zero, List.set_cons_succ]
         refine Tr.take_at 18 53 undef rfl rfl (by kernel_rfl) (by kernel_rfl) (by kernel_rfl) (fun _ _ _ h => h) (Or.inr ⟨by rfl, rfl⟩) (by assumption) ?_; simp only [List.set_cons_zero, List.set_cons_succ]
         refine Tr.take_at 19 54 undef rfl rfl (by kernel_rfl) (by kernel_rfl) (by kernel_rfl) (fun _ _ _ h => h) (Or.inr ⟨by rfl, rfl⟩) (by assumption) ?_; simp only [List.set_cons_zero, List.set_cons_succ]
         refine Tr.take_at 20 55 undef rfl rfl (by kernel_rfl) (by kernel_rfl) (by kernel_rfl) (fun _ _ _ h => h) (Or.inr ⟨by rfl, rfl⟩) (by assumption) ?_; simp only [List.set_cons_zero, List.set_cons_succ]
         refine Tr.take_at 21 56 undef rfl rfl (by kernel_rfl) (by kernel_rfl) (by kernel_rfl) (fun _ _ _ h => h) (Or.inr ⟨by rfl, rfl⟩) (by assumption) ?_; simp only [List.set_cons_zero, List.set_cons_succ]
         refine Tr.take_at 22 57 undef rfl rfl (by kernel_rfl) (by kernel_rfl) (by kernel_rfl) (fun _ _ _ h => h) (Or.inr ⟨by rfl, rfl⟩) (by assumption) ?_; simp only [List.set_cons_zero, List.set_cons_succ]
         refine Tr.take_at 23 58 undef rfl rfl (by kernel_rfl) (by kernel_rfl) (by kernel_rfl) (fun _ _ _ h => h) (Or.inr ⟨by rfl, rfl⟩) (by assumption) ?_; simp only [List.set_cons_zero, List.set_cons_succ]
         refine Tr.take_at 24 59 undef rfl rfl (by kernel_rfl) (by kernel_rfl) (by kernel_rfl) (fun _ _ _ h => h) (Or.inr ⟨by rfl, rfl⟩) (by assumption) ?_; simp only [List.set_cons_zero, List.set_cons_succ]
         refine Tr.take_at 25 60 undef rfl rfl (by kernel_rfl) (by kernel_rfl) (by kernel_rfl) (fun _ _ _ h => h) (Or.inr ⟨by rfl, rfl⟩) (by assumption) ?_; simp only [List.set_cons_zero, List.set_cons_succ]
         refine Tr.take_at 26 61 undef rfl rfl (by kernel_rfl) (by kernel_rfl) (by kernel_rfl) (fun _ _ _ h => h) (Or.inr ⟨by rfl, rfl⟩) (by assumption) ?_; simp only [List.set_cons_zero, List.set_cons_succ]
         refine Tr.take_at 27 62 undef rfl rfl (by kernel_rfl) (by kernel_rfl) (by kernel_rfl) (fun _ _ _ h => h) (Or.inr ⟨by rfl, rfl⟩) (by assumption) ?_; simp only [List.set_cons_zero, List.set_cons_succ]
         refine Tr.take_at 28 63 undef rfl rfl (by kernel_rfl) (by kernel_rfl) (by kernel_rfl) (fun _ _ _ h => h) (Or.inr ⟨by rfl, rfl⟩) (by assumption) ?_; simp only [List.set_cons_zero, List.set_cons_succ]
         refine Tr.take_at 29 64 undef rfl rfl (by kernel_rfl) (by kernel_rfl) (by kernel_rfl) (fun _ _ _ h => h) (Or.inr ⟨by rfl, rfl⟩) (by assumption) ?_; simp only [List.set_cons_zero, List.set_cons_succ]
         refine Tr.take_at 30 65 undef rfl rfl (by kernel_rfl) (by kernel_rfl) (by kernel_rfl) (fun _ _ _ h => h) (Or.inr ⟨by rfl, rfl⟩) (by assumption) ?_; simp only [List.set_cons_zero, List.set_cons_succ]
         refine Tr.take_at 31 66 undef rfl rfl (by kernel_rfl) (by kernel_rfl) (by kernel_rfl) (fun _ _ _ h => h) (Or.inr ⟨by rfl, rfl⟩) (by assumption) ?_; simp only [List.set_cons_zero, List.set_cons_succ]
         refine Tr.take_at 32 67 undef rfl rfl (by kernel_rfl) (by kernel_rfl) (by kernel_rfl) (fun _ _ _ h => h) (Or.inr ⟨by rfl, rfl⟩) (by assumption) ?_; simp only [List.set_cons_zero, List.set_cons_succ]
         refine Tr.take_at 33 68 undef rfl rfl (by kernel_rfl) (by kernel_rfl) (by kernel_rfl) (fun _ _ _ h => h) (Or.inr ⟨by rfl, rfl⟩) (by assumption) ?_; simp only [List.set_cons_zero, List.set_cons_succ]
         refine Tr.take_at 34 69 (.bool false) rfl rfl (by kernel_rfl) (by kernel_rfl) (by kernel_rfl) (fun _ _ _ h => h) (Or.inl ⟨by rfl, ?_⟩) (by assumption) ?_
         ·
          intro W0 hSw
          (try dsimp only at hSw)
          go_simp
         simp only [List.set_cons_zero, List.set_cons_succ]
         refine wpAnyH_done (by kernel_rfl) ?_ _
         refine NoPanic.normal ?_
         go_wp2_with fail
         go_roundw
         case rel => exact ⟨k, rfl, by have := HK.out; omega, .inl ⟨rfl, by rw [HST.out, HIT.out]; rfl⟩, bstep HBI.out HBW.out⟩
         case measure => have := HK.out; simp [intOf]; omega
       | true =>
        have HCM := Lib.hid (show w.cell? ⟨b, off + rr * 9 + 5, none⟩ = some (.bool true) by have h9 := HC.out 5 _ rfl; rwa [hM] at h9)
        have HM := Lib.hid hM
        clear hM
        cases hh : d.dw.has (X - d.X) (Y - d.Y) with
        | false =>
         have HH := Lib.hid hh
         have HIT := Lib.hid (show hitW ((m : Int) - 1) X Y (d.dw, k) = false by unfold hitW; rw [show d.dw.has (X - d.dw.X) (Y - d.dw.Y) = false from hh]; simp)
         clear hh hP2
         as_aux_lemma =>
          go_upto_region 8 with fail
          have HBW := Lib.hid (show Below wr.heap.size wr wr.drew from (bre wr).drew)
          have KW := Lib.hid (fun (W' : World) (h : Below wr.heap.size wr W') => show (fun w' => w'.cell? ⟨b, off + rr * 9, none⟩ = some (.int .i64 d.U) ∧ w'.cell? ⟨b, off + rr * 9 + 5, none⟩ = some (.bool true) ∧ w'.cell? ⟨b, off + rr * 9 + 1, none⟩ = some (.int .i64 d.X) ∧ w'.cell? ⟨b, off + rr * 9 + 2, none⟩ = some (.int .i64 d.Y) ∧ w'.cell? ⟨b, off + rr * 9 + 3, none⟩ = some (.int .i64 d.W) ∧ w'.cell? ⟨b, off + rr * 9 + 4, none⟩ = some (.int .i64 d.H) ∧ w'.cell? ⟨b, off + rr * 9 + 6, none⟩ = some (.bool d.S) ∧ w'.cell? ⟨b, off + rr * 9 + 7, none⟩ = some (.slice d.A d.n d.c) ∧ w'.cell? ⟨b, off + rr * 9 + 8, none⟩ = some (.slice d.Ap d.np d.cp)) W' from ⟨(((bstep HBI.out h).cell (p := ⟨b, off + rr * 9, none⟩) HBL.out).trans (HC.out 0 _ rfl)), (((bstep HBI.out h).cell (p := ⟨b, off + rr * 9 + 5, none⟩) HBL.out).trans HCM.out), (((bstep HBI.out h).cell (p := ⟨b, off + rr * 9 + 1, none⟩) HBL.out).trans (HC.out 1 _ rfl)), (((bstep HBI.out h).cell (p := ⟨b, off + rr * 9 + 2, none⟩) HBL.out).trans (HC.out 2 _ rfl)), (((bstep HBI.out h).cell (p := ⟨b, off + rr * 9 + 3, none⟩) HBL.out).trans (HC.out 3 _ rfl)), (((bstep HBI.out h).cell (p := ⟨b, off + rr * 9 + 4, none⟩) HBL.out).trans (HC.out 4 _ rfl)), (((bstep HBI.out h).cell (p := ⟨b, off + rr * 9 + 6, none⟩) HBL.out).trans (HC.out 6 _ rfl)), (((bstep HBI.out h).cell (p := ⟨b, off + rr * 9 + 7, none⟩) HBL.out).trans (HC.out 7 _ rfl)), (((bstep HBI.out h).cell (p := ⟨b, off + rr * 9 + 8, none⟩) HBL.out).trans (HC.out 8 _ rfl))⟩)
          refine wp_region_noPanic ?_
          refine wp_region_held_drew (S := (fun w' => w'.cell? ⟨b, off + rr * 9, none⟩ = some (.int .i64 d.U) ∧ w'.cell? ⟨b, off + rr * 9 + 5, none⟩ = some (.bool true) ∧ w'.cell? ⟨b, off + rr * 9 + 1, none⟩ = some (.int .i64 d.X) ∧ w'.cell? ⟨b, off + rr * 9 + 2, none⟩ = some (.int .i64 d.Y) ∧ w'.cell? ⟨b, off + rr * 9 + 3, none⟩ = some (.int .i64 d.W) ∧ w'.cell? ⟨b, off + rr * 9 + 4, none⟩ = some (.int .i64 d.H) ∧ w'.cell? ⟨b, off + rr * 9 + 6, none⟩ = some (.bool d.S) ∧ w'.cell? ⟨b, off + rr * 9 + 7, none⟩ = some (.slice d.A d.n d.c) ∧ w'.cell? ⟨b, off + rr * 9 + 8, none⟩ = some (.slice d.Ap d.np d.cp))) (by kernel_rfl) ?_ (fun _ => ?_)
          ·
           (try dsimp only)
           exact ⟨(((bstep HBI.out HBW.out).cell (p := ⟨b, off + rr * 9, none⟩) HBL.out).trans (HC.out 0 _ rfl)), (((bstep HBI.out HBW.out).cell (p := ⟨b, off + rr * 9 + 5, none⟩) HBL.out).trans HCM.out), (((bstep HBI.out HBW.out).cell (p := ⟨b, off + rr * 9 + 1, none⟩) HBL.out).trans (HC.out 1 _ rfl)), (((bstep HBI.out HBW.out).cell (p := ⟨b, off + rr * 9 + 2, none⟩) HBL.out).trans (HC.out 2 _ rfl)), (((bstep HBI.out HBW.out).cell (p := ⟨b, off + rr * 9 + 3, none⟩) HBL.out).trans (HC.out 3 _ rfl)), (((bstep HBI.out HBW.out).cell (p := ⟨b, off + rr * 9 + 4, none⟩) HBL.out).trans (HC.out 4 _ rfl)), (((bstep HBI.out HBW.out).cell (p := ⟨b, off + rr * 9 + 6, none⟩) HBL.out).trans (HC.out 6 _ rfl)), (((bstep HBI.out HBW.out).cell (p := ⟨b, off + rr * 9 + 7, none⟩) HBL.out).trans (HC.out 7 _ rfl)), (((bstep HBI.out HBW.out).cell (p := ⟨b, off + rr * 9 + 8, none⟩) HBL.out).trans (HC.out 8 _ rfl))⟩
          refine Tr.take_at 0 35 (.slice (some ⟨b, off, none⟩) n c) rfl rfl (by kernel_rfl) (by kernel_rfl) (by kernel_rfl) (fun _ _ _ h => h) (Or.inl ⟨by rfl, ?_⟩) (by assumption) ?_
          ·
           intro W0 hSw
           (try dsimp only at hSw)
           go_simp
          simp only [List.set_cons_zero, List.set_cons_succ]
          refine Tr.take_at 1 36 (.int .i64 rr) rfl rfl (by kernel_rfl) (by kernel_rfl) (by kernel_rfl) (fun _ _ _ h => h) (Or.inl ⟨by rfl, ?_⟩) (by assumption) ?_
          ·
           intro W0 hSw
           (try dsimp only at hSw)
           go_simp
          simp only [List.set_cons_zero, List.set_cons_succ]
          refine Tr.take_at 2 37 (.pointer (some ⟨b, off + rr * 9, none⟩)) rfl rfl (by kernel_rfl) (by kernel_rfl) (by kernel_rfl) (fun _ _ _ h => h) (Or.inl ⟨by rfl, ?_⟩) (by assumption) ?_
          ·
           intro W0 hSw
           (try dsimp only at hSw)
           go_simp
          simp only [List.set_cons_zero, List.set_cons_succ]
          refine Tr.take_at 3 38 (.pointer (some ⟨b, off + rr * 9, none⟩)) rfl rfl (by kernel_rfl) (by kernel_rfl) (by kernel_rfl) (fun _ _ _ h => h) (Or.inl ⟨by rfl, ?_⟩) (by assumption) ?_
          ·
           intro W0 hSw
           (try dsimp only at hSw)
           go_simp
          simp only [List.set_cons_zero, List.set_cons_succ]
          refine Tr.take_at 4 39 (.int .i64 d.U) rfl rfl (by kernel_rfl) (by kernel_rfl) (by kernel_rfl) (fun _ _ _ h => h) (Or.inl ⟨by rfl, ?_⟩) (by assumption) ?_
          ·
           intro W0 hSw
           (try dsimp only at hSw)
           go_simp
          simp only [List.set_cons_zero, List.set_cons_succ]
          refine Tr.take_at 5 40 (.int .i64 m) rfl rfl (by kernel_rfl) (by kernel_rfl) (by kernel_rfl) (fun _ _ _ h => h) (Or.inl ⟨by rfl, ?_⟩) (by assumption) ?_
          ·
           intro W0 hSw
           (try dsimp only at hSw)
           go_simp
          simp only [List.set_cons_zero, List.set_cons_succ]
          refine Tr.take_at 6 41 (.bool true) rfl rfl (by kernel_rfl) (by kernel_rfl) (by kernel_rfl) (fun _ _ _ h => h) (Or.inl ⟨by rfl, ?_⟩) (by assumption) ?_
          ·
           intro W0 hSw
           (try dsimp only at hSw)
           go_simp
          simp only [List.set_cons_zero, List.set_cons_succ]
          refine Tr.take_at 7 42 (.bool true) rfl rfl (by kernel_rfl) (by kernel_rfl) (by kernel_rfl) (fun _ _ _ h => h) (Or.inl ⟨by rfl, ?_⟩) (by assumption) ?_
          ·
           intro W0 hSw
           (try dsimp only at hSw)
           go_simp
          simp only [List.set_cons_zero, List.set_cons_succ]
          refine Tr.take_at 8 43 (.slice (some ⟨b, off, none⟩) n c) rfl rfl (by kernel_rfl) (by kernel_rfl) (by kernel_rfl) (fun _ _ _ h => h) (Or.inl ⟨by rfl, ?_⟩) (by assumption) ?_
          ·
           intro W0 hSw
           (try dsimp only at hSw)
           go_simp
          simp only [List.set_cons_zero, List.set_cons_succ]
          refine Tr.take_at 9 44 (.int .i64 rr) rfl rfl (by kernel_rfl) (by kernel_rfl) (by kernel_rfl) (fun _ _ _ h => h) (Or.inl ⟨by rfl, ?_⟩) (by assumption) ?_
          ·
           intro W0 hSw
           (try dsimp only at hSw)
           go_simp
          simp only [List.set_cons_zero, List.set_cons_succ]
          refine Tr.take_at 10 45 (.pointer (some ⟨b, off + rr * 9, none⟩)) rfl rfl (by kernel_rfl) (by kernel_rfl) (by kernel_rfl) (fun _ _ _ h => h) (Or.inl ⟨by rfl, ?_⟩) (by assumption) ?_
          ·
           intro W0 hSw
           (try dsimp only at hSw)
           go_simp
          simp only [List.set_cons_zero, List.set_cons_succ]
          refine Tr.take_at 11 46 (.pointer (some ⟨b, off + rr * 9 + 5, none⟩)) rfl rfl (by kernel_rfl) (by kernel_rfl) (by kernel_rfl) (fun _ _ _ h => h) (Or.inl ⟨by rfl, ?_⟩) (by assumption) ?_
          ·
           intro W0 hSw
           (try dsimp only at hSw)
           go_simp
          simp only [List.set_cons_zero, List.set_cons_succ]
          refine Tr.take_at 12 47 (.bool true) rfl rfl (by kernel_rfl) (by kernel_rfl) (by kernel_rfl) (fun _ _ _ h => h) (Or.inl ⟨by rfl, ?_⟩) (by assumption) ?_
          ·
           intro W0 hSw
           (try dsimp only at hSw)
           go_simp
          simp only [List.set_cons_zero, List.set_cons_succ]
          refine Tr.take_at 13 48 (.bool true) rfl rfl (by kernel_rfl) (by kernel_rfl) (by kernel_rfl) (fun _ _ _ h => h) (Or.inl ⟨by rfl, ?_⟩) (by assumption) ?_
          ·
           intro W0 hSw
           (try dsimp only at hSw)
           go_simp
          simp only [List.set_cons_zero, List.set_cons_succ]
          refine Tr.take_at 14 49 (.bool true) rfl rfl (by kernel_rfl) (by kernel_rfl) (by kernel_rfl) (fun _ _ _ h => h) (Or.inl ⟨by rfl, ?_⟩) (by assumption) ?_
          ·
           intro W0 hSw
           (try dsimp only at hSw)
           go_simp
          simp only [List.set_cons_zero, List.set_cons_succ]
          refine Tr.take_at 15 50 (.slice (some ⟨b, off, none⟩) n c) rfl rfl (by kernel_rfl) (by kernel_rfl) (by kernel_rfl) (fun _ _ _ h => h) (Or.inl ⟨by rfl, ?_⟩) (by assumption) ?_
          ·
           intro W0 hSw
           (try dsimp only at hSw)
           go_simp
          simp only [List.set_cons_zero, List.set_cons_succ]
          refine Tr.take_at 16 51 (.int .i64 rr) rfl rfl (by kernel_rfl) (by kernel_rfl) (by kernel_rfl) (fun _ _ _ h => h) (Or.inl ⟨by rfl, ?_⟩) (by assumption) ?_
          ·
           intro W0 hSw
           (try dsimp only at hSw)
           go_simp
          simp only [List.set_cons_zero, List.set_cons_succ]
          refine Tr.take_at 17 52 (.pointer (some ⟨b, off + rr * 9, none⟩)) rfl rfl (by kernel_rfl) (by kernel_rfl) (by kernel_rfl) (fun _ _ _ h => h) (Or.inl ⟨by rfl, ?_⟩) (by assumption) ?_
          ·
           intro W0 hSw
           (try dsimp only at hSw)
           go_simp
          simp only [List.set_cons_zero, List.set_cons_succ]
          refine Tr.take_at 18 53 (.agg #[.int .i64 d.U, .int .i64 d.X, .int .i64 d.Y, .int .i64 d.W, .int .i64 d.H, .bool true, .bool d.S, .slice d.A d.n d.c, .slice d.Ap d.np d.cp]) rfl rfl (by kernel_rfl) (by kernel_rfl) (by kernel_rfl) (fun _ _ _ h => h) (Or.inl ⟨by rfl, ?_⟩) (by assumption) ?_
          ·
           intro W0 hSw
           (try dsimp only at hSw)
           go_simp
          simp only [List.set_cons_zero, List.set_cons_succ]
          refine Tr.take_at 19 54 (.int .i64 X) rfl rfl (by kernel_rfl) (by kernel_rfl) (by kernel_rfl) (fun _ _ _ h => h) (Or.inl ⟨by rfl, ?_⟩) (by assumption) ?_
          ·
           intro W0 hSw
           (try dsimp only at hSw)
           go_simp
          simp only [List.set_cons_zero, List.set_cons_succ]
          refine Tr.take_at 20 55 (.slice (some ⟨b, off, none⟩) n c) rfl rfl (by kernel_rfl) (by kernel_rfl) (by kernel_rfl) (fun _ _ _ h => h) (Or.inl ⟨by rfl, ?_⟩) (by assumption) ?_
          ·
           intro W0 hSw
           (try dsimp only at hSw)
           go_simp
          simp only [List.set_cons_zero, List.set_cons_succ]
          refine Tr.take_at 21 56 (.int .i64 rr) rfl rfl (by kernel_rfl) (by kernel_rfl) (by kernel_rfl) (fun _ _ _ h => h) (Or.inl ⟨by rfl, ?_⟩) (by assumption) ?_
          ·
           intro W0 hSw
           (try dsimp only at hSw)
           go_simp
          simp only [List.set_cons_zero, List.set_cons_succ]
          refine Tr.take_at 22 57 (.pointer (some ⟨b, off + rr * 9, none⟩)) rfl rfl (by kernel_rfl) (by kernel_rfl) (by kernel_rfl) (fun _ _ _ h => h) (Or.inl ⟨by rfl, ?_⟩) (by assumption) ?_
          ·
           intro W0 hSw
           (try dsimp only at hSw)
           go_simp
          simp only [List.set_cons_zero, List.set_cons_succ]
          refine Tr.take_at 23 58 (.pointer (some ⟨b, off + rr * 9 + 1, none⟩)) rfl rfl (by kernel_rfl) (by kernel_rfl) (by kernel_rfl) (fun _ _ _ h => h) (Or.inl ⟨by rfl, ?_⟩) (by assumption) ?_
          ·
           intro W0 hSw
           (try dsimp only at hSw)
           go_simp
          simp only [List.set_cons_zero, List.set_cons_succ]
          refine Tr.take_at 24 59 (.int .i64 d.X) rfl rfl (by kernel_rfl) (by kernel_rfl) (by kernel_rfl) (fun _ _ _ h => h) (Or.inl ⟨by rfl, ?_⟩) (by assumption) ?_
          ·
           intro W0 hSw
           (try dsimp only at hSw)
           go_simp
          simp only [List.set_cons_zero, List.set_cons_succ]
          refine Tr.take_at 25 60 (.int .i64 (X - d.X)) rfl rfl (by kernel_rfl) (by kernel_rfl) (by kernel_rfl) (fun _ _ _ h => h) (Or.inl ⟨by rfl, ?_⟩) (by assumption) ?_
          ·
           intro W0 hSw
           (try dsimp only at hSw)
           go_simp
          simp only [List.set_cons_zero, List.set_cons_succ]
          refine Tr.take_at 26 61 (.int .i64 Y) rfl rfl (by kernel_rfl) (by kernel_rfl) (by kernel_rfl) (fun _ _ _ h => h) (Or.inl ⟨by rfl, ?_⟩) (by assumption) ?_
          ·
           intro W0 hSw
           (try dsimp only at hSw)
           go_simp
          simp only [List.set_cons_zero, List.set_cons_succ]
          refine Tr.take_at 27 62 (.slice (some ⟨b, off, none⟩) n c) rfl rfl (by kernel_rfl) (by kernel_rfl) (by kernel_rfl) (fun _ _ _ h => h) (Or.inl ⟨by rfl, ?_⟩) (by assumption) ?_
          ·
           intro W0 hSw
           (try dsimp only at hSw)
           go_simp
          simp only [List.set_cons_zero, List.set_cons_succ]
          refine Tr.take_at 28 63 (.int .i64 rr) rfl rfl (by kernel_rfl) (by kernel_rfl) (by kernel_rfl) (fun _ _ _ h => h) (Or.inl ⟨by rfl, ?_⟩) (by assumption) ?_
          ·
           intro W0 hSw
           (try dsimp only at hSw)
           go_simp
          simp only [List.set_cons_zero, List.set_cons_succ]
          refine Tr.take_at 29 64 (.pointer (some ⟨b, off + rr * 9, none⟩)) rfl rfl (by kernel_rfl) (by kernel_rfl) (by kernel_rfl) (fun _ _ _ h => h) (Or.inl ⟨by rfl, ?_⟩) (by assumption) ?_
          ·
           intro W0 hSw
           (try dsimp only at hSw)
           go_simp
          simp only [List.set_cons_zero, List.set_cons_succ]
          refine Tr.take_at 30 65 (.pointer (some ⟨b, off + rr * 9 + 2, none⟩)) rfl rfl (by kernel_rfl) (by kernel_rfl) (by kernel_rfl) (fun _ _ _ h => h) (Or.inl ⟨by rfl, ?_⟩) (by assumption) ?_
          ·
           intro W0 hSw
           (try dsimp only at hSw)
           go_simp
          simp only [List.set_cons_zero, List.set_cons_succ]
          refine Tr.take_at 31 66 (.int .i64 d.Y) rfl rfl (by kernel_rfl) (by kernel_rfl) (by kernel_rfl) (fun _ _ _ h => h) (Or.inl ⟨by rfl, ?_⟩) (by assumption) ?_
          ·
           intro W0 hSw
           (try dsimp only at hSw)
           go_simp
          simp only [List.set_cons_zero, List.set_cons_succ]
          refine Tr.take_at 32 67 (.int .i64 (Y - d.Y)) rfl rfl (by kernel_rfl) (by kernel_rfl) (by kernel_rfl) (fun _ _ _ h => h) (Or.inl ⟨by rfl, ?_⟩) (by assumption) ?_
          ·
           intro W0 hSw
           (try dsimp only at hSw)
           go_simp
          simp only [List.set_cons_zero, List.set_cons_succ]
          refine wpAnyH_ready (rs := [33]) (by kernel_rfl) (by simp) ?_
          refine AllReadyH.cons rfl (fun K hK => ?_) AllReadyH.nil; go_simp
          have hq := in34_any d (X - d.X) (Y - d.Y) wr.drew HDO.out (HDS.out.below (bstep HBI.out HBW.out))
          rw [HM.out, HH.out, hP] at hq
          refine hq.mono ?_
          rintro e wc0 ⟨rfl, hbA⟩
          clear hq
          replace HBW := Lib.hid (bstep HBW.out hbA); clear hbA; go_simp
          refine hK.out _ _ (KW.out _ HBW.out) (fun _ => ?_); clear hK K
          refine Tr.take_at 34 69 (.bool false) rfl rfl (by kernel_rfl) (by kernel_rfl) (by kernel_rfl) (fun _ _ _ h => h) (Or.inl ⟨by rfl, ?_⟩) (by assumption) ?_
          ·
           intro W0 hSw
           (try dsimp only at hSw)
           go_simp
          simp only [List.set_cons_zero, List.set_cons_succ]
          refine wpAnyH_done (by kernel_rfl) ?_ _
          refine NoPanic.normal ?_
          go_wp2_with fail
          go_roundw
          case rel => exact ⟨k, rfl, by have := HK.out; omega, .inl ⟨rfl, by rw [HST.out, HIT.out]; rfl⟩, bstep HBI.out HBW.out⟩
          case measure => have := HK.out; simp [intOf]; omega
        | true =>
         have HH := Lib.hid hh
         have HIT := Lib.hid (show hitW ((m : Int) - 1) X Y (d.dw, k) = true by unfold hitW; rw [show d.dw.has (X - d.dw.X) (Y - d.dw.Y) = true from hh, show d.dw.M = true from HM.out, hP2]; simp)
         clear hh hP2
         as_aux_lemma =>
          go_upto_region 8 with fail
          have HBW := Lib.hid (show Below wr.heap.size wr wr.drew from (bre wr).drew)
          have KW := Lib.hid (fun (W' : World) (h : Below wr.heap.size wr W') => show (fun w' => w'.cell? ⟨b, off + rr * 9, none⟩ = some (.int .i64 d.U) ∧ w'.cell? ⟨b, off + rr * 9 + 5, none⟩ = some (.bool true) ∧ w'.cell? ⟨b, off + rr * 9 + 1, none⟩ = some (.int .i64 d.X) ∧ w'.cell? ⟨b, off + rr * 9 + 2, none⟩ = some (.int .i64 d.Y) ∧ w'.cell? ⟨b, off + rr * 9 + 3, none⟩ = some (.int .i64 d.W) ∧ w'.cell? ⟨b, off + rr * 9 + 4, none⟩ = some (.int .i64 d.H) ∧ w'.cell? ⟨b, off + rr * 9 + 6, none⟩ = some (.bool d.S) ∧ w'.cell? ⟨b, off + rr * 9 + 7, none⟩ = some (.slice d.A d.n d.c) ∧ w'.cell? ⟨b, off + rr * 9 + 8, none⟩ = some (.slice d.Ap d.np d.cp)) W' from ⟨(((bstep HBI.out h).cell (p := ⟨b, off + rr * 9, none⟩) HBL.out).trans (HC.out 0 _ rfl)), (((bstep HBI.out h).cell (p := ⟨b, off + rr * 9 + 5, none⟩) HBL.out).trans HCM.out), (((bstep HBI.out h).cell (p := ⟨b, off + rr * 9 + 1, none⟩) HBL.out).trans (HC.out 1 _ rfl)), (((bstep HBI.out h).cell (p := ⟨b, off + rr * 9 + 2, none⟩) HBL.out).trans (HC.out 2 _ rfl)), (((bstep HBI.out h).cell (p := ⟨b, off + rr * 9 + 3, none⟩) HBL.out).trans (HC.out 3 _ rfl)), (((bstep HBI.out h).cell (p := ⟨b, off + rr * 9 + 4, none⟩) HBL.out).trans (HC.out 4 _ rfl)), (((bstep HBI.out h).cell (p := ⟨b, off + rr * 9 + 6, none⟩) HBL.out).trans (HC.out 6 _ rfl)), (((bstep HBI.out h).cell (p := ⟨b, off + rr * 9 + 7, none⟩) HBL.out).trans (HC.out 7 _ rfl)), (((bstep HBI.out h).cell (p := ⟨b, off + rr * 9 + 8, none⟩) HBL.out).trans (HC.out 8 _ rfl))⟩)
          refine wp_region_noPanic ?_
          refine wp_region_held_drew (S := (fun w' => w'.cell? ⟨b, off + rr * 9, none⟩ = some (.int .i64 d.U) ∧ w'.cell? ⟨b, off + rr * 9 + 5, none⟩ = some (.bool true) ∧ w'.cell? ⟨b, off + rr * 9 + 1, none⟩ = some (.int .i64 d.X) ∧ w'.cell? ⟨b, off + rr * 9 + 2, none⟩ = some (.int .i64 d.Y) ∧ w'.cell? ⟨b, off + rr * 9 + 3, none⟩ = some (.int .i64 d.W) ∧ w'.cell? ⟨b, off + rr * 9 + 4, none⟩ = some (.int .i64 d.H) ∧ w'.cell? ⟨b, off + rr * 9 + 6, none⟩ = some (.bool d.S) ∧ w'.cell? ⟨b, off + rr * 9 + 7, none⟩ = some (.slice d.A d.n d.c) ∧ w'.cell? ⟨b, off + rr * 9 + 8, none⟩ = some (.slice d.Ap d.np d.cp))) (by kernel_rfl) ?_ (fun _ => ?_)
          ·
           (try dsimp only)
           exact ⟨(((bstep HBI.out HBW.out).cell (p := ⟨b, off + rr * 9, none⟩) HBL.out).trans (HC.out 0 _ rfl)), (((bstep HBI.out HBW.out).cell (p := ⟨b, off + rr * 9 + 5, none⟩) HBL.out).trans HCM.out), (((bstep HBI.out HBW.out).cell (p := ⟨b, off + rr * 9 + 1, none⟩) HBL.out).trans (HC.out 1 _ rfl)), (((bstep HBI.out HBW.out).cell (p := ⟨b, off + rr * 9 + 2, none⟩) HBL.out).trans (HC.out 2 _ rfl)), (((bstep HBI.out HBW.out).cell (p := ⟨b, off + rr * 9 + 3, none⟩) HBL.out).trans (HC.out 3 _ rfl)), (((bstep HBI.out HBW.out).cell (p := ⟨b, off + rr * 9 + 4, none⟩) HBL.out).trans (HC.out 4 _ rfl)), (((bstep HBI.out HBW.out).cell (p := ⟨b, off + rr * 9 + 6, none⟩) HBL.out).trans (HC.out 6 _ rfl)), (((bstep HBI.out HBW.out).cell (p := ⟨b, off + rr * 9 + 7, none⟩) HBL.out).trans (HC.out 7 _ rfl)), (((bstep HBI.out HBW.out).cell (p := ⟨b, off + rr * 9 + 8, none⟩) HBL.out).trans (HC.out 8 _ rfl))⟩
          refine Tr.take_at 0 35 (.slice (some ⟨b, off, none⟩) n c) rfl rfl (by kernel_rfl) (by kernel_rfl) (by kernel_rfl) (fun _ _ _ h => h) (Or.inl ⟨by rfl, ?_⟩) (by assumption) ?_
          ·
           intro W0 hSw
           (try dsimp only at hSw)
           go_simp
          simp only [List.set_cons_zero, List.set_cons_succ]
          refine Tr.take_at 1 36 (.int .i64 rr) rfl rfl (by kernel_rfl) (by kernel_rfl) (by kernel_rfl) (fun _ _ _ h => h) (Or.inl ⟨by rfl, ?_⟩) (by assumption) ?_
          ·
           intro W0 hSw
           (try dsimp only at hSw)
           go_simp
          simp only [List.set_cons_zero, List.set_cons_succ]
          refine Tr.take_at 2 37 (.pointer (some ⟨b, off + rr * 9, none⟩)) rfl rfl (by kernel_rfl) (by kernel_rfl) (by kernel_rfl) (fun _ _ _ h => h) (Or.inl ⟨by rfl, ?_⟩) (by assumption) ?_
          ·
           intro W0 hSw
           (try dsimp only at hSw)
           go_simp
          simp only [List.set_cons_zero, List.set_cons_succ]
          refine Tr.take_at 3 38 (.pointer (some ⟨b, off + rr * 9, none⟩)) rfl rfl (by kernel_rfl) (by kernel_rfl) (by kernel_rfl) (fun _ _ _ h => h) (Or.inl ⟨by rfl, ?_⟩) (by assumption) ?_
          ·
           intro W0 hSw
           (try dsimp only at hSw)
           go_simp
          simp only [List.set_cons_zero, List.set_cons_succ]
          refine Tr.take_at 4 39 (.int .i64 d.U) rfl rfl (by kernel_rfl) (by kernel_rfl) (by kernel_rfl) (fun _ _ _ h => h) (Or.inl ⟨by rfl, ?_⟩) (by assumption) ?_
          ·
           intro W0 hSw
           (try dsimp only at hSw)
           go_simp
          simp only [List.set_cons_zero, List.set_cons_succ]
          refine Tr.take_at 5 40 (.int .i64 m) rfl rfl (by kernel_rfl) (by kernel_rfl) (by kernel_rfl) (fun _ _ _ h => h) (Or.inl ⟨by rfl, ?_⟩) (by assumption) ?_
          ·
           intro W0 hSw
           (try dsimp only at hSw)
           go_simp
          simp only [List.set_cons_zero, List.set_cons_succ]
          refine Tr.take_at 6 41 (.bool true) rfl rfl (by kernel_rfl) (by kernel_rfl) (by kernel_rfl) (fun _ _ _ h => h) (Or.inl ⟨by rfl, ?_⟩) (by assumption) ?_
          ·
           intro W0 hSw
           (try dsimp only at hSw)
           go_simp
          simp only [List.set_cons_zero, List.set_cons_succ]
          refine Tr.take_at 7 42 (.bool true) rfl rfl (by kernel_rfl) (by kernel_rfl) (by kernel_rfl) (fun _ _ _ h => h) (Or.inl ⟨by rfl, ?_⟩) (by assumption) ?_
          ·
           intro W0 hSw
           (try dsimp only at hSw)
           go_simp
          simp only [List.set_cons_zero, List.set_cons_succ]
          refine Tr.take_at 8 43 (.slice (some ⟨b, off, none⟩) n c) rfl rfl (by kernel_rfl) (by kernel_rfl) (by kernel_rfl) (fun _ _ _ h => h) (Or.inl ⟨by rfl, ?_⟩) (by assumption) ?_
          ·
           intro W0 hSw
           (try dsimp only at hSw)
           go_simp
          simp only [List.set_cons_zero, List.set_cons_succ]
          refine Tr.take_at 9 44 (.int .i64 rr) rfl rfl (by kernel_rfl) (by kernel_rfl) (by kernel_rfl) (fun _ _ _ h => h) (Or.inl ⟨by rfl, ?_⟩) (by assumption) ?_
          ·
           intro W0 hSw
           (try dsimp only at hSw)
           go_simp
          simp only [List.set_cons_zero, List.set_cons_succ]
          refine Tr.take_at 10 45 (.pointer (some ⟨b, off + rr * 9, none⟩)) rfl rfl (by kernel_rfl) (by kernel_rfl) (by kernel_rfl) (fun _ _ _ h => h) (Or.inl ⟨by rfl, ?_⟩) (by assumption) ?_
          ·
           intro W0 hSw
           (try dsimp only at hSw)
           go_simp
          simp only [List.set_cons_zero, List.set_cons_succ]
          refine Tr.take_at 11 46 (.pointer (some ⟨b, off + rr * 9 + 5, none⟩)) rfl rfl (by kernel_rfl) (by kernel_rfl) (by kernel_rfl) (fun _ _ _ h => h) (Or.inl ⟨by rfl, ?_⟩) (by assumption) ?_
          ·
           intro W0 hSw
           (try dsimp only at hSw)
           go_simp
          simp only [List.set_cons_zero, List.set_cons_succ]
          refine Tr.take_at 12 47 (.bool true) rfl rfl (by kernel_rfl) (by kernel_rfl) (by kernel_rfl) (fun _ _ _ h => h) (Or.inl ⟨by rfl, ?_⟩) (by assumption) ?_
          ·
           intro W0 hSw
           (try dsimp only at hSw)
           go_simp
          simp only [List.set_cons_zero, List.set_cons_succ]
          refine Tr.take_at 13 48 (.bool true) rfl rfl (by kernel_rfl) (by kernel_rfl) (by kernel_rfl) (fun _ _ _ h => h) (Or.inl ⟨by rfl, ?_⟩) (by assumption) ?_
          ·
           intro W0 hSw
           (try dsimp only at hSw)
           go_simp
          simp only [List.set_cons_zero, List.set_cons_succ]
          refine Tr.take_at 14 49 (.bool true) rfl rfl (by kernel_rfl) (by kernel_rfl) (by kernel_rfl) (fun _ _ _ h => h) (Or.inl ⟨by rfl, ?_⟩) (by assumption) ?_
          ·
           intro W0 hSw
           (try dsimp only at hSw)
           go_simp
          simp only [List.set_cons_zero, List.set_cons_succ]
          refine Tr.take_at 15 50 (.slice (some ⟨b, off, none⟩) n c) rfl rfl (by kernel_rfl) (by kernel_rfl) (by kernel_rfl) (fun _ _ _ h => h) (Or.inl ⟨by rfl, ?_⟩) (by assumption) ?_
          ·
           intro W0 hSw
           (try dsimp only at hSw)
           go_simp
          simp only [List.set_cons_zero, List.set_cons_succ]
          refine Tr.take_at 16 51 (.int .i64 rr) rfl rfl (by kernel_rfl) (by kernel_rfl) (by kernel_rfl) (fun _ _ _ h => h) (Or.inl ⟨by rfl, ?_⟩) (by assumption) ?_
          ·
           intro W0 hSw
           (try dsimp only at hSw)
           go_simp
          simp only [List.set_cons_zero, List.set_cons_succ]
          refine Tr.take_at 17 52 (.pointer (some ⟨b, off + rr * 9, none⟩)) rfl rfl (by kernel_rfl) (by kernel_rfl) (by kernel_rfl) (fun _ _ _ h => h) (Or.inl ⟨by rfl, ?_⟩) (by assumption) ?_
          ·
           intro W0 hSw
           (try dsimp only at hSw)
           go_simp
          simp only [List.set_cons_zero, List.set_cons_succ]
          refine Tr.take_at 18 53 (.agg #[.int .i64 d.U, .int .i64 d.X, .int .i64 d.Y, .int .i64 d.W, .int .i64 d.H, .bool true, .bool d.S, .slice d.A d.n d.c, .slice d.Ap d.np d.cp]) rfl rfl (by kernel_rfl) (by kernel_rfl) (by kernel_rfl) (fun _ _ _ h => h) (Or.inl ⟨by rfl, ?_⟩) (by assumption) ?_
          ·
           intro W0 hSw
           (try dsimp only at hSw)
           go_simp
          simp only [List.set_cons_zero, List.set_cons_succ]
          refine Tr.take_at 19 54 (.int .i64 X) rfl rfl (by kernel_rfl) (by kernel_rfl) (by kernel_rfl) (fun _ _ _ h => h) (Or.inl ⟨by rfl, ?_⟩) (by assumption) ?_
          ·
           intro W0 hSw
           (try dsimp only at hSw)
           go_simp
          simp only [List.set_cons_zero, List.set_cons_succ]
          refine Tr.take_at 20 55 (.slice (some ⟨b, off, none⟩) n c) rfl rfl (by kernel_rfl) (by kernel_rfl) (by kernel_rfl) (fun _ _ _ h => h) (Or.inl ⟨by rfl, ?_⟩) (by assumption) ?_
          ·
           intro W0 hSw
           (try dsimp only at hSw)
           go_simp
          simp only [List.set_cons_zero, List.set_cons_succ]
          refine Tr.take_at 21 56 (.int .i64 rr) rfl rfl (by kernel_rfl) (by kernel_rfl) (by kernel_rfl) (fun _ _ _ h => h) (Or.inl ⟨by rfl, ?_⟩) (by assumption) ?_
          ·
           intro W0 hSw
           (try dsimp only at hSw)
           go_simp
          simp only [List.set_cons_zero, List.set_cons_succ]
          refine Tr.take_at 22 57 (.pointer (some ⟨b, off + rr * 9, none⟩)) rfl rfl (by kernel_rfl) (by kernel_rfl) (by kernel_rfl) (fun _ _ _ h => h) (Or.inl ⟨by rfl, ?_⟩) (by assumption) ?_
          ·
           intro W0 hSw
           (try dsimp only at hSw)
           go_simp
          simp only [List.set_cons_zero, List.set_cons_succ]
          refine Tr.take_at 23 58 (.pointer (some ⟨b, off + rr * 9 + 1, none⟩)) rfl rfl (by kernel_rfl) (by kernel_rfl) (by kernel_rfl) (fun _ _ _ h => h) (Or.inl ⟨by rfl, ?_⟩) (by assumption) ?_
          ·
           intro W0 hSw
           (try dsimp only at hSw)
           go_simp
          simp only [List.set_cons_zero, List.set_cons_succ]
          refine Tr.take_at 24 59 (.int .i64 d.X) rfl rfl (by kernel_rfl) (by kernel_rfl) (by kernel_rfl) (fun _ _ _ h => h) (Or.inl ⟨by rfl, ?_⟩) (by assumption) ?_
          ·
           intro W0 hSw
           (try dsimp only at hSw)
           go_simp
          simp only [List.set_cons_zero, List.set_cons_succ]
          refine Tr.take_at 25 60 (.int .i64 (X - d.X)) rfl rfl (by kernel_rfl) (by kernel_rfl) (by kernel_rfl) (fun _ _ _ h => h) (Or.inl ⟨by rfl, ?_⟩) (by assumption) ?_
          ·
           intro W0 hSw
           (try dsimp only at hSw)
           go_simp
          simp only [List.set_cons_zero, List.set_cons_succ]
          refine Tr.take_at 26 61 (.int .i64 Y) rfl rfl (by kernel_rfl) (by kernel_rfl) (by kernel_rfl) (fun _ _ _ h => h) (Or.inl ⟨by rfl, ?_⟩) (by assumption) ?_
          ·
           intro W0 hSw
           (try dsimp only at hSw)
           go_simp
          simp only [List.set_cons_zero, List.set_cons_succ]
          refine Tr.take_at 27 62 (.slice (some ⟨b, off, none⟩) n c) rfl rfl (by kernel_rfl) (by kernel_rfl) (by kernel_rfl) (fun _ _ _ h => h) (Or.inl ⟨by rfl, ?_⟩) (by assumption) ?_
          ·
           intro W0 hSw
           (try dsimp only at hSw)
           go_simp
          simp only [List.set_cons_zero, List.set_cons_succ]
          refine Tr.take_at 28 63 (.int .i64 rr) rfl rfl (by kernel_rfl) (by kernel_rfl) (by kernel_rfl) (fun _ _ _ h => h) (Or.inl ⟨by rfl, ?_⟩) (by assumption) ?_
          ·
           intro W0 hSw
           (try dsimp only at hSw)
           go_simp
          simp only [List.set_cons_zero, List.set_cons_succ]
          refine Tr.take_at 29 64 (.pointer (some ⟨b, off + rr * 9, none⟩)) rfl rfl (by kernel_rfl) (by kernel_rfl) (by kernel_rfl) (fun _ _ _ h => h) (Or.inl ⟨by rfl, ?_⟩) (by assumption) ?_
          ·
           intro W0 hSw
           (try dsimp only at hSw)
           go_simp
          simp only [List.set_cons_zero, List.set_cons_succ]
          refine Tr.take_at 30 65 (.pointer (some ⟨b, off + rr * 9 + 2, none⟩)) rfl rfl (by kernel_rfl) (by kernel_rfl) (by kernel_rfl) (fun _ _ _ h => h) (Or.inl ⟨by rfl, ?_⟩) (by assumption) ?_
          ·
           intro W0 hSw
           (try dsimp only at hSw)
           go_simp
          simp only [List.set_cons_zero, List.set_cons_succ]
          refine Tr.take_at 31 66 (.int .i64 d.Y) rfl rfl (by kernel_rfl) (by kernel_rfl) (by kernel_rfl) (fun _ _ _ h => h) (Or.inl ⟨by rfl, ?_⟩) (by assumption) ?_
          ·
           intro W0 hSw
           (try dsimp only at hSw)
           go_simp
          simp only [List.set_cons_zero, List.set_cons_succ]
          refine Tr.take_at 32 67 (.int .i64 (Y - d.Y)) rfl rfl (by kernel_rfl) (by kernel_rfl) (by kernel_rfl) (fun _ _ _ h => h) (Or.inl ⟨by rfl, ?_⟩) (by assumption) ?_
          ·
           intro W0 hSw
           (try dsimp only at hSw)
           go_simp
          simp only [List.set_cons_zero, List.set_cons_succ]
          refine wpAnyH_ready (rs := [33]) (by kernel_rfl) (by simp) ?_
          refine AllReadyH.cons rfl (fun K hK => ?_) AllReadyH.nil; go_simp
          have hq := in34_any d (X - d.X) (Y - d.Y) wr.drew HDO.out (HDS.out.below (bstep HBI.out HBW.out))
          rw [HM.out, HH.out, hP] at hq
          refine hq.mono ?_
          rintro e wc0 ⟨rfl, hbA⟩
          clear hq
          replace HBW := Lib.hid (bstep HBW.out hbA); clear hbA; go_simp
          refine hK.out _ _ (KW.out _ HBW.out) (fun _ => ?_); clear hK K
          refine Tr.take_at 34 69 (.bool true) rfl rfl (by kernel_rfl) (by kernel_rfl) (by kernel_rfl) (fun _ _ _ h => h) (Or.inl ⟨by rfl, ?_⟩) (by assumption) ?_
          ·
           intro W0 hSw
           (try dsimp only at hSw)
           go_simp
          simp only [List.set_cons_zero, List.set_cons_succ]
          refine wpAnyH_done (by kernel_rfl) ?_ _
          refine NoPanic.normal ?_
          go_wp2_with fail
          go_roundw
          case rel => exact ⟨k, rfl, by have := HK.out; omega, .inr ⟨rr, rfl, by omega, by have := HK.out; rw [HST.out, HIT.out]; show (k : Int) = (rr : Int) - 1; omega⟩, bstep HBI.out HBW.out⟩
          case measure => have := HK.out; simp [intOf]; omega
      ·
       have HIT := Lib.hid (show hitW ((m : Int) - 1) X Y (d.dw, k) = false by unfold hitW; rw [decide_eq_false (show ¬ d.dw.P = (m : Int) - 1 from fun e => hP (by have e' : d.U - 1 = (m : Int) - 1 := e; omega))]; simp)
       have hPb : (d.U == (m : Int)) = false := by simpa using hP
       as_aux_lemma =>
        go_upto_region 8 with fail
        have HBW := Lib.hid (show Below wr.heap.size wr wr.drew from (bre wr).drew)
        have KW := Lib.hid (fun (W' : World) (h : Below wr.heap.size wr W') => show (fun w' => w'.cell? ⟨b, off + rr * 9, none⟩ = some (.int .i64 d.U)) W' from (((bstep HBI.out h).cell (p := ⟨b, off + rr * 9, none⟩) HBL.out).trans (HC.out 0 _ rfl)))
        refine wp_region_noPanic ?_
        refine wp_region_held_drew (S := (fun w' => w'.cell? ⟨b, off + rr * 9, none⟩ = some (.int .i64 d.U))) (by kernel_rfl) ?_ (fun _ => ?_)
        ·
         (try dsimp only)
         exact (((bstep HBI.out HBW.out).cell (p := ⟨b, off + rr * 9, none⟩) HBL.out).trans (HC.out 0 _ rfl))
        refine Tr.take_at 0 35 (.slice (some ⟨b, off, none⟩) n c) rfl rfl (by kernel_rfl) (by kernel_rfl) (by kernel_rfl) (fun _ _ _ h => h) (Or.inl ⟨by rfl, ?_⟩) (by assumption) ?_
        ·
         intro W0 hSw
         (try dsimp only at hSw)
         go_simp
        simp only [List.set_cons_zero, List.set_cons_succ]
        refine Tr.take_at 1 36 (.int .i64 rr) rfl rfl (by kernel_rfl) (by kernel_rfl) (by kernel_rfl) (fun _ _ _ h => h) (Or.inl ⟨by rfl, ?_⟩) (by assumption) ?_
        ·
         intro W0 hSw
         (try dsimp only at hSw)
         go_simp
        simp only [List.set_cons_zero, List.set_cons_succ]
        refine Tr.take_at 2 37 (.pointer (some ⟨b, off + rr * 9, none⟩)) rfl rfl (by kernel_rfl) (by kernel_rfl) (by kernel_rfl) (fun _ _ _ h => h) (Or.inl ⟨by rfl, ?_⟩) (by assumption) ?_
        ·
         intro W0 hSw
         (try dsimp only at hSw)
         go_simp
        simp only [List.set_cons_zero, List.set_cons_succ]
        refine Tr.take_at 3 38 (.pointer (some ⟨b, off + rr * 9, none⟩)) rfl rfl (by kernel_rfl) (by kernel_rfl) (by kernel_rfl) (fun _ _ _ h => h) (Or.inl ⟨by rfl, ?_⟩) (by assumption) ?_
        ·
         intro W0 hSw
         (try dsimp only at hSw)
         go_simp
        simp only [List.set_cons_zero, List.set_cons_succ]
        refine Tr.take_at 4 39 (.int .i64 d.U) rfl rfl (by kernel_rfl) (by kernel_rfl) (by kernel_rfl) (fun _ _ _ h => h) (Or.inl ⟨by rfl, ?_⟩) (by assumption) ?_
        ·
         intro W0 hSw
         (try dsimp only at hSw)
         go_simp
        simp only [List.set_cons_zero, List.set_cons_succ]
        refine Tr.take_at 5 40 (.int .i64 m) rfl rfl (by kernel_rfl) (by kernel_rfl) (by kernel_rfl) (fun _ _ _ h => h) (Or.inl ⟨by rfl, ?_⟩) (by assumption) ?_
        ·
         intro W0 hSw
         (try dsimp only at hSw)
         go_simp
        simp only [List.set_cons_zero, List.set_cons_succ]
        refine Tr.take_at 6 41 (.bool false) rfl rfl (by kernel_rfl) (by kernel_rfl) (by kernel_rfl) (fun _ _ _ h => h) (Or.inl ⟨by rfl, ?_⟩) (by assumption) ?_
        ·
         intro W0 hSw
         (try dsimp only at hSw)
         go_simp
        simp only [List.set_cons_zero, List.set_cons_succ]
        refine Tr.take_at 7 42 (.bool false) rfl rfl (by kernel_rfl) (by kernel_rfl) (by kernel_rfl) (fun _ _ _ h => h) (Or.inl ⟨by rfl, ?_⟩) (by assumption) ?_
        ·
         intro W0 hSw
         (try dsimp only at hSw)
         go_simp
        simp only [List.set_cons_zero, List.set_cons_succ]
        refine Tr.take_at 8 43 undef rfl rfl (by kernel_rfl) (by kernel_rfl) (by kernel_rfl) (fun _ _ _ h => h) (Or.inr ⟨by rfl, rfl⟩) (by assumption) ?_; simp only [List.set_cons_zero, List.set_cons_succ]
        refine Tr.take_at 9 44 undef rfl rfl (by kernel_rfl) (by kernel_rfl) (by kernel_rfl) (fun _ _ _ h => h) (Or.inr ⟨by rfl, rfl⟩) (by assumption) ?_; simp only [List.set_cons_zero, List.set_cons_succ]
        refine Tr.take_at 10 45 undef rfl rfl (by kernel_rfl) (by kernel_rfl) (by kernel_rfl) (fun _ _ _ h => h) (Or.inr ⟨by rfl, rfl⟩) (by assumption) ?_; simp only [List.set_cons_zero, List.set_cons_succ]
        refine Tr.take_at 11 46 undef rfl rfl (by kernel_rfl) (by kernel_rfl) (by kernel_rfl) (fun _ _ _ h => h) (Or.inr ⟨by rfl, rfl⟩) (by assumption) ?_; simp only [List.set_cons_zero, List.set_cons_succ]
        refine Tr.take_at 12 47 undef rfl rfl (by kernel_rfl) (by kernel_rfl) (by kernel_rfl) (fun _ _ _ h => h) (Or.inr ⟨by rfl, rfl⟩) (by assumption) ?_; simp only [List.set_cons_zero, List.set_cons_succ]
        refine Tr.take_at 13 48 (.bool false) rfl rfl (by kernel_rfl) (by kernel_rfl) (by kernel_rfl) (fun _ _ _ h => h) (Or.inl ⟨by rfl, ?_⟩) (by assumption) ?_
        ·
         intro W0 hSw
         (try dsimp only at hSw)
         go_simp
        simp only [List.set_cons_zero, List.set_cons_succ]
        refine Tr.take_at 14 49 (.bool false) rfl rfl (by kernel_rfl) (by kernel_rfl) (by kernel_rfl) (fun _ _ _ h => h) (Or.inl ⟨by rfl, ?_⟩) (by assumption) ?_
        ·
         intro W0 hSw
         (try dsimp only at hSw)
         go_simp
        simp only [List.set_cons_zero, List.set_cons_succ]
        refine Tr.take_at 15 50 undef rfl rfl (by kernel_rfl) (by kernel_rfl) (by kernel_rfl) (fun _ _ _ h => h) (Or.inr ⟨by rfl, rfl⟩) (by assumption) ?_; simp only [List.set_cons_zero, List.set_cons_succ]
        refine Tr.take_at 16 51 undef rfl rfl (by kernel_rfl) (by kernel_rfl) (by kernel_rfl) (fun _ _ _ h => h) (Or.inr ⟨by rfl, rfl⟩) (by assumption) ?_; simp only [List.set_cons_zero, List.set_cons_succ]
        refine Tr.take_at 17 52 undef rfl rfl (by kernel_rfl) (by kernel_rfl) (by kernel_rfl) (fun _ _ _ h => h) (Or.inr ⟨by rfl, rfl⟩) (by assumption) ?_; simp only [List.set_cons_zero, List.set_cons_succ]
        refine Tr.take_at 18 53 undef rfl rfl (by kernel_rfl) (by kernel_rfl) (by kernel_rfl) (fun _ _ _ h => h) (Or.inr ⟨by rfl, rfl⟩) (by assumption) ?_; simp only [List.set_cons_zero, List.set_cons_succ]
        refine Tr.take_at 19 54 undef rfl rfl (by kernel_rfl) (by kernel_rfl) (by kernel_rfl) (fun _ _ _ h => h) (Or.inr ⟨by rfl, rfl⟩) (by assumption) ?_; simp only [List.set_cons_zero, List.set_cons_succ]
        refine Tr.take_at 20 55 undef rfl rfl (by kernel_rfl) (by kernel_rfl) (by kernel_rfl) (fun _ _ _ h => h) (Or.inr ⟨by rfl, rfl⟩) (by assumption) ?_; simp only [List.set_cons_zero, List.set_cons_succ]
        refine Tr.take_at 21 56 undef rfl rfl (by kernel_rfl) (by kernel_rfl) (by kernel_rfl) (fun _ _ _ h => h) (Or.inr ⟨by rfl, rfl⟩) (by assumption) ?_; simp only [List.set_cons_zero, List.set_cons_succ]
        refine Tr.take_at 22 57 undef rfl rfl (by kernel_rfl) (by kernel_rfl) (by kernel_rfl) (fun _ _ _ h => h) (Or.inr ⟨by rfl, rfl⟩) (by assumption) ?_; simp only [List.set_cons_zero, List.set_cons_succ]
        refine Tr.take_at 23 58 undef rfl rfl (by kernel_rfl) (by kernel_rfl) (by kernel_rfl) (fun _ _ _ h => h) (Or.inr ⟨by rfl, rfl⟩) (by assumption) ?_; simp only [List.set_cons_zero, List.set_cons_succ]
        refine Tr.take_at 24 59 undef rfl rfl (by kernel_rfl) (by kernel_rfl) (by kernel_rfl) (fun _ _ _ h => h) (Or.inr ⟨by rfl, rfl⟩) (by assumption) ?_; simp only [List.set_cons_zero, List.set_cons_succ]
        refine Tr.take_at 25 60 undef rfl rfl (by kernel_rfl) (by kernel_rfl) (by kernel_rfl) (fun _ _ _ h => h) (Or.inr ⟨by rfl, rfl⟩) (by assumption) ?_; simp only [List.set_cons_zero, List.set_cons_succ]
        refine Tr.take_at 26 61 undef rfl rfl (by kernel_rfl) (by kernel_rfl) (by kernel_rfl) (fun _ _ _ h => h) (Or.inr ⟨by rfl, rfl⟩) (by assumption) ?_; simp only [List.set_cons_zero, List.set_cons_succ]
        refine Tr.take_at 27 62 undef rfl rfl (by kernel_rfl) (by kernel_rfl) (by kernel_rfl) (fun _ _ _ h => h) (Or.inr ⟨by rfl, rfl⟩) (by assumption) ?_; simp only [List.set_cons_zero, List.set_cons_succ]
        refine Tr.take_at 28 63 undef rfl rfl (by kernel_rfl) (by kernel_rfl) (by kernel_rfl) (fun _ _ _ h => h) (Or.inr ⟨by rfl, rfl⟩) (by assumption) ?_; simp only [List.set_cons_zero, List.set_cons_succ]
        refine Tr.take_at 29 64 undef rfl rfl (by kernel_rfl) (by kernel_rfl) (by kernel_rfl) (fun _ _ _ h => h) (Or.inr ⟨by rfl, rfl⟩) (by assumption) ?_; simp only [List.set_cons_zero, List.set_cons_succ]
        refine Tr.take_at 30 65 undef rfl rfl (by kernel_rfl) (by kernel_rfl) (by kernel_rfl) (fun _ _ _ h => h) (Or.inr ⟨by rfl, rfl⟩) (by assumption) ?_; simp only [List.set_cons_zero, List.set_cons_succ]
        refine Tr.take_at 31 66 undef rfl rfl (by kernel_rfl) (by kernel_rfl) (by kernel_rfl) (fun _ _ _ h => h) (Or.inr ⟨by rfl, rfl⟩) (by assumption) ?_; simp only [List.set_cons_zero, List.set_cons_succ]
        refine Tr.take_at 32 67 undef rfl rfl (by kernel_rfl) (by kernel_rfl) (by kernel_rfl) (fun _ _ _ h => h) (Or.inr ⟨by rfl, rfl⟩) (by assumption) ?_; simp only [List.set_cons_zero, List.set_cons_succ]
        refine Tr.take_at 33 68 undef rfl rfl (by kernel_rfl) (by kernel_rfl) (by kernel_rfl) (fun _ _ _ h => h) (Or.inr ⟨by rfl, rfl⟩) (by assumption) ?_; simp only [List.set_cons_zero, List.set_cons_succ]
        refine Tr.take_at 34 69 (.bool false) rfl rfl (by kernel_rfl) (by kernel_rfl) (by kernel_rfl) (fun _ _ _ h => h) (Or.inl ⟨by rfl, ?_⟩) (by assumption) ?_
        ·
         intro W0 hSw
         (try dsimp only at hSw)
         go_simp
        simp only [List.set_cons_zero, List.set_cons_succ]
        refine wpAnyH_done (by kernel_rfl) ?_ _
        refine NoPanic.normal ?_
        go_wp2_with fail
        go_roundw
        case rel => exact ⟨k, rfl, by have := HK.out; omega, .inl ⟨rfl, by rw [HST.out, HIT.out]; rfl⟩, bstep HBI.out HBW.out⟩
        case measure => have := HK.out; simp [intOf]; omega
    ·
     obtain ⟨j, d0, e, hd0, hit⟩ := lastHit_is (show ¬ lastHit (hitW ((m : Int) - 1) X Y) (dws l).zipIdx < 0 by omega)
     have hj : j + 1 = q := by omega
     rw [dws_at, hj] at hd0
     obtain ⟨d, hd, hdd⟩ : ∃ d, l[q]? = some d ∧ d.dw = d0 := by
      cases hq2 : l[q]? with
      | none => rw [hq2] at hd0; cases hd0
      | some d => rw [hq2] at hd0; exact ⟨d, rfl, by simpa using hd0⟩
     subst hdd
     have hdj : (dws l)[j]? = some d.dw := by rw [dws_at, hj, hd]; rfl
     have ej : ((q : Int) - 1) = (j : Int) := by omega
     have HNX := Lib.hid (show topI l x y = atD (dws l) f ((q : Int) - 1) (X - d.X) (Y - d.Y) + 1 ∧ topL l x y = locD (dws l) f ((q : Int) - 1) (X - d.X) (Y - d.Y) from ⟨by rw [HAT.out.1, atD_yes e hdj, ej]; rfl, by rw [HAT.out.2, locD_yes e hdj, ej]; rfl⟩)
     have hbox := has_box (d := d.dw) (x := X - d.dw.X) (y := Y - d.dw.Y) (by unfold hitW at hit; simp only [Bool.and_eq_true] at hit; exact hit.2.2)
     have hup : (m : Int) - 1 < (j : Int) := by
      have h1 := HD.out.up.upOk j d.dw hdj
      have h2 := hitW_up hit
      rw [h2] at h1
      exact h1.2
     have hdo := HD.out.ok d (List.mem_of_getElem? hd)
     have HNB := Lib.hid (show ((0 ≤ X - d.X ∧ X - d.X ≤ 128) ∧ 0 ≤ Y - d.Y ∧ Y - d.Y ≤ 128) ∧ m < q from by
      have h1 := hdo.w
      have h2 := hdo.h
      have h3 : d.dw.X = d.X := rfl
      have h4 : d.dw.Y = d.Y := rfl
      omega)
     obtain ⟨b', off', e', _, hcl⟩ := HD.out.recs.2 (by omega)
     cases e'
     have y1 := (HBI.out.cell (p := ⟨b, off + q * 9 + 1, none⟩) HBL.out).trans (hcl q d hd 1 _ rfl)
     have y2 := (HBI.out.cell (p := ⟨b, off + q * 9 + 2, none⟩) HBL.out).trans (hcl q d hd 2 _ rfl)
     have hdx := hdo.x
     have hdy := hdo.y
     have hxy := HXY.out
     have hdx' : d.dw.X = d.X := rfl
     have hdy' : d.dw.Y = d.Y := rfl
     have wX : IntKind.i64.wrap (X - d.X) = X - d.X := IntWalk.i64_in _ (by omega)
     have wY : IntKind.i64.wrap (Y - d.Y) = Y - d.Y := IntWalk.i64_in _ (by omega)
     have k2 : (q : Int) < (n : Int) := by omega
     have k3 : (0 : Int) ≤ (q : Int) := by omega
     have k4 : ¬ (q : Int) < 0 := by omega
     have HQ := Lib.hid hq
     clear hd hdj hd0 hit e ej hj hbox hup hdo hcl hdx hdy hxy hdx' hdy' hlh
     by_cases h0 : rr = 0
     ·
      subst h0
      as_aux_lemma =>
       go_upto_region 12 with fail
       go_region
       go_wp2_with fail
       go_roundw
       case rel => exact ⟨q, f, X - d.X, Y - d.Y, rfl, rfl, rfl, by have := HQ.out; omega, by have := HNB.out.2; omega, HNX.out, HNB.out.1, HBI.out.drew⟩
       case measure => have := HNB.out.2; simp [intOf]; omega
     ·
      have k1 : (0 : Int) < (rr : Int) := by omega
      as_aux_lemma =>
       go_upto_region 12 with fail
       go_region
       go_wp2_with fail
       go_roundw
       case rel => exact ⟨q, f, X - d.X, Y - d.Y, rfl, rfl, rfl, by have := HQ.out; omega, by have := HNB.out.2; omega, HNX.out, HNB.out.1, HBI.out.drew⟩
       case measure => have := HNB.out.2; simp [intOf]; omega
set_option maxRecDepth 100000 in
set_option maxHeartbeats 8000000 in
theorem pixel34_any (A : Option Addr) (n c : Nat) (l : List R34) (RW RH : Nat) (x y : Int) (w : World) (h : Doc34 w A n l RW RH) :
 Calls Tryz.prog 38 #[.slice A n c, .int .i64 x, .int .i64 y] w fun e w' => e = .returned (.int .u8 (pixD l RW RH x y)) ∧ Below w.heap.size w w' := by
 have HD := Lib.hid h
 have hn1 := h.few.1
 have hn7 := h.few.2
 have hlen := h.len
 clear h
 go_enter Tryz.func38, Tryz.ntmps38
 go_wp2_with fail
 refine (top34_any A n c l RW RH x y _ HD.out).mono ?_
 rintro e w1 ⟨rfl, hb1⟩
 have HB := Lib.hid hb1
 clear hb1
 cases hxy : rectP (RW : Int) (RH : Int) x y with
 | false =>
  have HV := Lib.hid (show pixD l RW RH x y = 0 by unfold pixD; rw [hxy]; rfl)
  have ht : topV l RW RH x y = .tuple #[.int .i64 (-1), .int .i64 0, .int .i64 0] := by unfold topV; rw [hxy]; rfl
  rw [ht]
  clear ht hxy
  go_wp2_with fail
  go_ret
  rw [HV.out]
  exact ⟨rfl, HB.out⟩
 | true =>
  have ht : topV l RW RH x y = .tuple #[.int .i64 (topI l x y), .int .i64 (topL l x y).1, .int .i64 (topL l x y).2] := by unfold topV; rw [hxy]; rfl
  obtain ⟨r, hr0, hrW, hrH, _⟩ := HD.out.root
  obtain ⟨d, hd, hdx, hdy⟩ := topL_in HD.out.up hr0 ⟨hrW, hrH⟩ hxy
  have hbd := topI_bd HD.out.up (by omega) x y
  have hp : pixD l RW RH x y = pixAt l (topI l x y).toNat (topL l x y) := by unfold pixD; rw [hxy]; rfl
  rw [ht]
  obtain ⟨m, hm⟩ : ∃ m : Nat, topI l x y = (m : Int) := ⟨(topI l x y).toNat, by omega⟩
  obtain ⟨qx, hqx⟩ : ∃ q : Nat, (topL l x y).1 = (q : Int) := ⟨(topL l x y).1.toNat, by omega⟩
  obtain ⟨qy, hqy⟩ : ∃ q : Nat, (topL l x y).2 = (q : Int) := ⟨(topL l x y).2.toNat, by omega⟩
  have hpa : pixD l RW RH x y = d.px.getD (qy * d.W + qx) 0 := by
   rw [hp]
   unfold pixAt
   rw [hd]
   dsimp only
   rw [hqx, hqy]
   simp
  rw [hm, hqx, hqy]
  rw [hm] at hd hbd
  rw [hqx] at hdx
  rw [hqy] at hdy
  rw [Int.toNat_natCast] at hd
  clear hp ht hm hqx hqy hr0 hrW hrH hxy
  obtain ⟨ha1, ha2, ha3, _⟩ := HD.out.area d (List.mem_of_getElem? hd)
  have hidx : qy * d.W + qx < d.W * d.H := by
   have := Gr.has_idx (W := d.W) (H := d.H) (x := (qx : Int)) (y := (qy : Int)) ((Gr.has_iff _ _ _ _).2 (by omega))
   simpa using this
  have hmul : qy * d.W ≤ 16384 := Gr.mul_le_128 (by omega) ha2
  have m0 : (qy : Int) * (d.W : Int) = ((qy * d.W : Nat) : Int) := (Int.natCast_mul _ _).symm
  have t0 : IntKind.i64.wrap ((qy : Int) * (d.W : Int)) = ((qy * d.W : Nat) : Int) := by rw [m0]; exact IntWalk.i64_in _ (by omega)
  obtain ⟨z, hz⟩ : ∃ z, qy * d.W = z := ⟨_, rfl⟩
  rw [hz] at t0 hidx hmul hpa
  have t1 : IntKind.i64.wrap ((z : Int) + (qx : Int)) = ((z + qx : Nat) : Int) := by rw [IntWalk.i64_in _ (by omega)]; omega
  obtain ⟨j, hj⟩ : ∃ j, z + qx = j := ⟨_, rfl⟩
  rw [hj] at t1 hidx hpa
  obtain ⟨b, off, rfl, hbl, hcl⟩ := (HD.out.recs.below HB.out).2 (by omega)
  have y3 := hcl m d hd 3 _ rfl
  have y8 := hcl m d hd 8 _ rfl
  have hrd := (HD.out.pix d (List.mem_of_getElem? hd)).below HB.out
  have hpl : d.px.length = d.np := by simpa [Gr.U8] using hrd.1
  obtain ⟨b2, off2, hA2, hb2, hc2⟩ := hrd.2 (by omega)
  obtain ⟨p, hpj⟩ : ∃ p, d.px[j]? = some p := ⟨_, List.getElem?_eq_getElem (by omega)⟩
  have y9 := hc2 j (.int .u8 p) (by simp [Gr.U8, hpj])
  have hv : d.px.getD j 0 = p := by rw [List.getD_eq_getElem?_getD, hpj]; rfl
  rw [hv] at hpa
  have HPX := Lib.hid hpa
  obtain ⟨np, hnp⟩ : ∃ np, d.np = np := ⟨_, rfl⟩
  obtain ⟨cp, hcp⟩ : ∃ cp, d.cp = cp := ⟨_, rfl⟩
  rw [hA2, hnp, hcp] at y8
  have k1 : (m : Int) < (n : Int) := by omega
  have k2 : (0 : Int) ≤ (m : Int) := by omega
  have k3 : ¬ (m : Int) < 0 := by omega
  have k4 : (j : Int) < (np : Int) := by omega
  have k5 : (0 : Int) ≤ (j : Int) := by omega
  clear hd hbd hdx hdy ha1 ha2 ha3 hidx hmul m0 hz hj hcl hrd hpl hA2 hb2 hc2 hpj hv hnp hcp hpa
  go_upto_region 4 with fail
  go_region
  go_wp2_with fail
  go_ret
  rw [HPX.out]
  exact ⟨rfl, HB.out.drew⟩
end Go.Proofs.YtdaedkolpfkdjaaGreat
end
