/-
  The walk of the law LinePaths.
  The law LinePaths is true of every input: whatever list of near points and whatever rectangle are handed in, the call returns true. No condition.
-/
import Derived.Test.YtcdecglbkcllaaaLinePathsA
import Derived.Deep.Slices
import Derived.Test.YtcdecglbkcllaaaLawKit
namespace Go.Proofs.Ytcdecglbkcllaaa
open Go.RowKit

set_option maxRecDepth 100000 in
set_option maxHeartbeats 2000000 in
theorem linePaths_many (L : Option Addr) (nl cl : Nat) (X Y W H : Int) (w : World) (h : 10 < nl) :
    Calls Try.prog 9 #[.slice L nl cl, .agg #[.int .i64 X, .int .i64 Y, .int .i64 W, .int .i64 H]] w fun e w' => e = .returned (.bool true) ∧ Below w.heap.size w w' := by
  have d1 : decide ((10 : Int) < (nl : Int)) = true := by simp; omega
  clear h
  go_enter Try.func9, Try.ntmps9
  go_wp2_with (go_at_call 12; refine (Ln.awake_any _).mono ?_; rintro e w3 ⟨rfl, hb3⟩)
  go_ret
  exact ⟨rfl, bstep (bal (bre w) _) hb3⟩

set_option maxRecDepth 100000 in
set_option maxHeartbeats 2000000 in
theorem linePaths_big (L : Option Addr) (nl cl : Nat) (X Y W H : Int) (w : World) (h : nl ≤ 10) (hb : Ln.bigB X Y W H = true) :
    Calls Try.prog 9 #[.slice L nl cl, .agg #[.int .i64 X, .int .i64 Y, .int .i64 W, .int .i64 H]] w fun e w' => e = .returned (.bool true) ∧ Below w.heap.size w w' := by
  have d1 : decide ((10 : Int) < (nl : Int)) = false := by simp; omega
  have t : Ln.cntB X Y W H = true ∧ (decide (65536 < W) = true ∨ (decide (65536 < W) = false ∧ decide (65536 < H) = true)) := by
    unfold Ln.bigB at hb
    cases h1 : Ln.cntB X Y W H <;> cases h2 : decide (65536 < W) <;> cases h3 : decide (65536 < H) <;> simp_all
  obtain ⟨hc, t⟩ := t
  have HC := Lib.hid hc
  clear h hb hc
  rcases t with dW | ⟨dW, dH⟩
  all_goals
    go_enter Try.func9, Try.ntmps9
    go_wp2_with (first | (go_at_call 20; refine (Ln.rcounts_any _ _ _ _ _).mono ?_; rintro e w1 ⟨rfl, rfl⟩; rw [HC.out]) | (go_at_call 12; refine (Ln.awake_any _).mono ?_; rintro e w3 ⟨rfl, hb3⟩))
    go_ret
    exact ⟨rfl, bstep (bal (bal (bre w) _) _) hb3⟩

set_option maxRecDepth 100000 in
set_option maxHeartbeats 4000000 in
theorem linePaths_go (L : Option Addr) (nl cl : Nat) (ps : List (Int × Int)) (X Y W H : Int) (w : World) (h : nl ≤ 10) (hr : RdN w L nl ps) (hok : ∀ p ∈ ps, nearB p) (hb : Ln.bigB X Y W H = false) :
    Calls Try.prog 9 #[.slice L nl cl, .agg #[.int .i64 X, .int .i64 Y, .int .i64 W, .int .i64 H]] w fun e w' => e = .returned (.bool true) ∧ Below w.heap.size w w' := by
  have d1 : decide ((10 : Int) < (nl : Int)) = false := by simp; omega
  have t : Ln.cntB X Y W H = false ∨ (Ln.cntB X Y W H = true ∧ decide (65536 < W) = false ∧ decide (65536 < H) = false) := by
    unfold Ln.bigB at hb
    cases h1 : Ln.cntB X Y W H <;> cases h2 : decide (65536 < W) <;> cases h3 : decide (65536 < H) <;> simp_all
  have hpl : (ptsN ps).length = nl := by simp [ptsN, hr.1]
  have hlong := near_lenP hok (by rw [hr.1]; exact h)
  obtain ⟨l, hl⟩ : ∃ l, ptsN ps = l := ⟨_, rfl⟩
  rw [hl] at hpl hlong
  have HPS := Lib.hid hl
  have HLB := Lib.hid hb
  have HRN := Lib.hid hr
  have HOK := Lib.hid hok
  have HPL := Lib.hid hpl
  have hpa := pathA_len l nl
  have hlk : Ln.lenK l (nl - 1) ≤ 65536 := by
    unfold Ln.lenP at hlong
    rw [hpl] at hlong
    split at hlong
    · rename_i h0; subst h0; simp [Ln.lenK]
    · omega
  obtain ⟨P, hP⟩ : ∃ P, pathA l nl = P := ⟨_, rfl⟩
  have hPl : P.length ≤ 70000 := by rw [← hP]; omega
  have HP := Lib.hid hP
  have HLG := Lib.hid hlong
  clear hb hr hok hl hpl hpa hlk hP hlong
  rcases t with hc | ⟨hc, dW, dH⟩
  all_goals
    have HC := Lib.hid hc
    clear hc
    go_enter Try.func9, Try.ntmps9
    go_upto_region 3 with (go_at_call 20; refine (Ln.rcounts_any _ _ _ _ _).mono ?_; rintro e w1 ⟨rfl, rfl⟩; rw [HC.out])
    have HBX := Lib.hid ((Blk.new w 45 #[.int .i64 X, .int .i64 Y, .int .i64 W, .int .i64 H]).alloc (.cells #[.int .i64 X, .int .i64 Y, .int .i64 W, .int .i64 H] 45))
    have HB0 := Lib.hid (bal (bal (bre w) (.cells #[.int .i64 X, .int .i64 Y, .int .i64 W, .int .i64 H] 45)) (.cells #[.int .i64 X, .int .i64 Y, .int .i64 W, .int .i64 H] 45))
    obtain ⟨V, hV⟩ : ∃ V, (w.alloc (.cells #[.int .i64 X, .int .i64 Y, .int .i64 W, .int .i64 H] 45)).alloc (.cells #[.int .i64 X, .int .i64 Y, .int .i64 W, .int .i64 H] 45) = V := ⟨_, rfl⟩
    rw [hV] at HBX HB0 ⊢
    clear hV
    go_upto_region 4 with (go_at_call 27; refine (points_any L nl cl ps _ (by omega) (HRN.out.below HB0.out) HOK.out).mono ?_; rintro e w2 ⟨v2, rfl, o2, b2⟩; rw [HPS.out] at o2; obtain ⟨A2, c2, hv2, _⟩ := own_form o2; subst hv2; have B2 := Lib.hid b2; have O2 := Lib.hid (show w2.ownsRow V.heap.size 23 2 (.slice A2 nl c2) l.length (Ln.pcs l) by rw [HPL.out]; exact o2); clear o2 b2)
    have HX2 := Lib.hid (HBX.out.belowS B2.out)
    have r0 := HX2.out.cellV (i := 0) (v := .int .i64 X) rfl
    have r1 := HX2.out.cellV (i := 1) (v := .int .i64 Y) rfl
    have r2 := HX2.out.cellV (i := 2) (v := .int .i64 W) rfl
    have r3 := HX2.out.cellV (i := 3) (v := .int .i64 H) rfl
    go_upto_region 5 with (go_at_call 23; refine (lp_path V.heap.size _ l X Y W H _ O2.out (by rw [HPL.out]; exact h) HLG.out HLB.out).mono ?_; rintro e w3 ⟨v3, rfl, o3, b3⟩; rw [HPL.out, HP.out] at o3; obtain ⟨A3, c3, hv3, _⟩ := own_form o3; subst hv3; have B3 := Lib.hid b3; have O3 := Lib.hid (Ln.RdP.of_own o3 rfl); clear o3 b3)
    clear r0 r1 r2 r3
    go_upto_region 6 with (go_at_call 28; refine (lp_rpath V.heap.size _ l _ (ownsRow_below O2.out B3.out) (by rw [HPL.out]; exact h) HLG.out).mono ?_; rintro e w4 ⟨v4, rfl, o4, b4⟩; rw [HPL.out, HP.out] at o4; obtain ⟨A4, c4, hv4, _⟩ := own_form o4; subst hv4; have B4 := Lib.hid (bstep B3.out b4); have O4 := Lib.hid o4; have O34 := Lib.hid (Ln.RdP.below O3.out b4); clear o4 b4)
    have HX4 := Lib.hid (HX2.out.belowS B4.out)
    have r0 := HX4.out.cellV (i := 0) (v := .int .i64 X) rfl
    have r1 := HX4.out.cellV (i := 1) (v := .int .i64 Y) rfl
    have r2 := HX4.out.cellV (i := 2) (v := .int .i64 W) rfl
    have r3 := HX4.out.cellV (i := 3) (v := .int .i64 H) rfl
    go_wp2_with (first
      | (go_at_call 22; refine (Ln.within_any _ P X Y W H _ (Ln.RdP.of_own O4.out rfl) (by omega)).mono ?_; rintro e w5 ⟨v5, rfl, o5, b5⟩; obtain ⟨A5, c5, hv5⟩ := o5.form; subst hv5; have B5 := Lib.hid b5; have O5 := Lib.hid o5; have O35 := Lib.hid (Ln.RdP.below O34.out b5); clear o5 b5)
      | (go_at_call 16; refine (Ln.same_any O35.out O5.out (by have := Ln.wiR_le X Y W H P; simp [Ln.unR]; omega)).mono ?_; rintro e w6 ⟨rfl, b6⟩; rw [decide_eq_true (rfl : Ln.unR (Ln.wiR X Y W H P) = _)]; have B6 := Lib.hid (bstep B5.out b6); clear b6)
      | (go_at_call 24; refine (lp_region V.heap.size _ l _ (ownsRow_below O2.out (bstep B4.out B6.out)) (by rw [HPL.out]; exact h) HLG.out).mono ?_; rintro e w7 ⟨out, A7, c7, rfl, hr7, hca, hpl7, hol7, b7⟩; rw [HPL.out, HP.out] at hpl7; have B7 := Lib.hid (bstep B6.out b7); have R7 := Lib.hid hr7; have HCA := Lib.hid (region_ref hca hpl7); have HOL := hol7; clear hr7 hca hpl7 b7 hol7)
      | (go_at_call 30; refine (rects_any A7 out.length c7 out _ HOL R7.out).mono ?_; rintro e w8 ⟨A8, c8, rfl, hr8, _, b8⟩; have B8 := Lib.hid (bstep B7.out b8); have R8 := Lib.hid hr8; clear hr8 b8)
      | (go_at_call 32; refine (lp_dots w3.heap.size _ P _ (ownsRow_below O4.out B8.out) (by omega)).mono ?_; rintro e w9 ⟨v9, rfl, o9, b9⟩; obtain ⟨A9, c9, hv9, _⟩ := own_form o9; subst hv9; have B9 := Lib.hid (bstep B8.out b9); have O9 := Lib.hid (RdR.of_own o9 (by simp [dotsL])); have R89 := Lib.hid (R8.out.below b9); clear o9 b9)
      | (go_at_call 31; refine (rrects_any A9 P.length c9 (dotsL P) _ (by omega) O9.out).mono ?_; rintro e w10 ⟨v10, rfl, o10, b10⟩; rw [HCA.out] at o10; obtain ⟨A10, c10, hv10, _⟩ := own_form o10; subst hv10; have B10 := Lib.hid (bstep B9.out b10); have R10 := Lib.hid (RdR.of_own o10 rfl); have R810 := Lib.hid (R89.out.below b10); clear o10 b10)
      | (go_at_call 29; refine (rsame_eq A8 A10 out.length c8 c10 out _ HOL R810.out R10.out).mono ?_; rintro e w11 ⟨rfl, b11⟩; have B11 := Lib.hid (bstep B10.out b11); clear b11)
      | (go_at_call 12; refine (Ln.awake_any _).mono ?_; rintro e w12 ⟨rfl, b12⟩; have B12 := Lib.hid (bstep B11.out b12); clear b12))
    go_ret
    exact ⟨rfl, bstep HB0.out (bstep B2.out (bstep B4.out B12.out))⟩

end Go.Proofs.Ytcdecglbkcllaaa

namespace Go.Proofs.Ytcdecglbkcllaaa
open Go.ChangeShapes Go.WideShapes Go.ChangeAt Go.RowKit Go.Joins

theorem Try.cellsRc : Try.prog.cellsOf 45 = 4 := by kernel_rfl
theorem Try.cellsP2 : Try.prog.cellsOf 82 = 2 := by kernel_rfl
theorem Try.cellsI8 : Try.prog.cellsOf 81 = 1 := by kernel_rfl

theorem linePaths_all (L : Option Addr) (nl cl : Nat) (ps : List (Int × Int)) (X Y W H : Int) (w : World) (hr : RdN w L nl ps) (hok : ∀ p ∈ ps, nearB p) :
    Calls Try.prog 9 #[.slice L nl cl, .agg #[.int .i64 X, .int .i64 Y, .int .i64 W, .int .i64 H]] w fun e w' => e = .returned (.bool true) ∧ Below w.heap.size w w' := by
  by_cases h : 10 < nl
  · exact linePaths_many L nl cl X Y W H w h
  · cases hb : Ln.bigB X Y W H
    · exact linePaths_go L nl cl ps X Y W H w (by omega) hr hok hb
    · exact linePaths_big L nl cl X Y W H w (by omega) hb

section
variable {H : Type} {enc : TypeId × Value → H} {P : Program} {w : World} {base : Nat} {spare : Nat → Bool} {held : Bool}
theorem trod_array2 {t e : TypeId} {fuel : Nat} {c0 c1 : Value} {x : DataW H × List MemPlace} (ht : P.underlying t = some (.array 2 e)) (hce : P.cellsOf e = 1)
    (h : DataW.trod enc P w base spare held fuel t [c0, c1] = some x) :
    ∃ y0 y1 n, x = (.agg [y0.1, y1.1], y0.2 ++ y1.2) ∧ DataW.trod enc P w base spare held n e [c0] = some y0 ∧ DataW.trod enc P w base spare held n e [c1] = some y1 := by
  cases fuel with
  | zero => simp [DataW.trod] at h
  | succ n =>
    unfold DataW.trod at h
    rw [ht] at h
    have r2 : List.range 2 = [0, 1] := rfl
    simp [r2, hce] at h
    obtain ⟨_, h⟩ := h
    cases h0 : DataW.trod enc P w base spare held n e [c0] with
    | none => simp [h0] at h
    | some y0 =>
      cases h1 : DataW.trod enc P w base spare held n e [c1] with
      | none => simp [h0, h1] at h
      | some y1 =>
        simp [h0, h1] at h
        exact ⟨y0, y1, n, h.symm, h0, h1⟩
/-- a slice of near pairs that came in reads as pairs. -/
theorem open_pairs {t e i : TypeId} {v : Value} {d : DataW H} {p : List MemPlace} (ht : P.underlying t = some (.slice e)) (he : P.underlying e = some (.array 2 i)) (hi : P.underlying i = some (.int .i8)) (hc : P.cellsOf e = 2) (hc1 : P.cellsOf i = 1)
    {A : Option Addr} {len cap : Nat} (hv : v = .slice A len cap) (h : DataW.Trod enc P w base spare held t v d p) :
    ∃ ps : List (Int × Int), RdN w A len ps ∧ ∀ p ∈ ps, nearB p := by
  subst hv
  obtain ⟨fuel, hf⟩ := h
  rcases Deep.open_slice ht hf with ⟨h0, _⟩ | ⟨a, len', cap', m, n, D, Pl, hcs, _, hl, _, hm, _, hx⟩
  · simp [Value.cells] at h0
    obtain ⟨rfl, rfl, rfl⟩ := h0
    exact ⟨[], ⟨rfl, fun h => absurd h (by omega)⟩, by simp⟩
  · simp [Value.cells] at hcs
    obtain ⟨rfl, rfl, rfl⟩ := hcs
    have hlm : len ≤ m := by rw [hm]; split <;> omega
    have each : ∀ k, k < len → ∃ x : Int × Int, (w.cell? (a.add (k * 2)) = some (.int .i8 x.1) ∧ w.cell? ((a.add (k * 2)).add 1) = some (.int .i8 x.2)) ∧ nearB x := fun k hk => by
      obtain ⟨cs', h1, h2⟩ := hx k (by omega)
      rw [hc] at h1
      obtain ⟨_, hlen, hat⟩ := World.cells?_some h1
      match cs', hlen, h2 with
      | [c0, c1], _, h2 =>
        obtain ⟨y0, y1, n', _, g0, g1⟩ := trod_array2 he hc1 h2
        obtain ⟨x0, e0, _, w0⟩ := DataW.trod_int hi g0
        obtain ⟨x1, e1, _, w1⟩ := DataW.trod_int hi g1
        simp at e0 e1
        subst e0 e1
        refine ⟨(x0, x1), ⟨?_, ?_⟩, bounds_i8 w0, bounds_i8 w1⟩
        · simpa [Addr.add] using hat 0 (by omega)
        · simpa using hat 1 (by omega)
    obtain ⟨f, hf'⟩ := Deep.choose_lt each
    refine ⟨(List.range len).map f, ⟨by simp, fun hn => ?_⟩, fun p hp => ?_⟩
    · have h0 := (hf' 0 hn).1.1
      have hs : a.spot = none := by simpa [Addr.add] using World.cell?_spot h0
      obtain ⟨b, off, spot⟩ := a
      simp only at hs
      subst hs
      have hadd : ∀ k, (⟨b, off, none⟩ : Addr).add k = ⟨b, off + k, none⟩ := fun k => by
        unfold Addr.add
        split
        · rename_i h; subst h; rfl
        · rfl
      refine ⟨b, off, rfl, block_lt_of_cell (by rw [hadd] at h0; exact h0), fun k x hk => ?_⟩
      have hkl : k < len := by have := (List.getElem?_eq_some_iff.1 hk).1; simpa using this
      have hx' : f k = x := by simpa [List.getElem?_range hkl] using hk
      obtain ⟨⟨g0, g1⟩, _⟩ := hf' k hkl
      rw [hx', hadd] at g0 g1
      rw [show ((⟨b, off + k * 2, none⟩ : Addr).add 1) = ⟨b, off + k * 2 + 1, none⟩ from rfl] at g1
      exact ⟨g0, g1⟩
    · obtain ⟨k, hk, rfl⟩ := List.mem_map.1 hp
      exact (hf' k (List.mem_range.1 hk)).2
end

set_option maxRecDepth 100000 in
theorem linePaths_lifted (os : Os) (started : os.Started) (H : Type) (enc : TypeId × Value → H) :
    ReturnsInHanded {} Try.checked os 9 .any (Rows.linePathsSpec.pre6 enc Try.prog Try.f9 Rows.linePathsRow.domain false) (Rows.linePathsSpec.post enc Try.prog Try.f9 false true false false) := by
  refine returnsInHanded_of_change (C := Try.checked) Try.own started (by kernel_rfl) Try.func9
    (ChangeSpec.witness6 (enc := enc) (C := Try.checked) false ⟨#[], #[.slice none 0 0, .agg #[.int .i64 0, .int .i64 0, .int .i64 0, .int .i64 0]], []⟩ 8 (by kernel_rfl) (by kernel_rfl) (by kernel_rfl) (by kernel_rfl)) ?_
  intro W base args ds gs before hval0 hW hcnd _
  have hval : ∀ (j : Nat) t v, Try.f9.params[j]? = some t → args[j]? = some v → Value.okWide Try.prog W .any base t v := hval0
  have hW' := hW
  obtain ⟨p, q, hA0, hV, rfl, hfz, hnd⟩ := hW
  have hA : DataW.TrodAll enc Try.prog W 0 (fun _ => true) true Try.f9.params.toList args.toList ds p := hA0
  have hAk := hA
  obtain ⟨rfl, rfl⟩ := trodVars_none hV
  rw [List.append_nil] at hW'
  rw [Try.params9] at hA hval
  obtain ⟨v0, v1, d0, d1, p0, p1, rfl, rfl, rfl, h0, h1⟩ := trodAll_two hA
  obtain ⟨L, nl, cl, rfl⟩ := okWide_slice Try.underlying59 (hval 0 59 v0 rfl rfl)
  obtain ⟨ps, hps, hok⟩ := open_pairs Try.underlying59 Try.underlying82 Try.underlying81 Try.cellsP2 Try.cellsI8 rfl h0
  obtain ⟨c10, c11, c12, c13, y10, y11, y12, y13, m1, rfl, rfl, rfl, hy10, hy11, hy12, hy13⟩ := open_agg4 Try.underlying45 (by kernel_rfl) Try.cellsRc (hval 1 45 v1 rfl rfl) h1
  obtain ⟨x10, e10, rfl, wx10⟩ := DataW.trod_int Try.underlying3 hy10
  obtain ⟨x11, e11, rfl, wx11⟩ := DataW.trod_int Try.underlying3 hy11
  obtain ⟨x12, e12, rfl, wx12⟩ := DataW.trod_int Try.underlying3 hy12
  obtain ⟨x13, e13, rfl, wx13⟩ := DataW.trod_int Try.underlying3 hy13
  simp at e10 e11 e12 e13
  subst e10 e11 e12 e13
  clear hA0 hval0
  refine (linePaths_all L nl cl ps x10 x11 x12 x13 W hps hok).mono fun e W' ⟨he, hb⟩ => ?_
  subst he
  exact ⟨_, rfl, law_post Try.laidOut (by decide +kernel) rfl hW' hAk rfl rfl Try.underlying4 hb⟩

theorem linePaths_holds : Rows.LinePathsSaid :=
  OpenClaim.holds_of_wide 9 Try.f9 rfl rfl rfl rfl rfl rfl rfl ⟨rfl, rfl, rfl, rfl, rfl⟩ rfl rfl rfl rfl rfl (by kernel_rfl) Try.func9 (by kernel_rfl)
    (of_decide_eq_true (by kernel_rfl)) (by unfold Func.isWrapper; first | (rw [if_pos (by decide +kernel)]; kernel_rfl) | (rw [if_neg (by decide +kernel)]; exact ⟨rfl, rfl⟩))
    (fun os started H enc _ => linePaths_lifted os started H enc)

end Go.Proofs.Ytcdecglbkcllaaa
