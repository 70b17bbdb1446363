/-
  The walk of ScreenLooks.
-/
import Derived.Test.YtdaedkolpfkdjaaGreatZJ29
import Derived.Test.YtdaedkolpfkdjaaGreatZJ33
import Derived.Test.YtdaedkolpfkdjaaGreatZJ34
import Derived.Test.YtdaedkolpfkdjaaGreatZJ35
section
namespace Go.Proofs.YtdaedkolpfkdjaaGreat
open Go.RowKit Go.Maps Go.Shelf

set_option maxRecDepth 100000 in
set_option maxHeartbeats 8000000 in
theorem screenLooks_any (A : Option Addr) (n c : Nat) (ps : List PN34) (x y : Int) (w : World) (hn : n ≤ maxLen) (hr : RdP34 w A n ps) (hok : ∀ p ∈ ps, p.ok) :
 Calls Tryz.prog 9 #[.slice A n c, .int .i64 x, .int .i64 y] w fun e w' => e = .returned (.bool true) ∧ Below w.heap.size w w' := by
 go_enter Tryz.func9, Tryz.ntmps9
 go_wp2_with fail
 refine (make34_any A n c ps _ hn hr hok).mono ?_
 rintro e w1 ⟨ok, m1, m2, m3, m4, A0, n0, c0, rfl, hm, hb1⟩
 have HM0 := Lib.hid hm
 have ha := bal (bre w1) (.cells #[.map m1, .map m2, .map m3, .map m4, .slice A0 n0 c0] 70)
 have xk := Blk.new w1 70 #[.map m1, .map m2, .map m3, .map m4, .slice A0 n0 c0]
 have HB := Lib.hid (bstep hb1 ha)
 clear hm hb1
 cases ok with
 | false =>
  clear ha xk HM0
  as_aux_lemma =>
   go_wp2_with (go_at_call 34; refine (awake34_any _).mono ?_; rintro e w9 ⟨rfl, hb9⟩; have HB9 := Lib.hid (bstep HB.out hb9); clear hb9)
   go_ret
   exact ⟨rfl, HB9.out⟩
 | true =>
  obtain ⟨l, mk, mu, mp, mc, AL, cL, RW, RH, hmade⟩ := HM0.out rfl
  obtain ⟨rfl, rfl, rfl, rfl, rfl, rfl, rfl⟩ := hmade.form
  have hm2 := hmade.below ha
  clear HM0 hmade ha
  have hbz := HB.out
  go_upto_region 4 with fail
  obtain ⟨g1, hg1⟩ : ∃ g, w1.heap.size = g := ⟨_, rfl⟩
  obtain ⟨X1, hX1⟩ : ∃ X, w1.alloc (.cells #[.map m1, .map m2, .map m3, .map m4, .slice A0 l.length c0] 70) = X := ⟨_, rfl⟩
  rw [hX1] at hm2 xk hbz ⊢
  rw [hg1] at xk ⊢
  have HM := Lib.hid hm2
  have KM := Lib.hid xk
  replace HB := Lib.hid hbz
  clear hm2 xk hbz hX1 hg1
  have q0 := KM.out.cellV (i := 0) (v := .map m1) rfl
  have q1 := KM.out.cellV (i := 1) (v := .map m2) rfl
  have q2 := KM.out.cellV (i := 2) (v := .map m3) rfl
  have q3 := KM.out.cellV (i := 3) (v := .map m4) rfl
  go_wp2_with fail
  refine (look34 HM.out hok x y).mono ?_
  rintro e w3 ⟨rfl, hb3⟩
  have HD := Lib.hid ((HM.out.doc hok).below hb3)
  replace KM := Lib.hid (KM.out.belowS hb3)
  replace HB := Lib.hid (bstep HB.out hb3)
  clear hb3 q0 q1 q2 q3
  have q4 := KM.out.cellV (i := 4) (v := .slice A0 l.length c0) rfl
  obtain ⟨pz, hpz⟩ : ∃ z, pixD l RW RH x y = z := ⟨_, rfl⟩
  have HPZ := Lib.hid hpz
  rw [hpz]
  clear hpz
  go_wp2_with fail
  refine (top34_any A0 l.length c0 l RW RH x y _ HD.out).mono ?_
  rintro e w4 ⟨rfl, hb4⟩
  replace HD := Lib.hid (HD.out.below hb4)
  replace KM := Lib.hid (KM.out.belowS hb4)
  replace HB := Lib.hid (bstep HB.out hb4)
  clear hb4 q4
  cases hxy : rectP (RW : Int) (RH : Int) x y with
  | false =>
   have ht : topV l RW RH x y = .tuple #[.int .i64 (-1), .int .i64 0, .int .i64 0] := by unfold topV; rw [hxy]; rfl
   have hw : whoD l RW RH x y = 0 := by unfold whoD; rw [hxy]; rfl
   rw [ht, hw]
   clear ht hw hxy
   go_wp2_with fail
   refine (awake34_any _).mono ?_
   rintro e w5 ⟨rfl, hb5⟩
   replace HD := Lib.hid (HD.out.below hb5)
   replace KM := Lib.hid (KM.out.belowS hb5)
   replace HB := Lib.hid (bstep HB.out hb5)
   clear hb5
   have q4 := KM.out.cellV (i := 4) (v := .slice A0 l.length c0) rfl
   go_wp2_with fail
   refine (pixel34_any A0 l.length c0 l RW RH x y _ HD.out).mono ?_
   rintro e w6 ⟨rfl, hb6⟩
   rw [HPZ.out]
   replace HB := Lib.hid (bstep HB.out hb6)
   clear hb6 q4
   go_wp2_with fail
   go_ret
   exact ⟨rfl, HB.out⟩
  | true =>
   have ht : topV l RW RH x y = .tuple #[.int .i64 (topI l x y), .int .i64 (topL l x y).1, .int .i64 (topL l x y).2] := by unfold topV; rw [hxy]; rfl
   have hw : whoD l RW RH x y = idW (topI l x y - 1) := by unfold whoD; rw [hxy]; rfl
   rw [ht, hw]
   have hbd := topI_bd HD.out.up (by have := HD.out.few; omega) x y
   obtain ⟨m, hm⟩ : ∃ m : Nat, topI l x y = (m : Int) := ⟨(topI l x y).toNat, by omega⟩
   rw [hm]
   have hm9 : m ≤ 1000000 := by have := HD.out.few; omega
   obtain ⟨wh, hwh⟩ : ∃ z, idW ((m : Int) - 1) = z := ⟨_, rfl⟩
   have HWH := Lib.hid hwh
   rw [hwh]
   have k0 : (0 : Int) ≤ (m : Int) := by omega
   clear ht hw hxy hbd hm hwh
   go_wp2_with fail
   refine (id34_any m _ hm9).mono ?_
   rintro e w5 ⟨rfl, hb5⟩
   rw [HWH.out]
   replace HD := Lib.hid (HD.out.below hb5)
   replace KM := Lib.hid (KM.out.belowS hb5)
   replace HB := Lib.hid (bstep HB.out hb5)
   clear hb5
   go_wp2_with fail
   refine (awake34_any _).mono ?_
   rintro e w6 ⟨rfl, hb6⟩
   replace HD := Lib.hid (HD.out.below hb6)
   replace KM := Lib.hid (KM.out.belowS hb6)
   replace HB := Lib.hid (bstep HB.out hb6)
   clear hb6
   have q4 := KM.out.cellV (i := 4) (v := .slice A0 l.length c0) rfl
   go_wp2_with fail
   refine (pixel34_any A0 l.length c0 l RW RH x y _ HD.out).mono ?_
   rintro e w7 ⟨rfl, hb7⟩
   rw [HPZ.out]
   replace HB := Lib.hid (bstep HB.out hb7)
   clear hb7 q4
   go_wp2_with fail
   go_ret
   exact ⟨rfl, HB.out⟩
end Go.Proofs.YtdaedkolpfkdjaaGreat
end
