/-
  The walks of expose.One and expose.Lost.
-/
import Derived.Test.YtbkkecijcijhdaaGreatZD30
import Derived.Test.YtbkkecijcijhdaaGreatZD28
section
namespace Go.Proofs.YtbkkecijcijhdaaGreat
open Go.RowKit Go.Maps Go.Shelf

theorem put3 {w : World} {g : Nat} {t : TypeId} {a0 a1 a2 : Value} (b0 b1 b2 : Value) (h : Blk w g t #[a0, a1, a2]) : Blk (World.setCells w g 0 (#[b0, b1, b2] : Array Value).toList) g t #[b0, b1, b2] := ((h.set_ 0 b0).set_ 1 b1).set_ 2 b2
set_option maxRecDepth 100000 in
theorem Tryz.sizeCh : (Tryz.prog.info? 93).map (·.size) = some 3 := by kernel_rfl
/-- no block of these cells has rectangles. -/
def NoRc (cs : Array Value) : Prop := ∀ (j : Nat) (x : Int), cs[j]? ≠ some (.int .i64 x)
theorem noRc1 (A : Option Addr) (n c : Nat) : NoRc #[.slice A n c] := fun j x => by
  match j with
  | 0 => simp
  | j + 1 => simp
theorem noRc3 (i : Int) (A B : Option Addr) (n c m d : Nat) : NoRc #[.int .u32 i, .slice A n c, .slice B m d] := fun j x => by
  match j with
  | 0 => simp
  | 1 => simp
  | 2 => simp
  | j + 3 => simp
theorem RegP.set {w : World} {u : Value} {P : Places} (h : RegP w u P) {g : Nat} {t : TypeId} {cs : Array Value} (hB : Blk w g t cs) (hno : NoRc cs) (i : Nat) (v : Value) : RegP (w.setCell ⟨g, i, none⟩ v) u P := by
  obtain ⟨out, ⟨A, c, e, hr, h2⟩, hp⟩ := h
  refine ⟨out, ⟨A, c, e, ⟨hr.1, fun hn => ?_⟩, h2⟩, hp⟩
  obtain ⟨b, off, e, hb, hc⟩ := hr.2 hn
  have hne : b ≠ g := fun e' => by
    subst e'
    obtain ⟨r, hr'⟩ : ∃ r, out[0]? = some r := ⟨_, List.getElem?_eq_getElem (by rw [hr.1]; exact hn)⟩
    obtain ⟨c0, _⟩ := hc 0 r hr'
    rw [hB.cell] at c0
    exact hno _ _ c0
  have hk : ∀ o v', w.cell? ⟨b, o, none⟩ = some v' → (w.setCell ⟨g, i, none⟩ v).cell? ⟨b, o, none⟩ = some v' := fun o v' hv => (World.cell?_setCell_other w ⟨g, i, none⟩ ⟨b, o, none⟩ v (fun e' => by cases e'; exact hne rfl)).trans hv
  exact ⟨b, off, e, by simpa [World.setCell] using hb, fun i r hi => by
    obtain ⟨c0, c1, c2, c3⟩ := hc i r hi
    exact ⟨hk _ _ c0, hk _ _ c1, hk _ _ c2, hk _ _ c3⟩⟩
theorem RegP.sets1 {w : World} {u : Value} {P : Places} (h : RegP w u P) {g : Nat} {t : TypeId} {A B : Option Addr} {n c m d : Nat} (hB : Blk w g t #[.slice A n c]) : RegP (World.setCells w g 0 (#[.slice B m d] : Array Value).toList) u P := h.set hB (noRc1 _ _ _) 0 _
theorem RegP.sets3 {w : World} {u : Value} {P : Places} (h : RegP w u P) {g : Nat} {t : TypeId} {i i' : Int} {A B A' B' : Option Addr} {n c m d n' c' m' d' : Nat} (hB : Blk w g t #[.int .u32 i, .slice A n c, .slice B m d]) : RegP (World.setCells w g 0 (#[.int .u32 i', .slice A' n' c', .slice B' m' d'] : Array Value).toList) u P :=
  ((h.set hB (noRc3 _ _ _ _ _ _ _) 0 _).set (hB.set_ 0 (.int .u32 i')) (noRc3 _ _ _ _ _ _ _) 1 _).set ((hB.set_ 0 (.int .u32 i')).set_ 1 (.slice A' n' c')) (noRc3 _ _ _ _ _ _ _) 2 _
/-- of a window's places what is kept, what is new. -/
def keptP (P Q : Places) (dx dy : Int) (F : Bool) : Places := fun x y => Q x y && (!F && P (x - dx) (y - dy))
def newP (P Q : Places) (dx dy : Int) (F : Bool) : Places := fun x y => Q x y && !keptP P Q dx dy F x y
/-- a region, of which it is known that its row is one of rectangles. -/
structure RegT (w : World) (u : Value) (P : Places) : Prop where
  reg : RegP w u P
  ty : TyV w u
section
variable {w w' : World} {u u' : Value} {P Q : Places}
theorem RegT.form (h : RegT w u P) : ∃ A n c, u = .agg #[.slice A n c] := h.reg.form
theorem RegT.below (h : RegT w u P) (hb : Below w.heap.size w w') : RegT w' u P := ⟨h.reg.below hb, h.ty.below hb⟩
theorem RegT.congr (h : RegT w u P) (e : ∀ x y, P x y = Q x y) : RegT w u Q := ⟨h.reg.congr e, h.ty⟩
theorem RegT.nil (w : World) : RegT w (.agg #[.slice none 0 0]) (fun _ _ => false) := ⟨RegP.nil w 0, none, 0, 0, rfl, .inl rfl⟩
theorem RegT.sets1 (h : RegT w u P) {g : Nat} {t : TypeId} {A B : Option Addr} {n c m d : Nat} (hB : Blk w g t #[.slice A n c]) (ht : t ≠ 113 := by decide) : RegT (World.setCells w g 0 (#[.slice B m d] : Array Value).toList) u P := ⟨h.reg.sets1 hB, h.ty.set hB ht 0 _⟩
theorem RegT.sets3 (h : RegT w u P) {g : Nat} {t : TypeId} {i i' : Int} {A B A' B' : Option Addr} {n c m d n' c' m' d' : Nat} (hB : Blk w g t #[.int .u32 i, .slice A n c, .slice B m d]) (ht : t ≠ 113 := by decide) : RegT (World.setCells w g 0 (#[.int .u32 i', .slice A' n' c', .slice B' m' d'] : Array Value).toList) u P :=
  ⟨h.reg.sets3 hB, ((h.ty.set hB ht 0 _).set (hB.set_ 0 (.int .u32 i')) ht 1 _).set ((hB.set_ 0 (.int .u32 i')).set_ 1 (.slice A' n' c')) ht 2 _⟩
theorem meetT (h : RegP w u P) (h' : RegP w u' Q) (hP : BoxP P) (hQ : BoxP Q) :
    Calls Tryz.prog 59 #[u, u'] w fun e w' => ∃ v, e = .returned v ∧ RegT w' v (fun x y => P x y && Q x y) ∧ Below w.heap.size w w' := by
  obtain ⟨a, ha, pa⟩ := h
  obtain ⟨b, hb, pb⟩ := h'
  have e1 := (reg_box ha pa hP).1
  have e2 := (reg_box hb pb hQ).1
  refine (meet_anyT u u' a b (upto (-150) 300) (upto (-150) 300) w ha hb (e1.append e2) (by rw [upto_len]; decide)).mono ?_
  rintro e w' ⟨v, out, rfl, h1, h2, _, ht, h3⟩
  exact ⟨v, rfl, ⟨⟨out, h1, fun x y => by rw [h2, pa, pb]⟩, ht⟩, h3⟩
theorem minusT (h : RegP w u P) (h' : RegP w u' Q) (hP : BoxP P) (hQ : BoxP Q) :
    Calls Tryz.prog 86 #[u, u'] w fun e w' => ∃ v, e = .returned v ∧ RegT w' v (fun x y => P x y && !Q x y) ∧ Below w.heap.size w w' := by
  obtain ⟨a, ha, pa⟩ := h
  obtain ⟨b, hb, pb⟩ := h'
  have e1 := (reg_box ha pa hP).1
  have e2 := (reg_box hb pb hQ).1
  refine (minus_anyT u u' a b (upto (-150) 300) (upto (-150) 300) w ha hb (e1.append e2) (by rw [upto_len]; decide)).mono ?_
  rintro e w' ⟨v, out, rfl, h1, h2, _, ht, h3⟩
  exact ⟨v, rfl, ⟨⟨out, h1, fun x y => by rw [h2, pa, pb]⟩, ht⟩, h3⟩
end
section
variable {w : World} {Aa Ab : Option Addr} {na ca nb cb : Nat} {ma mb : Option Nat} {V U : Int → Places}
set_option maxRecDepth 100000 in
set_option maxHeartbeats 4000000 in
theorem one_anyT (i dx dy : Int) (F : Bool) (ha : VisAt w (.agg #[.slice Aa na ca, .map ma]) V) (hb : VisAt w (.agg #[.slice Ab nb cb, .map mb]) U) (hi : 0 ≤ i ∧ i ≤ 4294967295) (hd : (-128 ≤ dx ∧ dx ≤ 127) ∧ -128 ≤ dy ∧ dy ≤ 127) :
    Calls Tryz.prog 50 #[.agg #[.slice Aa na ca, .map ma], .agg #[.slice Ab nb cb, .map mb], .int .u32 i, .agg #[.int .i64 dx, .int .i64 dy, .bool F]] w fun e w' => ∃ A n c B m d, e = .returned (.agg #[.int .u32 i, .slice A n c, .slice B m d]) ∧ RegT w' (.agg #[.slice A n c]) (keptP (V i) (U i) dx dy F) ∧ RegT w' (.agg #[.slice B m d]) (newP (V i) (U i) dx dy F) ∧ Below w.heap.size w w' := by
  have HAV := Lib.hid ha
  have HBV := Lib.hid hb
  have HI := Lib.hid hi
  have HD := Lib.hid hd
  clear ha hb hi hd
  have xB := bal (bal (bal (bal (bre w) (.cells #[.slice Aa na ca, .map ma] 43)) (.cells #[.slice Ab nb cb, .map mb] 43)) (.cells #[.int .i64 dx, .int .i64 dy, .bool F] 88)) (.cells #[.int .u32 0, .slice none 0 0, .slice none 0 0] 93)
  have xK0 := (((Blk.new w 43 #[.slice Aa na ca, .map ma]).alloc (.cells #[.slice Ab nb cb, .map mb] 43)).alloc (.cells #[.int .i64 dx, .int .i64 dy, .bool F] 88)).alloc (.cells #[.int .u32 0, .slice none 0 0, .slice none 0 0] 93)
  have xK1 := ((blk_newA w (.cells #[.slice Aa na ca, .map ma] 43) 43 #[.slice Ab nb cb, .map mb]).alloc (.cells #[.int .i64 dx, .int .i64 dy, .bool F] 88)).alloc (.cells #[.int .u32 0, .slice none 0 0, .slice none 0 0] 93)
  have xK2 := (blk_newA (w.alloc (.cells #[.slice Aa na ca, .map ma] 43)) (.cells #[.slice Ab nb cb, .map mb] 43) 88 #[.int .i64 dx, .int .i64 dy, .bool F]).alloc (.cells #[.int .u32 0, .slice none 0 0, .slice none 0 0] 93)
  have xK3 := blk_newA ((w.alloc (.cells #[.slice Aa na ca, .map ma] 43)).alloc (.cells #[.slice Ab nb cb, .map mb] 43)) (.cells #[.int .i64 dx, .int .i64 dy, .bool F] 88) 93 #[.int .u32 0, .slice none 0 0, .slice none 0 0]
  rw [World.size_alloc] at xK2
  rw [World.size_alloc, World.size_alloc] at xK3
  go_enter Tryz.func50, Tryz.ntmps50
  go_upto_region 1 with fail
  obtain ⟨X0, hX0⟩ : ∃ X0, (((w.alloc (.cells #[.slice Aa na ca, .map ma] 43)).alloc (.cells #[.slice Ab nb cb, .map mb] 43)).alloc (.cells #[.int .i64 dx, .int .i64 dy, .bool F] 88)).alloc (.cells #[.int .u32 0, .slice none 0 0, .slice none 0 0] 93) = X0 := ⟨_, rfl⟩
  have hsz : X0.heap.size = w.heap.size + 1 + 1 + 1 + 1 := by rw [← hX0]; simp
  rw [hX0] at xB xK0 xK1 xK2 xK3 ⊢
  have HB := Lib.hid xB
  have K0 := Lib.hid xK0
  have K1 := Lib.hid xK1
  have K2 := Lib.hid xK2
  have K3 := Lib.hid xK3
  clear xB xK0 xK1 xK2 xK3 hX0
  have b0 := K1.out.cellV (i := 0) (v := .slice Ab nb cb) rfl
  have b1 := K1.out.cellV (i := 1) (v := .map mb) rfl
  go_wp2_with fail
  refine (HBV.out.call _ HB.out i HI.out).mono ?_
  rintro e w1 ⟨u1, rfl, hr1, hb1⟩
  obtain ⟨A1, n1, c1, rfl⟩ := hr1.form
  have hs1 := hb1.size
  replace HB := Lib.hid (bstep HB.out hb1)
  replace K0 := Lib.hid (K0.out.belowS hb1)
  replace K2 := Lib.hid (K2.out.belowS hb1)
  replace K3 := Lib.hid (K3.out.belowS hb1)
  have HSH := Lib.hid hr1
  clear hb1 hr1 b0 b1 K1
  go_upto_region 3 with fail
  have hba := bal (bal (bre w1) (.cells #[.slice A1 n1 c1] 60)) (.cells #[.slice none 0 0] 60)
  have xB := bstep HB.out hba
  have xK0 := K0.out.belowS hba
  have xK2 := K2.out.belowS hba
  have xK3 := K3.out.belowS hba
  have xSH := HSH.out.below hba
  have xK9 := (Blk.new w1 60 #[.slice A1 n1 c1]).alloc (.cells #[.slice none 0 0] 60)
  have xK10 := blk_newA w1 (.cells #[.slice A1 n1 c1] 60) 60 #[.slice none 0 0]
  obtain ⟨X1, hX1⟩ : ∃ X1, (w1.alloc (.cells #[.slice A1 n1 c1] 60)).alloc (.cells #[.slice none 0 0] 60) = X1 := ⟨_, rfl⟩
  rw [hX1] at xB xK0 xK2 xK3 xSH xK9 xK10 ⊢
  replace HB := Lib.hid xB
  replace K0 := Lib.hid xK0
  replace K2 := Lib.hid xK2
  replace K3 := Lib.hid xK3
  replace HSH := Lib.hid xSH
  have K9 := Lib.hid xK9
  have K10 := Lib.hid xK10
  clear hba xB xK0 xK2 xK3 xSH xK9 xK10 hX1
  have f0 := K2.out.cellV (i := 2) (v := .bool F) rfl
  cases F with
  | true =>
    have HKT := Lib.hid (show RegT X1 (.agg #[.slice none 0 0]) (keptP (V i) (U i) dx dy true) from (RegT.nil X1).congr (fun x y => by simp [keptP]))
    have BXK := Lib.hid (show BoxP (keptP (V i) (U i) dx dy true) from (HBV.out.box i).and _)
    go_upto_region 5 with fail
    clear f0
    have HBW := Lib.hid (show Below w.heap.size w X1.drew from (HB.out).drew)
    have KA903 := Lib.hid ((K3.out).belowS (bre X1).drew)
    have HL903 := Lib.hid (show w.heap.size ≤ (w.heap.size + 1 + 1 + 1) from by omega)
    replace K9 := Lib.hid (K9.out.belowS (bre X1).drew)
    replace K10 := Lib.hid (K10.out.belowS (bre X1).drew)
    replace HSH := Lib.hid (HSH.out.below (bre X1).drew)
    replace HKT := Lib.hid (HKT.out.below (bre X1).drew)
    refine wp_region_noPanic ?_
    refine wp_region_held_drew (S := (fun w' => w'.cell? ⟨w1.heap.size + 1, 0, none⟩ = some (.slice none 0 0) ∧ w'.cell? ⟨w1.heap.size, 0, none⟩ = some (.slice A1 n1 c1))) (by kernel_rfl) ?_ (fun hHeld => ?_)
    · (try dsimp only)
      exact ⟨K10.out.cellV (i := 0) rfl, K9.out.cellV (i := 0) rfl⟩
    refine Tr.take_at 0 27 (.int .u32 i) rfl rfl (by kernel_rfl) (by kernel_rfl) (by kernel_rfl) (fun _ _ _ h => h) (Or.inl ⟨by rfl, ?_⟩) (by assumption) ?_
    · intro W0 hSw
      (try dsimp only at hSw)
      go_simp
    simp only [List.set_cons_zero, List.set_cons_succ]
    refine Tr.take_at 1 28 (.agg #[.slice none 0 0]) rfl rfl (by kernel_rfl) (by kernel_rfl) (by kernel_rfl) (fun _ _ _ h => h) (Or.inl ⟨by rfl, ?_⟩) (by assumption) ?_
    · intro W0 hSw
      (try dsimp only at hSw)
      go_simp
    simp only [List.set_cons_zero, List.set_cons_succ]
    refine Tr.take_at 2 29 (.agg #[.slice A1 n1 c1]) rfl rfl (by kernel_rfl) (by kernel_rfl) (by kernel_rfl) (fun _ _ _ h => h) (Or.inl ⟨by rfl, ?_⟩) (by assumption) ?_
    · intro W0 hSw
      (try dsimp only at hSw)
      go_simp
    simp only [List.set_cons_zero, List.set_cons_succ]
    refine Tr.take_at 3 30 (.agg #[.slice none 0 0]) rfl rfl (by kernel_rfl) (by kernel_rfl) (by kernel_rfl) (fun _ _ _ h => h) (Or.inl ⟨by rfl, ?_⟩) (by assumption) ?_
    · intro W0 hSw
      (try dsimp only at hSw)
      go_simp
    simp only [List.set_cons_zero, List.set_cons_succ]
    refine wpAnyH_ready (rs := [4]) (by kernel_rfl) (by simp) ?_
    refine AllReadyH.cons rfl (fun K hK => ?_) AllReadyH.nil
    go_simp
    refine (minusT HSH.out HKT.out.reg (HBV.out.box i) BXK.out).mono ?_
    rintro e wc4 ⟨u4, rfl, hr4, hbA⟩
    obtain ⟨A4, n4, c4, rfl⟩ := hr4.form
    have HR4 := Lib.hid hr4
    clear hr4
    replace HBW := Lib.hid (bstep HBW.out hbA)
    replace KA903 := Lib.hid (KA903.out.belowS hbA)
    replace K9 := Lib.hid (K9.out.belowS hbA)
    replace K10 := Lib.hid (K10.out.belowS hbA)
    replace HSH := Lib.hid (HSH.out.below hbA)
    replace HKT := Lib.hid (HKT.out.below hbA)
    clear hbA
    go_simp
    refine hK.out _ _ ?_ (fun hHeld => ?_)
    · (try dsimp only)
      exact ⟨K10.out.cellV (i := 0) rfl, K9.out.cellV (i := 0) rfl⟩
    clear hK K
    refine Tr.take_at 5 32 (.agg #[.int .u32 i, .slice none 0 0, .slice A4 n4 c4]) rfl rfl (by kernel_rfl) (by kernel_rfl) (by kernel_rfl) (fun _ _ _ h => h) (Or.inl ⟨by rfl, ?_⟩) (by assumption) ?_
    · intro W0 hSw
      apply y_build
      as_aux_lemma => kernel_rfl
    simp only [List.set_cons_zero, List.set_cons_succ]
    refine wpAnyH_ready (rs := [6]) (by kernel_rfl) (by simp) ?_
    refine AllReadyH.cons rfl (fun K hK => ?_) AllReadyH.nil
    refine Tr.wanted_plain rfl ?_
    refine store_mid0 rfl 93 _ _ rfl ((w.heap.size + 1 + 1 + 1)) 0 #[.int .u32 i, .slice none 0 0, .slice A4 n4 c4] (by rfl) (by rfl) (by have h := there_blk KA903.out; exact h) Tryz.sizeCh (by simp [Value.oneCell']) ?_
    have xK := put3 (.int .u32 i) (.slice none 0 0) (.slice A4 n4 c4) KA903.out
    have xB := bsets HBW.out HL903.out (#[.int .u32 i, .slice none 0 0, .slice A4 n4 c4] : Array Value).toList 0
    have xK9 := (show Blk (World.setCells (wc4) ((w.heap.size + 1 + 1 + 1)) 0 (#[.int .u32 i, .slice none 0 0, .slice A4 n4 c4] : Array Value).toList) (w1.heap.size) 60 _ from K9.out.farCells (by show _ ≠ _; omega) _ _)
    have xK10 := (show Blk (World.setCells (wc4) ((w.heap.size + 1 + 1 + 1)) 0 (#[.int .u32 i, .slice none 0 0, .slice A4 n4 c4] : Array Value).toList) (w1.heap.size + 1) 60 _ from K10.out.farCells (by show _ ≠ _; omega) _ _)
    have xHSH := (show RegP (World.setCells (wc4) ((w.heap.size + 1 + 1 + 1)) 0 (#[.int .u32 i, .slice none 0 0, .slice A4 n4 c4] : Array Value).toList) _ _ from HSH.out.sets3 KA903.out)
    have xHKT := (show RegT (World.setCells (wc4) ((w.heap.size + 1 + 1 + 1)) 0 (#[.int .u32 i, .slice none 0 0, .slice A4 n4 c4] : Array Value).toList) _ _ from HKT.out.sets3 KA903.out)
    have xHR4 := (show RegT (World.setCells (wc4) ((w.heap.size + 1 + 1 + 1)) 0 (#[.int .u32 i, .slice none 0 0, .slice A4 n4 c4] : Array Value).toList) _ _ from HR4.out.sets3 KA903.out)
    obtain ⟨wS6, hwS⟩ : ∃ wS, World.setCells wc4 ((w.heap.size + 1 + 1 + 1)) 0 (#[.int .u32 i, .slice none 0 0, .slice A4 n4 c4] : Array Value).toList = wS := ⟨_, rfl⟩
    rw [hwS] at xK xB xK9 xK10 xHSH xHKT xHR4 ⊢
    replace HBW := Lib.hid xB
    replace KA903 := Lib.hid xK
    replace K9 := Lib.hid xK9
    replace K10 := Lib.hid xK10
    replace HSH := Lib.hid xHSH
    replace HKT := Lib.hid xHKT
    replace HR4 := Lib.hid xHR4
    clear hwS xK xB xK9 xK10 xHSH xHKT xHR4
    refine hK.out _ _ ?_ (fun hHeld => ?_)
    · (try dsimp only)
      exact ⟨K10.out.cellV (i := 0) rfl, K9.out.cellV (i := 0) rfl⟩
    clear hK K
    refine wpAnyH_done (by kernel_rfl) ?_ _
    refine NoPanic.normal ?_
    have r0 := KA903.out.cellV (i := 0) (v := .int .u32 i) rfl
    have r1 := KA903.out.cellV (i := 1) (v := .slice none 0 0) rfl
    have r2 := KA903.out.cellV (i := 2) (v := .slice A4 n4 c4) rfl
    repeat (first | go_values | go_skip | go_guarded | go_step | go_upon)
    refine bodyPost_ret (v := .agg #[.int .u32 i, .slice none 0 0, .slice A4 n4 c4]) (by simp [results, Tryz.results50, go_sem, r0, r1, r2]) rfl ⟨none, 0, 0, A4, n4, c4, rfl, HKT.out, HR4.out, HBW.out⟩
  | false =>
    go_upto_region 4 with fail
    clear f0
    replace K10 := Lib.hid K10.out
    have HBW := Lib.hid (show Below w.heap.size w X1.drew from (HB.out).drew)
    have KA910 := Lib.hid ((K10.out).belowS (bre X1).drew)
    have HL910 := Lib.hid (show w.heap.size ≤ (w1.heap.size + 1) from by omega)
    replace K0 := Lib.hid (K0.out.belowS (bre X1).drew)
    replace K2 := Lib.hid (K2.out.belowS (bre X1).drew)
    replace K3 := Lib.hid (K3.out.belowS (bre X1).drew)
    replace K9 := Lib.hid (K9.out.belowS (bre X1).drew)
    replace HSH := Lib.hid (HSH.out.below (bre X1).drew)
    refine wp_region_noPanic ?_
    refine wp_region_held_drew (S := (fun w' => w'.cell? ⟨w1.heap.size, 0, none⟩ = some (.slice A1 n1 c1) ∧ w'.cell? ⟨w.heap.size, 0, none⟩ = some (.slice Aa na ca) ∧ w'.cell? ⟨w.heap.size, 1, none⟩ = some (.map ma) ∧ w'.cell? ⟨w.heap.size + 1 + 1, 0, none⟩ = some (.int .i64 dx) ∧ w'.cell? ⟨w.heap.size + 1 + 1, 1, none⟩ = some (.int .i64 dy))) (by kernel_rfl) ?_ (fun hHeld => ?_)
    · (try dsimp only)
      exact ⟨K9.out.cellV (i := 0) rfl, K0.out.cellV (i := 0) rfl, K0.out.cellV (i := 1) rfl, K2.out.cellV (i := 0) rfl, K2.out.cellV (i := 1) rfl⟩
    refine Tr.take_at 0 17 (.agg #[.slice A1 n1 c1]) rfl rfl (by kernel_rfl) (by kernel_rfl) (by kernel_rfl) (fun _ _ _ h => h) (Or.inl ⟨by rfl, ?_⟩) (by assumption) ?_
    · intro W0 hSw
      (try dsimp only at hSw)
      go_simp
    simp only [List.set_cons_zero, List.set_cons_succ]
    refine Tr.take_at 1 18 (.agg #[.slice Aa na ca, .map ma]) rfl rfl (by kernel_rfl) (by kernel_rfl) (by kernel_rfl) (fun _ _ _ h => h) (Or.inl ⟨by rfl, ?_⟩) (by assumption) ?_
    · intro W0 hSw
      (try dsimp only at hSw)
      go_simp
    simp only [List.set_cons_zero, List.set_cons_succ]
    refine Tr.take_at 2 19 (.int .u32 i) rfl rfl (by kernel_rfl) (by kernel_rfl) (by kernel_rfl) (fun _ _ _ h => h) (Or.inl ⟨by rfl, ?_⟩) (by assumption) ?_
    · intro W0 hSw
      (try dsimp only at hSw)
      go_simp
    simp only [List.set_cons_zero, List.set_cons_succ]
    refine Tr.take_at 4 21 (.pointer (some ⟨w.heap.size + 1 + 1, 0, none⟩)) rfl rfl (by kernel_rfl) (by kernel_rfl) (by kernel_rfl) (fun _ _ _ h => h) (Or.inl ⟨by rfl, ?_⟩) (by assumption) ?_
    · intro W0 hSw
      (try dsimp only at hSw)
      go_simp
    simp only [List.set_cons_zero, List.set_cons_succ]
    refine Tr.take_at 5 22 (.int .i64 dx) rfl rfl (by kernel_rfl) (by kernel_rfl) (by kernel_rfl) (fun _ _ _ h => h) (Or.inl ⟨by rfl, ?_⟩) (by assumption) ?_
    · intro W0 hSw
      (try dsimp only at hSw)
      go_simp
    simp only [List.set_cons_zero, List.set_cons_succ]
    refine Tr.take_at 6 23 (.pointer (some ⟨w.heap.size + 1 + 1, 1, none⟩)) rfl rfl (by kernel_rfl) (by kernel_rfl) (by kernel_rfl) (fun _ _ _ h => h) (Or.inl ⟨by rfl, ?_⟩) (by assumption) ?_
    · intro W0 hSw
      (try dsimp only at hSw)
      go_simp
    simp only [List.set_cons_zero, List.set_cons_succ]
    refine Tr.take_at 7 24 (.int .i64 dy) rfl rfl (by kernel_rfl) (by kernel_rfl) (by kernel_rfl) (fun _ _ _ h => h) (Or.inl ⟨by rfl, ?_⟩) (by assumption) ?_
    · intro W0 hSw
      (try dsimp only at hSw)
      go_simp
    simp only [List.set_cons_zero, List.set_cons_succ]
    refine wpAnyH_ready (rs := [3]) (by kernel_rfl) (by simp) ?_
    refine AllReadyH.cons rfl (fun K hK => ?_) AllReadyH.nil
    go_simp
    refine (HAV.out.call _ HBW.out i HI.out).mono ?_
    rintro e wc3 ⟨u3, rfl, hr3, hbA⟩
    obtain ⟨A3, n3, c3, rfl⟩ := hr3.form
    have HR3 := Lib.hid hr3
    clear hr3
    replace HBW := Lib.hid (bstep HBW.out hbA)
    replace KA910 := Lib.hid (KA910.out.belowS hbA)
    replace K0 := Lib.hid (K0.out.belowS hbA)
    replace K2 := Lib.hid (K2.out.belowS hbA)
    replace K3 := Lib.hid (K3.out.belowS hbA)
    replace K9 := Lib.hid (K9.out.belowS hbA)
    replace HSH := Lib.hid (HSH.out.below hbA)
    clear hbA
    go_simp
    refine hK.out _ _ ?_ (fun hHeld => ?_)
    · (try dsimp only)
      exact ⟨K9.out.cellV (i := 0) rfl, K0.out.cellV (i := 0) rfl, K0.out.cellV (i := 1) rfl, K2.out.cellV (i := 0) rfl, K2.out.cellV (i := 1) rfl⟩
    clear hK K
    refine wpAnyH_ready (rs := [8]) (by kernel_rfl) (by simp) ?_
    refine AllReadyH.cons rfl (fun K hK => ?_) AllReadyH.nil
    go_simp
    refine (shiftP dx dy HR3.out (HAV.out.box i) (by have := HD.out; omega) (by have := HD.out; omega)).mono ?_
    rintro e wc8 ⟨u8, rfl, hr8, hbA⟩
    obtain ⟨A8, n8, c8, rfl⟩ := hr8.form
    have HR8 := Lib.hid hr8
    clear hr8
    replace HBW := Lib.hid (bstep HBW.out hbA)
    replace KA910 := Lib.hid (KA910.out.belowS hbA)
    replace K0 := Lib.hid (K0.out.belowS hbA)
    replace K2 := Lib.hid (K2.out.belowS hbA)
    replace K3 := Lib.hid (K3.out.belowS hbA)
    replace K9 := Lib.hid (K9.out.belowS hbA)
    replace HSH := Lib.hid (HSH.out.below hbA)
    replace HR3 := Lib.hid (HR3.out.below hbA)
    clear hbA
    go_simp
    refine hK.out _ _ ?_ (fun hHeld => ?_)
    · (try dsimp only)
      exact ⟨K9.out.cellV (i := 0) rfl, K0.out.cellV (i := 0) rfl, K0.out.cellV (i := 1) rfl, K2.out.cellV (i := 0) rfl, K2.out.cellV (i := 1) rfl⟩
    clear hK K
    refine wpAnyH_ready (rs := [9]) (by kernel_rfl) (by simp) ?_
    refine AllReadyH.cons rfl (fun K hK => ?_) AllReadyH.nil
    go_simp
    refine (meetT HSH.out HR8.out (HBV.out.box i) (fun x y hxy => by have h1 := HAV.out.small i _ _ hxy; have h2 := HD.out; omega)).mono ?_
    rintro e wc9 ⟨u9, rfl, hr9, hbA⟩
    obtain ⟨A9, n9, c9, rfl⟩ := hr9.form
    have HKT := Lib.hid (hr9.congr (fun x y => show _ = keptP (V i) (U i) dx dy false x y by simp [keptP]))
    clear hr9
    replace HBW := Lib.hid (bstep HBW.out hbA)
    replace KA910 := Lib.hid (KA910.out.belowS hbA)
    replace K0 := Lib.hid (K0.out.belowS hbA)
    replace K2 := Lib.hid (K2.out.belowS hbA)
    replace K3 := Lib.hid (K3.out.belowS hbA)
    replace K9 := Lib.hid (K9.out.belowS hbA)
    replace HSH := Lib.hid (HSH.out.below hbA)
    replace HR8 := Lib.hid (HR8.out.below hbA)
    clear hbA
    go_simp
    refine hK.out _ _ ?_ (fun hHeld => ?_)
    · (try dsimp only)
      exact ⟨K9.out.cellV (i := 0) rfl, K0.out.cellV (i := 0) rfl, K0.out.cellV (i := 1) rfl, K2.out.cellV (i := 0) rfl, K2.out.cellV (i := 1) rfl⟩
    clear hK K
    refine wpAnyH_ready (rs := [10]) (by kernel_rfl) (by simp) ?_
    refine AllReadyH.cons rfl (fun K hK => ?_) AllReadyH.nil
    refine Tr.wanted_plain rfl ?_
    refine store_mid0 rfl 60 _ _ rfl ((w1.heap.size + 1)) 0 #[.slice A9 n9 c9] (by rfl) (by rfl) (by have h := there_blk KA910.out; exact h) Tryz.sizeRg (by simp [Value.oneCell']) ?_
    have xK := blk_puts1 (.slice A9 n9 c9) KA910.out
    have xB := bsets HBW.out HL910.out (#[.slice A9 n9 c9] : Array Value).toList 0
    have xK0 := (show Blk (World.setCells (wc9) ((w1.heap.size + 1)) 0 (#[.slice A9 n9 c9] : Array Value).toList) (w.heap.size) 43 _ from K0.out.farCells (by show _ ≠ _; omega) _ _)
    have xK2 := (show Blk (World.setCells (wc9) ((w1.heap.size + 1)) 0 (#[.slice A9 n9 c9] : Array Value).toList) (w.heap.size + 1 + 1) 88 _ from K2.out.farCells (by show _ ≠ _; omega) _ _)
    have xK3 := (show Blk (World.setCells (wc9) ((w1.heap.size + 1)) 0 (#[.slice A9 n9 c9] : Array Value).toList) (w.heap.size + 1 + 1 + 1) 93 _ from K3.out.farCells (by show _ ≠ _; omega) _ _)
    have xK9 := (show Blk (World.setCells (wc9) ((w1.heap.size + 1)) 0 (#[.slice A9 n9 c9] : Array Value).toList) (w1.heap.size) 60 _ from K9.out.farCells (by show _ ≠ _; omega) _ _)
    have xHSH := (show RegP (World.setCells (wc9) ((w1.heap.size + 1)) 0 (#[.slice A9 n9 c9] : Array Value).toList) _ _ from HSH.out.sets1 KA910.out)
    have xHKT := (show RegT (World.setCells (wc9) ((w1.heap.size + 1)) 0 (#[.slice A9 n9 c9] : Array Value).toList) _ _ from HKT.out.sets1 KA910.out)
    obtain ⟨wS10, hwS⟩ : ∃ wS, World.setCells wc9 ((w1.heap.size + 1)) 0 (#[.slice A9 n9 c9] : Array Value).toList = wS := ⟨_, rfl⟩
    rw [hwS] at xK xB xK0 xK2 xK3 xK9 xHSH xHKT ⊢
    replace HBW := Lib.hid xB
    replace KA910 := Lib.hid xK
    replace K0 := Lib.hid xK0
    replace K2 := Lib.hid xK2
    replace K3 := Lib.hid xK3
    replace K9 := Lib.hid xK9
    replace HSH := Lib.hid xHSH
    replace HKT := Lib.hid xHKT
    clear hwS xK xB xK0 xK2 xK3 xK9 xHSH xHKT
    refine hK.out _ _ ?_ (fun hHeld => ?_)
    · (try dsimp only)
      exact ⟨K9.out.cellV (i := 0) rfl, K0.out.cellV (i := 0) rfl, K0.out.cellV (i := 1) rfl, K2.out.cellV (i := 0) rfl, K2.out.cellV (i := 1) rfl⟩
    clear hK K
    refine wpAnyH_done (by kernel_rfl) ?_ _
    refine NoPanic.normal ?_
    have K10 := Lib.hid KA910.out
    replace HB := Lib.hid HBW.out
    clear HBW KA910 HL910
    have BXK := Lib.hid (show BoxP (keptP (V i) (U i) dx dy false) from (HBV.out.box i).and _)
    go_upto_region 5 with fail
    have HBW := Lib.hid (show Below w.heap.size w wS10.drew from (HB.out).drew)
    have KA903 := Lib.hid ((K3.out).belowS (bre wS10).drew)
    have HL903 := Lib.hid (show w.heap.size ≤ (w.heap.size + 1 + 1 + 1) from by omega)
    replace K9 := Lib.hid (K9.out.belowS (bre wS10).drew)
    replace K10 := Lib.hid (K10.out.belowS (bre wS10).drew)
    replace HSH := Lib.hid (HSH.out.below (bre wS10).drew)
    replace HKT := Lib.hid (HKT.out.below (bre wS10).drew)
    refine wp_region_noPanic ?_
    refine wp_region_held_drew (S := (fun w' => w'.cell? ⟨w1.heap.size + 1, 0, none⟩ = some (.slice A9 n9 c9) ∧ w'.cell? ⟨w1.heap.size, 0, none⟩ = some (.slice A1 n1 c1))) (by kernel_rfl) ?_ (fun hHeld => ?_)
    · (try dsimp only)
      exact ⟨K10.out.cellV (i := 0) rfl, K9.out.cellV (i := 0) rfl⟩
    refine Tr.take_at 0 27 (.int .u32 i) rfl rfl (by kernel_rfl) (by kernel_rfl) (by kernel_rfl) (fun _ _ _ h => h) (Or.inl ⟨by rfl, ?_⟩) (by assumption) ?_
    · intro W0 hSw
      (try dsimp only at hSw)
      go_simp
    simp only [List.set_cons_zero, List.set_cons_succ]
    refine Tr.take_at 1 28 (.agg #[.slice A9 n9 c9]) rfl rfl (by kernel_rfl) (by kernel_rfl) (by kernel_rfl) (fun _ _ _ h => h) (Or.inl ⟨by rfl, ?_⟩) (by assumption) ?_
    · intro W0 hSw
      (try dsimp only at hSw)
      go_simp
    simp only [List.set_cons_zero, List.set_cons_succ]
    refine Tr.take_at 2 29 (.agg #[.slice A1 n1 c1]) rfl rfl (by kernel_rfl) (by kernel_rfl) (by kernel_rfl) (fun _ _ _ h => h) (Or.inl ⟨by rfl, ?_⟩) (by assumption) ?_
    · intro W0 hSw
      (try dsimp only at hSw)
      go_simp
    simp only [List.set_cons_zero, List.set_cons_succ]
    refine Tr.take_at 3 30 (.agg #[.slice A9 n9 c9]) rfl rfl (by kernel_rfl) (by kernel_rfl) (by kernel_rfl) (fun _ _ _ h => h) (Or.inl ⟨by rfl, ?_⟩) (by assumption) ?_
    · intro W0 hSw
      (try dsimp only at hSw)
      go_simp
    simp only [List.set_cons_zero, List.set_cons_succ]
    refine wpAnyH_ready (rs := [4]) (by kernel_rfl) (by simp) ?_
    refine AllReadyH.cons rfl (fun K hK => ?_) AllReadyH.nil
    go_simp
    refine (minusT HSH.out HKT.out.reg (HBV.out.box i) BXK.out).mono ?_
    rintro e wc4 ⟨u4, rfl, hr4, hbA⟩
    obtain ⟨A4, n4, c4, rfl⟩ := hr4.form
    have HR4 := Lib.hid hr4
    clear hr4
    replace HBW := Lib.hid (bstep HBW.out hbA)
    replace KA903 := Lib.hid (KA903.out.belowS hbA)
    replace K9 := Lib.hid (K9.out.belowS hbA)
    replace K10 := Lib.hid (K10.out.belowS hbA)
    replace HSH := Lib.hid (HSH.out.below hbA)
    replace HKT := Lib.hid (HKT.out.below hbA)
    clear hbA
    go_simp
    refine hK.out _ _ ?_ (fun hHeld => ?_)
    · (try dsimp only)
      exact ⟨K10.out.cellV (i := 0) rfl, K9.out.cellV (i := 0) rfl⟩
    clear hK K
    refine Tr.take_at 5 32 (.agg #[.int .u32 i, .slice A9 n9 c9, .slice A4 n4 c4]) rfl rfl (by kernel_rfl) (by kernel_rfl) (by kernel_rfl) (fun _ _ _ h => h) (Or.inl ⟨by rfl, ?_⟩) (by assumption) ?_
    · intro W0 hSw
      apply y_build
      as_aux_lemma => kernel_rfl
    simp only [List.set_cons_zero, List.set_cons_succ]
    refine wpAnyH_ready (rs := [6]) (by kernel_rfl) (by simp) ?_
    refine AllReadyH.cons rfl (fun K hK => ?_) AllReadyH.nil
    refine Tr.wanted_plain rfl ?_
    refine store_mid0 rfl 93 _ _ rfl ((w.heap.size + 1 + 1 + 1)) 0 #[.int .u32 i, .slice A9 n9 c9, .slice A4 n4 c4] (by rfl) (by rfl) (by have h := there_blk KA903.out; exact h) Tryz.sizeCh (by simp [Value.oneCell']) ?_
    have xK := put3 (.int .u32 i) (.slice A9 n9 c9) (.slice A4 n4 c4) KA903.out
    have xB := bsets HBW.out HL903.out (#[.int .u32 i, .slice A9 n9 c9, .slice A4 n4 c4] : Array Value).toList 0
    have xK9 := (show Blk (World.setCells (wc4) ((w.heap.size + 1 + 1 + 1)) 0 (#[.int .u32 i, .slice A9 n9 c9, .slice A4 n4 c4] : Array Value).toList) (w1.heap.size) 60 _ from K9.out.farCells (by show _ ≠ _; omega) _ _)
    have xK10 := (show Blk (World.setCells (wc4) ((w.heap.size + 1 + 1 + 1)) 0 (#[.int .u32 i, .slice A9 n9 c9, .slice A4 n4 c4] : Array Value).toList) (w1.heap.size + 1) 60 _ from K10.out.farCells (by show _ ≠ _; omega) _ _)
    have xHSH := (show RegP (World.setCells (wc4) ((w.heap.size + 1 + 1 + 1)) 0 (#[.int .u32 i, .slice A9 n9 c9, .slice A4 n4 c4] : Array Value).toList) _ _ from HSH.out.sets3 KA903.out)
    have xHKT := (show RegT (World.setCells (wc4) ((w.heap.size + 1 + 1 + 1)) 0 (#[.int .u32 i, .slice A9 n9 c9, .slice A4 n4 c4] : Array Value).toList) _ _ from HKT.out.sets3 KA903.out)
    have xHR4 := (show RegT (World.setCells (wc4) ((w.heap.size + 1 + 1 + 1)) 0 (#[.int .u32 i, .slice A9 n9 c9, .slice A4 n4 c4] : Array Value).toList) _ _ from HR4.out.sets3 KA903.out)
    obtain ⟨wS6, hwS⟩ : ∃ wS, World.setCells wc4 ((w.heap.size + 1 + 1 + 1)) 0 (#[.int .u32 i, .slice A9 n9 c9, .slice A4 n4 c4] : Array Value).toList = wS := ⟨_, rfl⟩
    rw [hwS] at xK xB xK9 xK10 xHSH xHKT xHR4 ⊢
    replace HBW := Lib.hid xB
    replace KA903 := Lib.hid xK
    replace K9 := Lib.hid xK9
    replace K10 := Lib.hid xK10
    replace HSH := Lib.hid xHSH
    replace HKT := Lib.hid xHKT
    replace HR4 := Lib.hid xHR4
    clear hwS xK xB xK9 xK10 xHSH xHKT xHR4
    refine hK.out _ _ ?_ (fun hHeld => ?_)
    · (try dsimp only)
      exact ⟨K10.out.cellV (i := 0) rfl, K9.out.cellV (i := 0) rfl⟩
    clear hK K
    refine wpAnyH_done (by kernel_rfl) ?_ _
    refine NoPanic.normal ?_
    have r0 := KA903.out.cellV (i := 0) (v := .int .u32 i) rfl
    have r1 := KA903.out.cellV (i := 1) (v := .slice A9 n9 c9) rfl
    have r2 := KA903.out.cellV (i := 2) (v := .slice A4 n4 c4) rfl
    repeat (first | go_values | go_skip | go_guarded | go_step | go_upon)
    refine bodyPost_ret (v := .agg #[.int .u32 i, .slice A9 n9 c9, .slice A4 n4 c4]) (by simp [results, Tryz.results50, go_sem, r0, r1, r2]) rfl ⟨A9, n9, c9, A4, n4, c4, rfl, HKT.out, HR4.out, HBW.out⟩
theorem one_any (i dx dy : Int) (F : Bool) (ha : VisAt w (.agg #[.slice Aa na ca, .map ma]) V) (hb : VisAt w (.agg #[.slice Ab nb cb, .map mb]) U) (hi : 0 ≤ i ∧ i ≤ 4294967295) (hd : (-128 ≤ dx ∧ dx ≤ 127) ∧ -128 ≤ dy ∧ dy ≤ 127) :
    Calls Tryz.prog 50 #[.agg #[.slice Aa na ca, .map ma], .agg #[.slice Ab nb cb, .map mb], .int .u32 i, .agg #[.int .i64 dx, .int .i64 dy, .bool F]] w fun e w' => ∃ A n c B m d, e = .returned (.agg #[.int .u32 i, .slice A n c, .slice B m d]) ∧ RegP w' (.agg #[.slice A n c]) (keptP (V i) (U i) dx dy F) ∧ RegP w' (.agg #[.slice B m d]) (newP (V i) (U i) dx dy F) ∧ Below w.heap.size w w' := by
  refine (one_anyT i dx dy F ha hb hi hd).mono ?_
  rintro e w' ⟨A, n, c, B, m, d, h0, h1, h2, h3⟩
  exact ⟨A, n, c, B, m, d, h0, h1.reg, h2.reg, h3⟩
set_option maxRecDepth 100000 in
set_option maxHeartbeats 4000000 in
theorem lost_any (i : Int) (ha : VisAt w (.agg #[.slice Aa na ca, .map ma]) V) (hb : VisAt w (.agg #[.slice Ab nb cb, .map mb]) U) (hi : 0 ≤ i ∧ i ≤ 4294967295) :
    Calls Tryz.prog 51 #[.agg #[.slice Aa na ca, .map ma], .agg #[.slice Ab nb cb, .map mb], .int .u32 i] w fun e w' => ∃ u, e = .returned u ∧ RegP w' u (fun x y => V i x y && !U i x y) ∧ Below w.heap.size w w' := by
  have HAV := Lib.hid ha
  have HBV := Lib.hid hb
  have HI := Lib.hid hi
  clear ha hb hi
  have xB := bal (bal (bal (bre w) (.cells #[.slice Aa na ca, .map ma] 43)) (.cells #[.slice Ab nb cb, .map mb] 43)) (.cells #[.slice none 0 0] 60)
  have xK0 := ((Blk.new w 43 #[.slice Aa na ca, .map ma]).alloc (.cells #[.slice Ab nb cb, .map mb] 43)).alloc (.cells #[.slice none 0 0] 60)
  have xK1 := (blk_newA w (.cells #[.slice Aa na ca, .map ma] 43) 43 #[.slice Ab nb cb, .map mb]).alloc (.cells #[.slice none 0 0] 60)
  have xK2 := blk_newA (w.alloc (.cells #[.slice Aa na ca, .map ma] 43)) (.cells #[.slice Ab nb cb, .map mb] 43) 60 #[.slice none 0 0]
  rw [World.size_alloc] at xK2
  go_enter Tryz.func51, Tryz.ntmps51
  go_upto_region 1 with fail
  obtain ⟨X0, hX0⟩ : ∃ X0, ((w.alloc (.cells #[.slice Aa na ca, .map ma] 43)).alloc (.cells #[.slice Ab nb cb, .map mb] 43)).alloc (.cells #[.slice none 0 0] 60) = X0 := ⟨_, rfl⟩
  rw [hX0] at xB xK0 xK1 xK2 ⊢
  have HB := Lib.hid xB
  have K0 := Lib.hid xK0
  have K1 := Lib.hid xK1
  have K2 := Lib.hid xK2
  clear xB xK0 xK1 xK2 hX0
  have HBW := Lib.hid (show Below w.heap.size w X0.drew from (HB.out).drew)
  have KA906 := Lib.hid ((K2.out).belowS (bre X0).drew)
  have HL906 := Lib.hid (show w.heap.size ≤ (w.heap.size + 1 + 1) from by omega)
  replace K0 := Lib.hid (K0.out.belowS (bre X0).drew)
  replace K1 := Lib.hid (K1.out.belowS (bre X0).drew)
  refine wp_region_noPanic ?_
  refine wp_region_held_drew (S := (fun w' => w'.cell? ⟨w.heap.size, 0, none⟩ = some (.slice Aa na ca) ∧ w'.cell? ⟨w.heap.size, 1, none⟩ = some (.map ma) ∧ w'.cell? ⟨w.heap.size + 1, 0, none⟩ = some (.slice Ab nb cb) ∧ w'.cell? ⟨w.heap.size + 1, 1, none⟩ = some (.map mb))) (by kernel_rfl) ?_ (fun hHeld => ?_)
  · (try dsimp only)
    exact ⟨K0.out.cellV (i := 0) rfl, K0.out.cellV (i := 1) rfl, K1.out.cellV (i := 0) rfl, K1.out.cellV (i := 1) rfl⟩
  refine Tr.take_at 0 7 (.agg #[.slice Aa na ca, .map ma]) rfl rfl (by kernel_rfl) (by kernel_rfl) (by kernel_rfl) (fun _ _ _ h => h) (Or.inl ⟨by rfl, ?_⟩) (by assumption) ?_
  · intro W0 hSw
    (try dsimp only at hSw)
    go_simp
  simp only [List.set_cons_zero, List.set_cons_succ]
  refine Tr.take_at 1 8 (.int .u32 i) rfl rfl (by kernel_rfl) (by kernel_rfl) (by kernel_rfl) (fun _ _ _ h => h) (Or.inl ⟨by rfl, ?_⟩) (by assumption) ?_
  · intro W0 hSw
    (try dsimp only at hSw)
    go_simp
  simp only [List.set_cons_zero, List.set_cons_succ]
  refine Tr.take_at 3 10 (.agg #[.slice Ab nb cb, .map mb]) rfl rfl (by kernel_rfl) (by kernel_rfl) (by kernel_rfl) (fun _ _ _ h => h) (Or.inl ⟨by rfl, ?_⟩) (by assumption) ?_
  · intro W0 hSw
    (try dsimp only at hSw)
    go_simp
  simp only [List.set_cons_zero, List.set_cons_succ]
  refine Tr.take_at 4 11 (.int .u32 i) rfl rfl (by kernel_rfl) (by kernel_rfl) (by kernel_rfl) (fun _ _ _ h => h) (Or.inl ⟨by rfl, ?_⟩) (by assumption) ?_
  · intro W0 hSw
    (try dsimp only at hSw)
    go_simp
  simp only [List.set_cons_zero, List.set_cons_succ]
  refine wpAnyH_ready (rs := [2]) (by kernel_rfl) (by simp) ?_
  refine AllReadyH.cons rfl (fun K hK => ?_) AllReadyH.nil
  go_simp
  refine (HAV.out.call _ HBW.out i HI.out).mono ?_
  rintro e wc2 ⟨u2, rfl, hr2, hbA⟩
  obtain ⟨A2, n2, c2, rfl⟩ := hr2.form
  have HR2 := Lib.hid hr2
  clear hr2
  replace HBW := Lib.hid (bstep HBW.out hbA)
  replace KA906 := Lib.hid (KA906.out.belowS hbA)
  replace K0 := Lib.hid (K0.out.belowS hbA)
  replace K1 := Lib.hid (K1.out.belowS hbA)
  clear hbA
  go_simp
  refine hK.out _ _ ?_ (fun hHeld => ?_)
  · (try dsimp only)
    exact ⟨K0.out.cellV (i := 0) rfl, K0.out.cellV (i := 1) rfl, K1.out.cellV (i := 0) rfl, K1.out.cellV (i := 1) rfl⟩
  clear hK K
  refine wpAnyH_ready (rs := [5]) (by kernel_rfl) (by simp) ?_
  refine AllReadyH.cons rfl (fun K hK => ?_) AllReadyH.nil
  go_simp
  refine (HBV.out.call _ HBW.out i HI.out).mono ?_
  rintro e wc5 ⟨u5, rfl, hr5, hbA⟩
  obtain ⟨A5, n5, c5, rfl⟩ := hr5.form
  have HR5 := Lib.hid hr5
  clear hr5
  replace HBW := Lib.hid (bstep HBW.out hbA)
  replace KA906 := Lib.hid (KA906.out.belowS hbA)
  replace K0 := Lib.hid (K0.out.belowS hbA)
  replace K1 := Lib.hid (K1.out.belowS hbA)
  replace HR2 := Lib.hid (HR2.out.below hbA)
  clear hbA
  go_simp
  refine hK.out _ _ ?_ (fun hHeld => ?_)
  · (try dsimp only)
    exact ⟨K0.out.cellV (i := 0) rfl, K0.out.cellV (i := 1) rfl, K1.out.cellV (i := 0) rfl, K1.out.cellV (i := 1) rfl⟩
  clear hK K
  refine wpAnyH_ready (rs := [6]) (by kernel_rfl) (by simp) ?_
  refine AllReadyH.cons rfl (fun K hK => ?_) AllReadyH.nil
  go_simp
  refine (minusP HR2.out HR5.out (HAV.out.box i) (HBV.out.box i)).mono ?_
  rintro e wc6 ⟨u6, rfl, hr6, hbA⟩
  obtain ⟨A6, n6, c6, rfl⟩ := hr6.form
  have HR6 := Lib.hid hr6
  clear hr6
  replace HBW := Lib.hid (bstep HBW.out hbA)
  replace KA906 := Lib.hid (KA906.out.belowS hbA)
  replace K0 := Lib.hid (K0.out.belowS hbA)
  replace K1 := Lib.hid (K1.out.belowS hbA)
  replace HR2 := Lib.hid (HR2.out.below hbA)
  replace HR5 := Lib.hid (HR5.out.below hbA)
  clear hbA
  go_simp
  refine hK.out _ _ ?_ (fun hHeld => ?_)
  · (try dsimp only)
    exact ⟨K0.out.cellV (i := 0) rfl, K0.out.cellV (i := 1) rfl, K1.out.cellV (i := 0) rfl, K1.out.cellV (i := 1) rfl⟩
  clear hK K
  refine wpAnyH_ready (rs := [7]) (by kernel_rfl) (by simp) ?_
  refine AllReadyH.cons rfl (fun K hK => ?_) AllReadyH.nil
  refine Tr.wanted_plain rfl ?_
  refine store_mid0 rfl 60 _ _ rfl ((w.heap.size + 1 + 1)) 0 #[.slice A6 n6 c6] (by rfl) (by rfl) (by have h := there_blk KA906.out; exact h) Tryz.sizeRg (by simp [Value.oneCell']) ?_
  have xK := blk_puts1 (.slice A6 n6 c6) KA906.out
  have xB := bsets HBW.out HL906.out (#[.slice A6 n6 c6] : Array Value).toList 0
  have xK0 := (show Blk (World.setCells (wc6) ((w.heap.size + 1 + 1)) 0 (#[.slice A6 n6 c6] : Array Value).toList) (w.heap.size) 43 _ from K0.out.farCells (by show _ ≠ _; omega) _ _)
  have xK1 := (show Blk (World.setCells (wc6) ((w.heap.size + 1 + 1)) 0 (#[.slice A6 n6 c6] : Array Value).toList) (w.heap.size + 1) 43 _ from K1.out.farCells (by show _ ≠ _; omega) _ _)
  have xHR2 := (show RegP (World.setCells (wc6) ((w.heap.size + 1 + 1)) 0 (#[.slice A6 n6 c6] : Array Value).toList) _ _ from HR2.out.sets1 KA906.out)
  have xHR5 := (show RegP (World.setCells (wc6) ((w.heap.size + 1 + 1)) 0 (#[.slice A6 n6 c6] : Array Value).toList) _ _ from HR5.out.sets1 KA906.out)
  have xHR6 := (show RegP (World.setCells (wc6) ((w.heap.size + 1 + 1)) 0 (#[.slice A6 n6 c6] : Array Value).toList) _ _ from HR6.out.sets1 KA906.out)
  obtain ⟨wS7, hwS⟩ : ∃ wS, World.setCells wc6 ((w.heap.size + 1 + 1)) 0 (#[.slice A6 n6 c6] : Array Value).toList = wS := ⟨_, rfl⟩
  rw [hwS] at xK xB xK0 xK1 xHR2 xHR5 xHR6 ⊢
  replace HBW := Lib.hid xB
  replace KA906 := Lib.hid xK
  replace K0 := Lib.hid xK0
  replace K1 := Lib.hid xK1
  replace HR2 := Lib.hid xHR2
  replace HR5 := Lib.hid xHR5
  replace HR6 := Lib.hid xHR6
  clear hwS xK xB xK0 xK1 xHR2 xHR5 xHR6
  refine hK.out _ _ ?_ (fun hHeld => ?_)
  · (try dsimp only)
    exact ⟨K0.out.cellV (i := 0) rfl, K0.out.cellV (i := 1) rfl, K1.out.cellV (i := 0) rfl, K1.out.cellV (i := 1) rfl⟩
  clear hK K
  refine wpAnyH_done (by kernel_rfl) ?_ _
  refine NoPanic.normal ?_
  have r0 := KA906.out.cellV (i := 0) (v := .slice A6 n6 c6) rfl
  repeat (first | go_values | go_skip | go_guarded | go_step | go_upon)
  refine bodyPost_ret (v := .agg #[.slice A6 n6 c6]) (by simp [results, Tryz.results51, go_sem, r0]) rfl ⟨_, rfl, HR6.out, HBW.out⟩
end
end Go.Proofs.YtbkkecijcijhdaaGreat
end
