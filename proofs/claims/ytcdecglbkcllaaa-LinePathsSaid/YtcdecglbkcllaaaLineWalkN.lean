/-
  The walk of line.cut: those of a line's places that a rectangle has, behind others.
-/
import Derived.Test.YtcdecglbkcllaaaLineWalkM
namespace Go.Proofs.Ytcdecglbkcllaaa.Ln
open Go.RowKit Go.Shelf
attribute [local go_sem] Oper.semAt_some
attribute [local go_sem] wide_fn

/-- of places those that a rectangle has. -/
def inR (X Y W H : Int) (l : List PtR) : List PtR := l.filter fun p => inB X Y W H p.1.1 p.1.2
/-- where cut begins; where it ends. -/
def cutLo (ax ay bx by' X Y W H first : Int) : Int := max (max (partLo ax ay bx by' X Y W H) 0) first
def cutHi (ax ay bx by' X Y W H : Int) : Int := min (partHi ax ay bx by' X Y W H) (stpI ax ay bx by')
def cutL (ax ay bx by' X Y W H first : Int) : List PtR :=
  if cntB X Y W H then inR X Y W H (ptsR ax ay bx by' (cutLo ax ay bx by' X Y W H first) (cutHi ax ay bx by' X Y W H - cutLo ax ay bx by' X Y W H first + 1).toNat) else []
theorem inR_snoc (X Y W H : Int) (l : List PtR) (p : PtR) : inR X Y W H (l ++ [p]) = inR X Y W H l ++ (if inB X Y W H p.1.1 p.1.2 then [p] else []) := by
  unfold inR
  rw [List.filter_append]
  cases h : inB X Y W H p.1.1 p.1.2 <;> simp [h]

theorem partLo_bd {ax ay bx by' X Y W H : Int} (h1 : rightB ax ay = true) (h2 : rightB bx by' = true) (hc : cntB X Y W H = true) : -8388608 ≤ partLo ax ay bx by' X Y W H ∧ partLo ax ay bx by' X Y W H ≤ 8388608 ∧ -8388608 ≤ partHi ax ay bx by' X Y W H ∧ partHi ax ay bx by' X Y W H ≤ 8388608 := by
  have a := right_bd h1
  have b := right_bd h2
  have c := (cnt_iff _ _ _ _).1 hc
  unfold partLo partHi pLo pHi
  repeat' split
  all_goals omega

theorem grown_step {w X Y : World} {r0 row : Option Nat} (h : w.grownBy X r0) (hg : X.grownBy Y row) (hr : ∀ g, row = some g → w.heap.size ≤ g) : w.grownBy Y r0 :=
  ⟨hg.os.trans h.os, hg.tape.trans h.tape, hg.output.trans h.output, Nat.le_trans h.size hg.size, fun i hi hn => (hg.block i (Nat.lt_of_lt_of_le hi h.size) (fun e => by have := hr i e.symm; omega)).trans (h.block i hi hn)⟩
theorem grown_al {w X : World} {r0 : Option Nat} (h : w.grownBy X r0) (o : Obj) : w.grownBy (X.alloc o) r0 :=
  ⟨h.os, h.tape, h.output, Nat.le_trans h.size (by simp), fun i hi hn => (Below.heap_alloc X o i (Nat.lt_of_lt_of_le hi h.size)).trans (h.block i hi hn)⟩
theorem grown_step2 {w X Y : World} {r0 row : Option Nat} (h : w.grownBy X r0) (hg : X.grownBy Y row) (hr : row = r0 ∨ ∀ g, row = some g → w.heap.size ≤ g) : w.grownBy Y r0 := by
  rcases hr with rfl | hr
  · exact ⟨hg.os.trans h.os, hg.tape.trans h.tape, hg.output.trans h.output, Nat.le_trans h.size hg.size, fun i hi hn => (hg.block i (Nat.lt_of_lt_of_le hi h.size) hn).trans (h.block i hi hn)⟩
  · exact grown_step h hg hr
theorem grown_put {w X : World} {r0 : Option Nat} {D : Nat} {o o' : Obj} (h : w.grownBy X r0) (_ : X.heap[D]? = some o) (hD : w.heap.size ≤ D) : w.grownBy (X.putObj D o') r0 :=
  ⟨h.os, h.tape, h.output, by simpa using h.size, fun i hi hn => (World.putObj_heap_other (by omega)).trans (h.block i hi hn)⟩
theorem Blk.far {w : World} {g : Nat} {t : TypeId} {cs : Array Value} (h : Blk w g t cs) {p : Addr} (hp : g ≠ p.block) (u : Value) : Blk (w.setCell p u) g t cs := (Below.heap_setCell w p u g hp).trans h
theorem Blk.grown {w w' : World} {g : Nat} {t : TypeId} {cs : Array Value} {row : Option Nat} (h : Blk w g t cs) (hb : w.grownBy w' row) (hg : some g ≠ row) : Blk w' g t cs := (hb.block g h.lt hg).trans h
theorem Blk.alloc {w : World} {g : Nat} {t : TypeId} {cs : Array Value} (h : Blk w g t cs) (o : Obj) : Blk (w.alloc o) g t cs := (Below.heap_alloc w o g h.lt).trans h
theorem Blk.belowS {w w' : World} {g : Nat} {t : TypeId} {cs : Array Value} (h : Blk w g t cs) (hb : Below w.heap.size w w') : Blk w' g t cs := (hb.block g h.lt).trans h

theorem cut_no (v0 : Value) (A : Option Addr) (n c : Nat) (hv : v0 = .slice A n c) (ax ay bx by' X Y W H first : Int) (w : World) (hc : cntB X Y W H = false) :
    Calls Try.prog 40 #[v0, .agg #[.int .i64 ax, .int .i64 ay], .agg #[.int .i64 bx, .int .i64 by'], .agg #[.int .i64 X, .int .i64 Y, .int .i64 W, .int .i64 H], .int .i64 first] w fun e w' => e = .returned v0 ∧ Below w.heap.size w w' := by
  subst hv
  go_enter Try.func40, Try.ntmps40
  go_wp2_with (go_at_call 56; refine (counts_any _ _ _ _ _).mono ?_; rintro e w' ⟨rfl, rfl⟩)
  go_ret
  exact ⟨rfl, bal (bal (bal (bal (bal (bre w) _) _) _) _) _⟩

set_option maxRecDepth 100000 in
set_option maxHeartbeats 4000000 in
theorem cut_yesA (B n c : Nat) (A : Option Addr) (l0 : List PtR) (ax ay bx by' X Y W H first : Int) (w : World) (h1 : rightB ax ay = true) (h2 : rightB bx by' = true) (hc : cntB X Y W H = true) (hf : 0 ≤ first ∧ first ≤ 1)
    (hown : w.ownsRow B 23 2 (.slice A n c) n (pcs l0)) (hn : n = l0.length) (hB : B ≤ w.heap.size) (hl : l0.length ≤ 1000000000) (hmx : first ≤ max (partLo ax ay bx by' X Y W H) 0) :
    Calls Try.prog 40 #[.slice A n c, .agg #[.int .i64 ax, .int .i64 ay], .agg #[.int .i64 bx, .int .i64 by'], .agg #[.int .i64 X, .int .i64 Y, .int .i64 W, .int .i64 H], .int .i64 first] w fun e w' => ∃ v', e = .returned v' ∧ w'.ownsRow B 23 2 v' (l0 ++ cutL ax ay bx by' X Y W H first).length (pcs (l0 ++ cutL ax ay bx by' X Y W H first)) ∧ w.grownBy w' (Value.slice A n c).ownBlock ∧ (v'.ownBlock = (Value.slice A n c).ownBlock ∨ ∀ g, v'.ownBlock = some g → w.heap.size ≤ g) := by
  have hs := stpI_bd h1 h2
  have hpb := partLo_bd h1 h2 hc
  have hcb := (cnt_iff _ _ _ _).1 hc
  have H1 := Lib.hid h1
  have H2 := Lib.hid h2
  have HC := Lib.hid hc
  have HN := Lib.hid hn
  have HO := Lib.hid hown
  clear hn hown
  obtain ⟨i0, hi, hz0, hz1, hz2⟩ := info_parts Try.infoPt
  refine (callsIn_wide (n := 5)).1 ?_
  refine callsIn_of_wp_marks Try.func40 rfl trivial ?_ rfl
  simp only [Try.ntmps40, List.size_toArray, List.length_cons, List.length_nil, Nat.reduceAdd, Nat.reduceSub, Array.replicate_succ, Array.replicate_zero, List.push_toArray, List.append_toArray, List.nil_append, List.cons_append]
  gi_wp2_with (first
    | (gi_at_call 56; refine (callsIn_wide.2 (counts_any _ _ _ _ _)).mono ?_; rintro e w' ⟨rfl, rfl⟩)
    | (gi_at_call 34; refine (callsIn_wide.2 (track_any _ _ _ _ _ H1.out H2.out)).mono ?_; rintro e w1 ⟨f, rfl, hA, hb⟩; obtain ⟨fk, caps, rfl⟩ := hA.form; clear hA; obtain ⟨hcc, hfz⟩ := bcell hb; have hz := hb.size; simp at hz))
  refine (callsIn_wide.2 (part_any ax ay bx by' (stpI ax ay bx by') X Y W H w1 H1.out H2.out (by omega) (by omega) (by omega) (by omega))).mono ?_
  rintro e w2 ⟨rfl, hb2⟩
  obtain ⟨f0, hf0⟩ : ∃ f0, max (partLo ax ay bx by' X Y W H) 0 = f0 := ⟨_, rfl⟩
  obtain ⟨t0, ht0⟩ : ∃ t0, min (partHi ax ay bx by' X Y W H) (stpI ax ay bx by') = t0 := ⟨_, rfl⟩
  rw [hf0, ht0]
  rw [hf0] at hmx
  have hft : 0 ≤ f0 ∧ f0 ≤ 8388608 ∧ -8388608 ≤ t0 ∧ t0 ≤ stpI ax ay bx by' := by omega
  have HF0 := Lib.hid hf0
  have HT0 := Lib.hid ht0
  have hb12 : Below w1.heap.size w1 w2 := hb2
  obtain ⟨hc2, hfz2⟩ := bcell hb2
  have hs2 := hb2.size
  have z0 : w.heap.size < w1.heap.size := by omega
  have z1 : w.heap.size + 1 < w1.heap.size := by omega
  have z2 : w.heap.size + 1 + 1 < w1.heap.size := by omega
  have z3 : w.heap.size + 1 + 1 + 1 < w1.heap.size := by omega
  clear hf0 ht0 hb2
  gi_wp2_with fail
  refine (callsIn_wide.2 (walk_any _ _ _ _ _ _ _ H1.out H2.out)).mono ?_
  rintro e w3 ⟨g, rfl, hG, hb3⟩
  obtain ⟨bf, bt, ba, f, rfl, hrg, cf, ct, ca, hA⟩ := hG
  gi_wp2_with fail
  -- what lies where
  have hb01 : Below w.heap.size w w1 := bstep (bal (bal (bal (bal (bal (bre w) _) _) _) _) _) hb
  have hb23 : Below w1.heap.size w1 w3 := hb12.trans (hb3.mono hb12.size)
  have hB0 : Below w.heap.size w w3 := bstep hb01 hb23
  have hs3 := hb3.size
  have q0 : Blk ((((((w.alloc (.cells #[.slice A n c] 25)).alloc (.cells #[.int .i64 ax, .int .i64 ay] 23)).alloc (.cells #[.int .i64 bx, .int .i64 by'] 23)).alloc (.cells #[.int .i64 X, .int .i64 Y, .int .i64 W, .int .i64 H] 45)).alloc (.cells #[.int .i64 X, .int .i64 Y, .int .i64 W, .int .i64 H] 45))) w.heap.size 25 #[.slice A n c] := ((((Blk.new w _ _).alloc _).alloc _).alloc _).alloc _
  have q3 : Blk ((((((w.alloc (.cells #[.slice A n c] 25)).alloc (.cells #[.int .i64 ax, .int .i64 ay] 23)).alloc (.cells #[.int .i64 bx, .int .i64 by'] 23)).alloc (.cells #[.int .i64 X, .int .i64 Y, .int .i64 W, .int .i64 H] 45)).alloc (.cells #[.int .i64 X, .int .i64 Y, .int .i64 W, .int .i64 H] 45))) (w.heap.size + 1 + 1 + 1) 45 #[.int .i64 X, .int .i64 Y, .int .i64 W, .int .i64 H] := by
    have h := Blk.new (((w.alloc (.cells #[.slice A n c] 25)).alloc (.cells #[.int .i64 ax, .int .i64 ay] 23)).alloc (.cells #[.int .i64 bx, .int .i64 by'] 23)) 45 #[.int .i64 X, .int .i64 Y, .int .i64 W, .int .i64 H]
    simp only [World.size_alloc] at h
    exact h.alloc _
  have bO : Boxed w3 w.heap.size 25 (.slice A n c) := (q0.belowS hb).belowS hb23
  have bR : Blk w3 (w.heap.size + 1 + 1 + 1) 45 #[.int .i64 X, .int .i64 Y, .int .i64 W, .int .i64 H] := (q3.belowS hb).belowS hb23
  have hown3 : w3.ownsRow B 23 2 (.slice A n c) n (pcs l0) := ownsRow_below HO.out hB0
  have hlt0 : ∀ g, (Value.slice A n c).ownBlock = some g → g < w.heap.size := fun g e => (HO.out.lt g e).2
  have hwk := walk1_stops 4 (by omega) w2.heap.size w3.heap.size ax ay bx by' f0 t0 H1.out H2.out (by omega) (by omega) (by unfold stpI at hft; omega) (by omega) bf bt ba f w3 (Nat.le_refl _) hrg cf ct ca hA
  obtain ⟨N, hN⟩ : ∃ N, (t0 - f0 + 1).toNat = N := ⟨_, rfl⟩
  have hNl : N ≤ 2097153 := by omega
  rw [hN] at hwk
  have HWK := Lib.hid hwk
  have HNN := Lib.hid hN
  have BO := Lib.hid bO
  have BR := Lib.hid bR
  have HO3 := Lib.hid hown3
  have HLT := Lib.hid hlt0
  have HB0 := Lib.hid hB0
  clear hwk hN bO bR hown3 hlt0 hc2 hfz2 hcc hfz q0 q3 hA cf ct ca
  refine wpIn_rangeFunc_ownH rfl (by omega) (gf := 55) (lb := #[.pointer (some ⟨bf, 0, none⟩), .pointer (some ⟨bt, 0, none⟩), .pointer (some ⟨ba, 0, none⟩)]) rfl trivial (enters_of Try.func55 (by kernel_rfl) rfl)
    HWK.out Keep.trans (Keep.putObj (Nat.le_refl _)) (Below.refl _ _) (fun _ => rfl)
    (fun pre W' => (∃ v, Boxed W' w.heap.size 25 v ∧ W'.ownsRow B 23 2 v (l0 ++ inR X Y W H pre).length (pcs (l0 ++ inR X Y W H pre)) ∧ ((∀ g, v.ownBlock = some g → g < w.heap.size ∨ w3.heap.size ≤ g) ∧ (v.ownBlock = (Value.slice A n c).ownBlock ∨ ∀ g, v.ownBlock = some g → w.heap.size ≤ g))) ∧ w.grownBy W' (Value.slice A n c).ownBlock ∧ w3.heap.size ≤ W'.heap.size ∧ Blk W' (w.heap.size + 1 + 1 + 1) 45 #[.int .i64 X, .int .i64 Y, .int .i64 W, .int .i64 H])
    (fun _ _ _ => False)
    (OwnFrom.and (Own.from (holdsRow_own B w.heap.size 25 23 2 (fun pre : List PtR => (l0 ++ inR X Y W H pre).length) (fun pre => pcs (l0 ++ inR X Y W H pre)) (fun _ v => (∀ g, v.ownBlock = some g → g < w.heap.size ∨ w3.heap.size ≤ g) ∧ (v.ownBlock = (Value.slice A n c).ownBlock ∨ ∀ g, v.ownBlock = some g → w.heap.size ≤ g))) _) (OwnFrom.and (fun _ X' Y' row hs hg hr => grown_step hs hg (fun g e => Nat.le_trans HB0.out.size (hr g e).1)) (OwnFrom.and (fun _ _ _ _ hs hg _ => Nat.le_trans hs hg.size) (blk_own _ _ _ (fun (_ : List PtR) => #[.int .i64 X, .int .i64 Y, .int .i64 W, .int .i64 H])))))
    (fun _ _ _ _ _ hs _ _ => hs)
    ⟨⟨_, BO.out, by simpa [inR, ← HN.out] using HO3.out, fun g hg => .inl (HLT.out g hg), .inl rfl⟩, grown_of_below HB0.out _, Nat.le_refl _, BR.out⟩
    (fun x a' W' => ∃ Bx, w3.heap.size ≤ Bx ∧ Blk W' Bx 23 #[.int .i64 x.1.1, .int .i64 x.1.2] ∧ a' = { tmps := #[.slice A n c, .agg #[.int .i64 ax, .int .i64 ay], .agg #[.int .i64 bx, .int .i64 by'], .agg #[.int .i64 X, .int .i64 Y, .int .i64 W, .int .i64 H], .int .i64 first, .pointer (some ⟨w.heap.size, 0, none⟩), .pointer (some ⟨w.heap.size + 1, 0, none⟩), .pointer (some ⟨w.heap.size + 1 + 1, 0, none⟩), .pointer (some ⟨w.heap.size + 1 + 1 + 1, 0, none⟩), undef, .slice none 0 0, .int .i64 (stpI ax ay bx by'), .func (.func fk) #[] caps, .int .i64 f0, .int .i64 t0, .pointer (some ⟨Bx, 0, none⟩), .agg #[.int .i64 X, .int .i64 Y, .int .i64 W, .int .i64 H], .bool true, .bool false, undef, .tuple #[.int .i64 (stpI ax ay bx by'), .func (.func fk) #[] caps], .agg #[.int .i64 ax, .int .i64 ay], .agg #[.int .i64 bx, .int .i64 by'], .tuple #[.int .i64 (stpI ax ay bx by'), .func (.func fk) #[] caps], .int .i64 (stpI ax ay bx by'), .func (.func fk) #[] caps, .tuple #[.int .i64 f0, .int .i64 t0], .agg #[.int .i64 ax, .int .i64 ay], .agg #[.int .i64 bx, .int .i64 by'], .int .i64 (stpI ax ay bx by'), .agg #[.int .i64 X, .int .i64 Y, .int .i64 W, .int .i64 H], .tuple #[.int .i64 f0, .int .i64 t0], .int .i64 f0, .int .i64 t0, .agg #[.int .i64 ax, .int .i64 ay], .agg #[.int .i64 bx, .int .i64 by'], .int .i64 f0, .int .i64 first, .int .i64 f0, .int .i64 t0, .func (.func 55) #[] #[.pointer (some ⟨bf, 0, none⟩), .pointer (some ⟨bt, 0, none⟩), .pointer (some ⟨ba, 0, none⟩)], .agg #[.int .i64 x.1.1, .int .i64 x.1.2], undef, undef, undef, undef, undef, undef, undef, undef, undef, undef, undef, undef, undef, undef, undef, undef, undef, undef, undef, undef, undef, undef, undef, undef, undef, undef, undef, undef, undef, undef, undef, undef, undef, undef, undef, undef, undef], defers := [] })
    (fun x a' _ X' Y' row hs hg hr => by obtain ⟨Bx, h1, h2, h3⟩ := hs; exact ⟨Bx, h1, blk_own w3.heap.size Bx 23 (fun (_ : Unit) => #[Value.int .i64 x.1.1, .int .i64 x.1.2]) () X' Y' row h2 hg hr, h3⟩)
    ?assign ?body ?done ?stop
  case assign =>
    rintro l pre x W' K ⟨⟨v, bv, hown, hat⟩, hg, hsW, hbr⟩ hK
    gi_wp2_with fail
    exact hK _ _ ((KeepsOthers.alloc _ _).from _) ((Keep.refl _ _ W').alloc hsW _) ⟨⟨v, bv.alloc _, hown.alloc _, hat⟩, grown_al hg _, by simp; omega, hbr.alloc _⟩ ⟨W'.heap.size, hsW, Blk.new W' _ _, rfl⟩
  case body =>
    rintro l pre x a' W' hl' _ ⟨⟨v, bv, hown, hat, hat2⟩, hg, hsW, hbr⟩ ⟨Bx, hBx, hX, rfl⟩ hlt
    have cv := bv.cell
    have cx0 : W'.cell? ⟨Bx, 0, none⟩ = some (.int .i64 x.1.1) := (hX.cell 0).trans rfl
    have cx1 : W'.cell? ⟨Bx, 1, none⟩ = some (.int .i64 x.1.2) := (hX.cell 1).trans rfl
    have r0 : W'.cell? ⟨w.heap.size + 1 + 1 + 1, 0, none⟩ = some (.int .i64 X) := (hbr.cell 0).trans rfl
    have r1 : W'.cell? ⟨w.heap.size + 1 + 1 + 1, 1, none⟩ = some (.int .i64 Y) := (hbr.cell 1).trans rfl
    have r2 : W'.cell? ⟨w.heap.size + 1 + 1 + 1, 2, none⟩ = some (.int .i64 W) := (hbr.cell 2).trans rfl
    have r3 : W'.cell? ⟨w.heap.size + 1 + 1 + 1, 3, none⟩ = some (.int .i64 H) := (hbr.cell 3).trans rfl
    have hgs := hg.size
    have hlen : (l0 ++ inR X Y W H pre).length ≤ 1000000000 + 2097153 := by
      have := List.length_filter_le (fun p : PtR => inB X Y W H p.1.1 p.1.2) pre
      simp only [List.length_append, inR]
      omega
    have Hat := Lib.hid hat
    have Hat2 := Lib.hid hat2
    have Hown := Lib.hid hown
    have HG := Lib.hid hg
    have HBR := Lib.hid hbr
    clear hat hat2 hown hg hbr
    have t : decide (X ≤ x.1.1) = false ∨ (decide (X ≤ x.1.1) = true ∧ (decide (x.1.1 < X + W) = false ∨ (decide (x.1.1 < X + W) = true ∧ (decide (Y ≤ x.1.2) = false ∨ (decide (Y ≤ x.1.2) = true ∧ (decide (x.1.2 < Y + H) = false ∨ decide (x.1.2 < Y + H) = true)))))) := by
      simp only [decide_eq_true_eq, decide_eq_false_iff_not]; omega
    rcases t with t1 | ⟨t1, t2 | ⟨t2, t3 | ⟨t3, t4 | t4⟩⟩⟩
    case inr.inr.inr.inr =>
      have hin : inB X Y W H x.1.1 x.1.2 = true := by
        simp only [decide_eq_true_eq] at t1 t2 t3 t4
        simp [inB]; omega
      have hsn : inR X Y W H (pre ++ [x]) = inR X Y W H pre ++ [x] := by rw [inR_snoc, if_pos hin]
      have HSN := Lib.hid hsn
      clear hin hsn
      obtain ⟨K, hK⟩ : ∃ K, (l0 ++ inR X Y W H pre).length = K := ⟨_, rfl⟩
      have HK := Lib.hid hK
      rw [hK] at Hown hlen
      clear hK
      gi_wp2_with (gi_at_builtin; refine wpListIn_append_own_at _ rfl _ _ 25 rfl B 23 i0 _ 2 16 Try.underlying25 hi hz0 hz1 hz2 rfl (by decide) _ _ _ rfl (Hown.out.alloc _) ⟨W'.heap.size, 0, none⟩ 1 1 [.int .i64 x.1.1, .int .i64 x.1.2] rfl rfl (two_new _ _ _ _) (by simp [Value.oneCell']) (by simp only [maxLen]; omega) (by omega) (by simp; omega) ?_; intro v' w4 hown' hgrow _ hat'; obtain ⟨g', cap', rfl⟩ := ownsRow_succ hown'; obtain ⟨hv1, hv2, hr2, hk2, hb2⟩ := bv.appended (by decide) Hown.out (by omega) hB hown' hgrow; have hc1 := hv1.cell; have hf1 := hv1.frozen)
      have hkp : Keep w2.heap.size w3.heap.size W' (w4.setCell ⟨w.heap.size, 0, none⟩ (.slice (some ⟨g', 0, none⟩) (K + 1) cap')) :=
        (((Keep.refl _ _ W').alloc hsW _).grown hgrow (by simp; omega) (fun g hg => by have := Hat.out g hg; omega)).setCell (p := ⟨w.heap.size, 0, none⟩) (.inl (by dsimp only; omega)) _
      have hgg : w.grownBy (w4.setCell ⟨w.heap.size, 0, none⟩ (.slice (some ⟨g', 0, none⟩) (K + 1) cap')) (Value.slice A n c).ownBlock :=
        grown_step (grown_step2 (grown_al HG.out _) hgrow Hat2.out) (grownBy_setCell' w4 w.heap.size _) (fun g e => by cases e; exact Nat.le_refl _)
      have hbr2 : Blk (w4.setCell ⟨w.heap.size, 0, none⟩ (.slice (some ⟨g', 0, none⟩) (K + 1) cap')) (w.heap.size + 1 + 1 + 1) 45 #[.int .i64 X, .int .i64 Y, .int .i64 W, .int .i64 H] :=
        ((HBR.out.alloc _).grown hgrow (fun e => by have := Hat.out _ e.symm; omega)).far (p := ⟨w.heap.size, 0, none⟩) (by dsimp only; omega) _
      refine ⟨hk2.from _, hkp, ⟨_, hv2, by rw [HSN.out, ← List.append_assoc, pcs_snoc, List.length_append, HK.out]; exact hr2, fun g hg => ?_, ?_⟩, hgg, Nat.le_trans hsW hkp.size, hbr2⟩
      · rcases hat' with e | e
        · exact Hat.out g (e ▸ hg)
        · rw [e] at hg
          simp at hg
          omega
      · rcases hat' with e | e
        · rcases Hat2.out with e2 | e2
          · exact .inl (e.trans e2)
          · exact .inr (fun g hg => e2 g (e ▸ hg))
        · refine .inr (fun g hg => ?_)
          rw [e] at hg
          simp at hg
          omega
    all_goals
      have hin : inB X Y W H x.1.1 x.1.2 = false := by
        simp only [decide_eq_true_eq, decide_eq_false_iff_not] at *
        simp [inB]; omega
      have hsn : inR X Y W H (pre ++ [x]) = inR X Y W H pre := by rw [inR_snoc, hin]; simp
      have HSN := Lib.hid hsn
      clear hin hsn
      gi_wp2_with fail
      exact ⟨(KeepsOthers.refl _).from _, Keep.refl _ _ _, ⟨v, bv, by rw [HSN.out]; exact Hown.out, Hat.out, Hat2.out⟩, HG.out, hsW, HBR.out⟩
  case done =>
    rintro D ys W' hD hS ⟨⟨v, bv, hown, hat, hat2⟩, hg, hsW, hbr⟩ hK
    subst hS
    have hcl : inR X Y W H (ptsR ax ay bx by' f0 N) = cutL ax ay bx by' X Y W H first := by
      unfold cutL
      rw [if_pos HC.out]
      have e1 : cutLo ax ay bx by' X Y W H first = f0 := by unfold cutLo; rw [HF0.out]; omega
      have e2 : cutHi ax ay bx by' X Y W H = t0 := HT0.out
      rw [e1, e2, HNN.out]
    rw [hcl] at hown
    obtain ⟨A', cap', rfl⟩ : ∃ A' cap', v = .slice A' (l0 ++ cutL ax ay bx by' X Y W H first).length cap' := by
      rcases hown.2 with ⟨rfl, h0⟩ | ⟨g, cap, cur, rfl, _⟩
      · exact ⟨none, 0, by rw [h0]⟩
      · exact ⟨_, _, rfl⟩
    obtain ⟨KL, hKL⟩ : ∃ KL, (l0 ++ cutL ax ay bx by' X Y W H first).length = KL := ⟨_, rfl⟩
    rw [hKL] at bv hown hat2
    have cv := bv.cell
    have HKL := Lib.hid hKL
    have HC2 := Lib.hid hcl
    clear hcl hKL
    gi_wp2_with fail
    refine ⟨by simp, .inl ⟨_, _, rfl, run_takeDeferred hK, ?_⟩⟩
    exact ⟨_, results_tmp rfl _ _ _, .slice A' KL cap', rfl, by rw [HKL.out]; exact ownsRow_putObj hown _ hK rfl, grown_put hg hK (by omega), hat2⟩
  case stop =>
    rintro D c' pre W' _ _ h _
    exact h.elim

set_option maxRecDepth 100000 in
set_option maxHeartbeats 4000000 in
theorem cut_yesB (B n c : Nat) (A : Option Addr) (l0 : List PtR) (ax ay bx by' X Y W H first : Int) (w : World) (h1 : rightB ax ay = true) (h2 : rightB bx by' = true) (hc : cntB X Y W H = true) (hf : 0 ≤ first ∧ first ≤ 1)
    (hown : w.ownsRow B 23 2 (.slice A n c) n (pcs l0)) (hn : n = l0.length) (hB : B ≤ w.heap.size) (hl : l0.length ≤ 1000000000) (hmx : max (partLo ax ay bx by' X Y W H) 0 < first) :
    Calls Try.prog 40 #[.slice A n c, .agg #[.int .i64 ax, .int .i64 ay], .agg #[.int .i64 bx, .int .i64 by'], .agg #[.int .i64 X, .int .i64 Y, .int .i64 W, .int .i64 H], .int .i64 first] w fun e w' => ∃ v', e = .returned v' ∧ w'.ownsRow B 23 2 v' (l0 ++ cutL ax ay bx by' X Y W H first).length (pcs (l0 ++ cutL ax ay bx by' X Y W H first)) ∧ w.grownBy w' (Value.slice A n c).ownBlock ∧ (v'.ownBlock = (Value.slice A n c).ownBlock ∨ ∀ g, v'.ownBlock = some g → w.heap.size ≤ g) := by
  have hs := stpI_bd h1 h2
  have hpb := partLo_bd h1 h2 hc
  have hcb := (cnt_iff _ _ _ _).1 hc
  have H1 := Lib.hid h1
  have H2 := Lib.hid h2
  have HC := Lib.hid hc
  have HN := Lib.hid hn
  have HO := Lib.hid hown
  clear hn hown
  obtain ⟨i0, hi, hz0, hz1, hz2⟩ := info_parts Try.infoPt
  refine (callsIn_wide (n := 5)).1 ?_
  refine callsIn_of_wp_marks Try.func40 rfl trivial ?_ rfl
  simp only [Try.ntmps40, List.size_toArray, List.length_cons, List.length_nil, Nat.reduceAdd, Nat.reduceSub, Array.replicate_succ, Array.replicate_zero, List.push_toArray, List.append_toArray, List.nil_append, List.cons_append]
  gi_wp2_with (first
    | (gi_at_call 56; refine (callsIn_wide.2 (counts_any _ _ _ _ _)).mono ?_; rintro e w' ⟨rfl, rfl⟩)
    | (gi_at_call 34; refine (callsIn_wide.2 (track_any _ _ _ _ _ H1.out H2.out)).mono ?_; rintro e w1 ⟨f, rfl, hA, hb⟩; obtain ⟨fk, caps, rfl⟩ := hA.form; clear hA; obtain ⟨hcc, hfz⟩ := bcell hb; have hz := hb.size; simp at hz))
  refine (callsIn_wide.2 (part_any ax ay bx by' (stpI ax ay bx by') X Y W H w1 H1.out H2.out (by omega) (by omega) (by omega) (by omega))).mono ?_
  rintro e w2 ⟨rfl, hb2⟩
  obtain ⟨f0, hf0⟩ : ∃ f0, max (partLo ax ay bx by' X Y W H) 0 = f0 := ⟨_, rfl⟩
  obtain ⟨t0, ht0⟩ : ∃ t0, min (partHi ax ay bx by' X Y W H) (stpI ax ay bx by') = t0 := ⟨_, rfl⟩
  rw [hf0, ht0]
  rw [hf0] at hmx
  have hft : 0 ≤ f0 ∧ f0 ≤ 8388608 ∧ -8388608 ≤ t0 ∧ t0 ≤ stpI ax ay bx by' := by omega
  have HF0 := Lib.hid hf0
  have HT0 := Lib.hid ht0
  have hb12 : Below w1.heap.size w1 w2 := hb2
  obtain ⟨hc2, hfz2⟩ := bcell hb2
  have hs2 := hb2.size
  have z0 : w.heap.size < w1.heap.size := by omega
  have z1 : w.heap.size + 1 < w1.heap.size := by omega
  have z2 : w.heap.size + 1 + 1 < w1.heap.size := by omega
  have z3 : w.heap.size + 1 + 1 + 1 < w1.heap.size := by omega
  clear hf0 ht0 hb2
  gi_wp2_with fail
  refine (callsIn_wide.2 (walk_any _ _ _ _ _ _ _ H1.out H2.out)).mono ?_
  rintro e w3 ⟨g, rfl, hG, hb3⟩
  obtain ⟨bf, bt, ba, f, rfl, hrg, cf, ct, ca, hA⟩ := hG
  gi_wp2_with fail
  -- what lies where
  have hb01 : Below w.heap.size w w1 := bstep (bal (bal (bal (bal (bal (bre w) _) _) _) _) _) hb
  have hb23 : Below w1.heap.size w1 w3 := hb12.trans (hb3.mono hb12.size)
  have hB0 : Below w.heap.size w w3 := bstep hb01 hb23
  have hs3 := hb3.size
  have q0 : Blk ((((((w.alloc (.cells #[.slice A n c] 25)).alloc (.cells #[.int .i64 ax, .int .i64 ay] 23)).alloc (.cells #[.int .i64 bx, .int .i64 by'] 23)).alloc (.cells #[.int .i64 X, .int .i64 Y, .int .i64 W, .int .i64 H] 45)).alloc (.cells #[.int .i64 X, .int .i64 Y, .int .i64 W, .int .i64 H] 45))) w.heap.size 25 #[.slice A n c] := ((((Blk.new w _ _).alloc _).alloc _).alloc _).alloc _
  have q3 : Blk ((((((w.alloc (.cells #[.slice A n c] 25)).alloc (.cells #[.int .i64 ax, .int .i64 ay] 23)).alloc (.cells #[.int .i64 bx, .int .i64 by'] 23)).alloc (.cells #[.int .i64 X, .int .i64 Y, .int .i64 W, .int .i64 H] 45)).alloc (.cells #[.int .i64 X, .int .i64 Y, .int .i64 W, .int .i64 H] 45))) (w.heap.size + 1 + 1 + 1) 45 #[.int .i64 X, .int .i64 Y, .int .i64 W, .int .i64 H] := by
    have h := Blk.new (((w.alloc (.cells #[.slice A n c] 25)).alloc (.cells #[.int .i64 ax, .int .i64 ay] 23)).alloc (.cells #[.int .i64 bx, .int .i64 by'] 23)) 45 #[.int .i64 X, .int .i64 Y, .int .i64 W, .int .i64 H]
    simp only [World.size_alloc] at h
    exact h.alloc _
  have bO : Boxed w3 w.heap.size 25 (.slice A n c) := (q0.belowS hb).belowS hb23
  have bR : Blk w3 (w.heap.size + 1 + 1 + 1) 45 #[.int .i64 X, .int .i64 Y, .int .i64 W, .int .i64 H] := (q3.belowS hb).belowS hb23
  have hown3 : w3.ownsRow B 23 2 (.slice A n c) n (pcs l0) := ownsRow_below HO.out hB0
  have hlt0 : ∀ g, (Value.slice A n c).ownBlock = some g → g < w.heap.size := fun g e => (HO.out.lt g e).2
  have hwk := walk1_stops 4 (by omega) w2.heap.size w3.heap.size ax ay bx by' first t0 H1.out H2.out (by omega) (by omega) (by unfold stpI at hft; omega) (by omega) bf bt ba f w3 (Nat.le_refl _) hrg cf ct ca hA
  obtain ⟨N, hN⟩ : ∃ N, (t0 - first + 1).toNat = N := ⟨_, rfl⟩
  have hNl : N ≤ 2097153 := by omega
  rw [hN] at hwk
  have HWK := Lib.hid hwk
  have HNN := Lib.hid hN
  have BO := Lib.hid bO
  have BR := Lib.hid bR
  have HO3 := Lib.hid hown3
  have HLT := Lib.hid hlt0
  have HB0 := Lib.hid hB0
  clear hwk hN bO bR hown3 hlt0 hc2 hfz2 hcc hfz q0 q3 hA cf ct ca
  refine wpIn_rangeFunc_ownH rfl (by omega) (gf := 55) (lb := #[.pointer (some ⟨bf, 0, none⟩), .pointer (some ⟨bt, 0, none⟩), .pointer (some ⟨ba, 0, none⟩)]) rfl trivial (enters_of Try.func55 (by kernel_rfl) rfl)
    HWK.out Keep.trans (Keep.putObj (Nat.le_refl _)) (Below.refl _ _) (fun _ => rfl)
    (fun pre W' => (∃ v, Boxed W' w.heap.size 25 v ∧ W'.ownsRow B 23 2 v (l0 ++ inR X Y W H pre).length (pcs (l0 ++ inR X Y W H pre)) ∧ ((∀ g, v.ownBlock = some g → g < w.heap.size ∨ w3.heap.size ≤ g) ∧ (v.ownBlock = (Value.slice A n c).ownBlock ∨ ∀ g, v.ownBlock = some g → w.heap.size ≤ g))) ∧ w.grownBy W' (Value.slice A n c).ownBlock ∧ w3.heap.size ≤ W'.heap.size ∧ Blk W' (w.heap.size + 1 + 1 + 1) 45 #[.int .i64 X, .int .i64 Y, .int .i64 W, .int .i64 H])
    (fun _ _ _ => False)
    (OwnFrom.and (Own.from (holdsRow_own B w.heap.size 25 23 2 (fun pre : List PtR => (l0 ++ inR X Y W H pre).length) (fun pre => pcs (l0 ++ inR X Y W H pre)) (fun _ v => (∀ g, v.ownBlock = some g → g < w.heap.size ∨ w3.heap.size ≤ g) ∧ (v.ownBlock = (Value.slice A n c).ownBlock ∨ ∀ g, v.ownBlock = some g → w.heap.size ≤ g))) _) (OwnFrom.and (fun _ X' Y' row hs hg hr => grown_step hs hg (fun g e => Nat.le_trans HB0.out.size (hr g e).1)) (OwnFrom.and (fun _ _ _ _ hs hg _ => Nat.le_trans hs hg.size) (blk_own _ _ _ (fun (_ : List PtR) => #[.int .i64 X, .int .i64 Y, .int .i64 W, .int .i64 H])))))
    (fun _ _ _ _ _ hs _ _ => hs)
    ⟨⟨_, BO.out, by simpa [inR, ← HN.out] using HO3.out, fun g hg => .inl (HLT.out g hg), .inl rfl⟩, grown_of_below HB0.out _, Nat.le_refl _, BR.out⟩
    (fun x a' W' => ∃ Bx, w3.heap.size ≤ Bx ∧ Blk W' Bx 23 #[.int .i64 x.1.1, .int .i64 x.1.2] ∧ a' = { tmps := #[.slice A n c, .agg #[.int .i64 ax, .int .i64 ay], .agg #[.int .i64 bx, .int .i64 by'], .agg #[.int .i64 X, .int .i64 Y, .int .i64 W, .int .i64 H], .int .i64 first, .pointer (some ⟨w.heap.size, 0, none⟩), .pointer (some ⟨w.heap.size + 1, 0, none⟩), .pointer (some ⟨w.heap.size + 1 + 1, 0, none⟩), .pointer (some ⟨w.heap.size + 1 + 1 + 1, 0, none⟩), undef, .slice none 0 0, .int .i64 (stpI ax ay bx by'), .func (.func fk) #[] caps, .int .i64 f0, .int .i64 t0, .pointer (some ⟨Bx, 0, none⟩), .agg #[.int .i64 X, .int .i64 Y, .int .i64 W, .int .i64 H], .bool true, .bool false, undef, .tuple #[.int .i64 (stpI ax ay bx by'), .func (.func fk) #[] caps], .agg #[.int .i64 ax, .int .i64 ay], .agg #[.int .i64 bx, .int .i64 by'], .tuple #[.int .i64 (stpI ax ay bx by'), .func (.func fk) #[] caps], .int .i64 (stpI ax ay bx by'), .func (.func fk) #[] caps, .tuple #[.int .i64 f0, .int .i64 t0], .agg #[.int .i64 ax, .int .i64 ay], .agg #[.int .i64 bx, .int .i64 by'], .int .i64 (stpI ax ay bx by'), .agg #[.int .i64 X, .int .i64 Y, .int .i64 W, .int .i64 H], .tuple #[.int .i64 f0, .int .i64 t0], .int .i64 f0, .int .i64 t0, .agg #[.int .i64 ax, .int .i64 ay], .agg #[.int .i64 bx, .int .i64 by'], .int .i64 f0, .int .i64 first, .int .i64 first, .int .i64 t0, .func (.func 55) #[] #[.pointer (some ⟨bf, 0, none⟩), .pointer (some ⟨bt, 0, none⟩), .pointer (some ⟨ba, 0, none⟩)], .agg #[.int .i64 x.1.1, .int .i64 x.1.2], undef, undef, undef, undef, undef, undef, undef, undef, undef, undef, undef, undef, undef, undef, undef, undef, undef, undef, undef, undef, undef, undef, undef, undef, undef, undef, undef, undef, undef, undef, undef, undef, undef, undef, undef, undef, undef], defers := [] })
    (fun x a' _ X' Y' row hs hg hr => by obtain ⟨Bx, h1, h2, h3⟩ := hs; exact ⟨Bx, h1, blk_own w3.heap.size Bx 23 (fun (_ : Unit) => #[Value.int .i64 x.1.1, .int .i64 x.1.2]) () X' Y' row h2 hg hr, h3⟩)
    ?assign ?body ?done ?stop
  case assign =>
    rintro l pre x W' K ⟨⟨v, bv, hown, hat⟩, hg, hsW, hbr⟩ hK
    gi_wp2_with fail
    exact hK _ _ ((KeepsOthers.alloc _ _).from _) ((Keep.refl _ _ W').alloc hsW _) ⟨⟨v, bv.alloc _, hown.alloc _, hat⟩, grown_al hg _, by simp; omega, hbr.alloc _⟩ ⟨W'.heap.size, hsW, Blk.new W' _ _, rfl⟩
  case body =>
    rintro l pre x a' W' hl' _ ⟨⟨v, bv, hown, hat, hat2⟩, hg, hsW, hbr⟩ ⟨Bx, hBx, hX, rfl⟩ hlt
    have cv := bv.cell
    have cx0 : W'.cell? ⟨Bx, 0, none⟩ = some (.int .i64 x.1.1) := (hX.cell 0).trans rfl
    have cx1 : W'.cell? ⟨Bx, 1, none⟩ = some (.int .i64 x.1.2) := (hX.cell 1).trans rfl
    have r0 : W'.cell? ⟨w.heap.size + 1 + 1 + 1, 0, none⟩ = some (.int .i64 X) := (hbr.cell 0).trans rfl
    have r1 : W'.cell? ⟨w.heap.size + 1 + 1 + 1, 1, none⟩ = some (.int .i64 Y) := (hbr.cell 1).trans rfl
    have r2 : W'.cell? ⟨w.heap.size + 1 + 1 + 1, 2, none⟩ = some (.int .i64 W) := (hbr.cell 2).trans rfl
    have r3 : W'.cell? ⟨w.heap.size + 1 + 1 + 1, 3, none⟩ = some (.int .i64 H) := (hbr.cell 3).trans rfl
    have hgs := hg.size
    have hlen : (l0 ++ inR X Y W H pre).length ≤ 1000000000 + 2097153 := by
      have := List.length_filter_le (fun p : PtR => inB X Y W H p.1.1 p.1.2) pre
      simp only [List.length_append, inR]
      omega
    have Hat := Lib.hid hat
    have Hat2 := Lib.hid hat2
    have Hown := Lib.hid hown
    have HG := Lib.hid hg
    have HBR := Lib.hid hbr
    clear hat hat2 hown hg hbr
    have t : decide (X ≤ x.1.1) = false ∨ (decide (X ≤ x.1.1) = true ∧ (decide (x.1.1 < X + W) = false ∨ (decide (x.1.1 < X + W) = true ∧ (decide (Y ≤ x.1.2) = false ∨ (decide (Y ≤ x.1.2) = true ∧ (decide (x.1.2 < Y + H) = false ∨ decide (x.1.2 < Y + H) = true)))))) := by
      simp only [decide_eq_true_eq, decide_eq_false_iff_not]; omega
    rcases t with t1 | ⟨t1, t2 | ⟨t2, t3 | ⟨t3, t4 | t4⟩⟩⟩
    case inr.inr.inr.inr =>
      have hin : inB X Y W H x.1.1 x.1.2 = true := by
        simp only [decide_eq_true_eq] at t1 t2 t3 t4
        simp [inB]; omega
      have hsn : inR X Y W H (pre ++ [x]) = inR X Y W H pre ++ [x] := by rw [inR_snoc, if_pos hin]
      have HSN := Lib.hid hsn
      clear hin hsn
      obtain ⟨K, hK⟩ : ∃ K, (l0 ++ inR X Y W H pre).length = K := ⟨_, rfl⟩
      have HK := Lib.hid hK
      rw [hK] at Hown hlen
      clear hK
      gi_wp2_with (gi_at_builtin; refine wpListIn_append_own_at _ rfl _ _ 25 rfl B 23 i0 _ 2 16 Try.underlying25 hi hz0 hz1 hz2 rfl (by decide) _ _ _ rfl (Hown.out.alloc _) ⟨W'.heap.size, 0, none⟩ 1 1 [.int .i64 x.1.1, .int .i64 x.1.2] rfl rfl (two_new _ _ _ _) (by simp [Value.oneCell']) (by simp only [maxLen]; omega) (by omega) (by simp; omega) ?_; intro v' w4 hown' hgrow _ hat'; obtain ⟨g', cap', rfl⟩ := ownsRow_succ hown'; obtain ⟨hv1, hv2, hr2, hk2, hb2⟩ := bv.appended (by decide) Hown.out (by omega) hB hown' hgrow; have hc1 := hv1.cell; have hf1 := hv1.frozen)
      have hkp : Keep w2.heap.size w3.heap.size W' (w4.setCell ⟨w.heap.size, 0, none⟩ (.slice (some ⟨g', 0, none⟩) (K + 1) cap')) :=
        (((Keep.refl _ _ W').alloc hsW _).grown hgrow (by simp; omega) (fun g hg => by have := Hat.out g hg; omega)).setCell (p := ⟨w.heap.size, 0, none⟩) (.inl (by dsimp only; omega)) _
      have hgg : w.grownBy (w4.setCell ⟨w.heap.size, 0, none⟩ (.slice (some ⟨g', 0, none⟩) (K + 1) cap')) (Value.slice A n c).ownBlock :=
        grown_step (grown_step2 (grown_al HG.out _) hgrow Hat2.out) (grownBy_setCell' w4 w.heap.size _) (fun g e => by cases e; exact Nat.le_refl _)
      have hbr2 : Blk (w4.setCell ⟨w.heap.size, 0, none⟩ (.slice (some ⟨g', 0, none⟩) (K + 1) cap')) (w.heap.size + 1 + 1 + 1) 45 #[.int .i64 X, .int .i64 Y, .int .i64 W, .int .i64 H] :=
        ((HBR.out.alloc _).grown hgrow (fun e => by have := Hat.out _ e.symm; omega)).far (p := ⟨w.heap.size, 0, none⟩) (by dsimp only; omega) _
      refine ⟨hk2.from _, hkp, ⟨_, hv2, by rw [HSN.out, ← List.append_assoc, pcs_snoc, List.length_append, HK.out]; exact hr2, fun g hg => ?_, ?_⟩, hgg, Nat.le_trans hsW hkp.size, hbr2⟩
      · rcases hat' with e | e
        · exact Hat.out g (e ▸ hg)
        · rw [e] at hg
          simp at hg
          omega
      · rcases hat' with e | e
        · rcases Hat2.out with e2 | e2
          · exact .inl (e.trans e2)
          · exact .inr (fun g hg => e2 g (e ▸ hg))
        · refine .inr (fun g hg => ?_)
          rw [e] at hg
          simp at hg
          omega
    all_goals
      have hin : inB X Y W H x.1.1 x.1.2 = false := by
        simp only [decide_eq_true_eq, decide_eq_false_iff_not] at *
        simp [inB]; omega
      have hsn : inR X Y W H (pre ++ [x]) = inR X Y W H pre := by rw [inR_snoc, hin]; simp
      have HSN := Lib.hid hsn
      clear hin hsn
      gi_wp2_with fail
      exact ⟨(KeepsOthers.refl _).from _, Keep.refl _ _ _, ⟨v, bv, by rw [HSN.out]; exact Hown.out, Hat.out, Hat2.out⟩, HG.out, hsW, HBR.out⟩
  case done =>
    rintro D ys W' hD hS ⟨⟨v, bv, hown, hat, hat2⟩, hg, hsW, hbr⟩ hK
    subst hS
    have hcl : inR X Y W H (ptsR ax ay bx by' first N) = cutL ax ay bx by' X Y W H first := by
      unfold cutL
      rw [if_pos HC.out]
      have e1 : cutLo ax ay bx by' X Y W H first = first := by unfold cutLo; rw [HF0.out]; omega
      have e2 : cutHi ax ay bx by' X Y W H = t0 := HT0.out
      rw [e1, e2, HNN.out]
    rw [hcl] at hown
    obtain ⟨A', cap', rfl⟩ : ∃ A' cap', v = .slice A' (l0 ++ cutL ax ay bx by' X Y W H first).length cap' := by
      rcases hown.2 with ⟨rfl, h0⟩ | ⟨g, cap, cur, rfl, _⟩
      · exact ⟨none, 0, by rw [h0]⟩
      · exact ⟨_, _, rfl⟩
    obtain ⟨KL, hKL⟩ : ∃ KL, (l0 ++ cutL ax ay bx by' X Y W H first).length = KL := ⟨_, rfl⟩
    rw [hKL] at bv hown hat2
    have cv := bv.cell
    have HKL := Lib.hid hKL
    have HC2 := Lib.hid hcl
    clear hcl hKL
    gi_wp2_with fail
    refine ⟨by simp, .inl ⟨_, _, rfl, run_takeDeferred hK, ?_⟩⟩
    exact ⟨_, results_tmp rfl _ _ _, .slice A' KL cap', rfl, by rw [HKL.out]; exact ownsRow_putObj hown _ hK rfl, grown_put hg hK (by omega), hat2⟩
  case stop =>
    rintro D c' pre W' _ _ h _
    exact h.elim

end Go.Proofs.Ytcdecglbkcllaaa.Ln
