/-
  The walk of line.Pixels: why it tells nothing, or the line's places, in order, in a slice of its own.
-/
import Derived.Maps.OwnIn
import Derived.Test.YtcdecglbkcllaaaLineWalkD
namespace Go.Proofs.Ytcdecglbkcllaaa.Ln
open Go.RowKit Go.Shelf
attribute [local go_sem] Oper.semAt_some
theorem wide_fn (k : FuncId) : Fence.wide.fn k ↔ True := Iff.rfl
attribute [local go_sem] wide_fn

/-- the cells of places. -/
def pcs (l : List PtR) : List Value := l.flatMap fun p => [.int .i64 p.1.1, .int .i64 p.1.2]
theorem pcs_snoc (l : List PtR) (p : PtR) : pcs (l ++ [p]) = pcs l ++ [.int .i64 p.1.1, .int .i64 p.1.2] := by simp [pcs]
theorem Try.infoPt : (Try.prog.info? 23).map (fun i => (i.zero, i.size, i.bytes)) = some (some (.agg #[.int .i64 0, .int .i64 0]), 2, 16) := by kernel_rfl

/-- a block that is known whole. -/
def Blk (w : World) (g : Nat) (t : TypeId) (cs : Array Value) : Prop := w.heap[g]? = some (.cells cs t (0, 0))
section
variable {w w' : World} {g : Nat} {t : TypeId} {cs : Array Value}
theorem Blk.lt (h : Blk w g t cs) : g < w.heap.size := (Array.getElem?_eq_some_iff.1 h).1
theorem Blk.cell (h : Blk w g t cs) (i : Nat) : w.cell? ⟨g, i, none⟩ = cs[i]? := cell_of_row w g i cs t (0, 0) h
theorem Blk.frozen (h : Blk w g t cs) (i : Nat) : w.frozen? ⟨g, i, none⟩ = false := by
  unfold Blk at h
  simp [World.frozen?, h]
theorem Blk.new (w : World) (t : TypeId) (cs : Array Value) : Blk (w.alloc (.cells cs t)) w.heap.size t cs := heap_alloc_new w _
theorem Blk.below {B : Nat} (h : Blk w g t cs) (hb : Below B w w') (hg : g < B) : Blk w' g t cs := (hb.block g hg).trans h
theorem blk_own {β : Type} (B : Nat) (g : Nat) (t : TypeId) (f : β → Array Value) : OwnFrom B (fun s W => Blk W g t (f s)) := fun s X Y row hs hg hrow =>
  (hg.block g hs.lt (fun e' => by obtain ⟨_, o, ho, hc⟩ := hrow g e'.symm; rw [show X.heap[g]? = _ from hs] at ho; cases ho; cases hc)).trans hs
end
theorem two_new (w : World) (x y : Value) (t : TypeId) : ∀ j u, [x, y][j]? = some u → (w.alloc (.cells #[x, y] t)).cell? ((⟨w.heap.size, 0, none⟩ : Addr).add j) = some u := by
  intro j u hu
  match j, hu with
  | 0, hu => simp at hu; subst hu; simp [Addr.add]
  | 1, hu => simp at hu; subst hu; simp [Addr.add]

set_option maxHeartbeats 400000 in
theorem pixels_range (ax ay bx by' : Int) (w : World) (h : (rightB ax ay && rightB bx by') = false) :
    Calls Try.prog 10 #[.agg #[.int .i64 ax, .int .i64 ay], .agg #[.int .i64 bx, .int .i64 by']] w fun e w' => e = .returned (.tuple #[.slice none 0 0, .int .i64 1]) ∧ Below w.heap.size w w' := by
  cases h1 : rightB ax ay
  · clear h
    go_enter Try.func10, Try.ntmps10
    go_wp2_with (go_at_call 33; refine (right_any _ _ _).mono ?_; rintro e w' ⟨rfl, rfl⟩)
    go_ret2
    exact ⟨rfl, (((Below.refl _ _).alloc (Nat.le_refl _) _).alloc (by simp) _).alloc (by simp; omega) _⟩
  · have h2 : rightB bx by' = false := by simpa [h1] using h
    clear h
    go_enter Try.func10, Try.ntmps10
    go_wp2_with (go_at_call 33; refine (right_any _ _ _).mono ?_; rintro e w' ⟨rfl, rfl⟩)
    go_ret2
    exact ⟨rfl, ((((Below.refl _ _).alloc (Nat.le_refl _) _).alloc (by simp) _).alloc (by simp; omega) _).alloc (by simp; omega) _⟩

set_option maxHeartbeats 400000 in
theorem pixels_long (ax ay bx by' : Int) (w : World) (h1 : rightB ax ay = true) (h2 : rightB bx by' = true) (h3 : 65535 < stpI ax ay bx by') :
    Calls Try.prog 10 #[.agg #[.int .i64 ax, .int .i64 ay], .agg #[.int .i64 bx, .int .i64 by']] w fun e w' => e = .returned (.tuple #[.slice none 0 0, .int .i64 4]) ∧ Below w.heap.size w w' := by
  have hs := stpI_bd h1 h2
  have H1 := Lib.hid h1
  have H2 := Lib.hid h2
  go_enter Try.func10, Try.ntmps10
  go_wp2_with (first
    | (go_at_call 33; refine (right_any _ _ _).mono ?_; rintro e w' ⟨rfl, rfl⟩)
    | (go_at_call 34; refine (track_any _ _ _ _ _ H1.out H2.out).mono ?_; rintro e w1 ⟨f, rfl, hA, hb⟩; obtain ⟨fk, caps, rfl⟩ := hA.form; clear hA))
  go_ret2
  exact ⟨rfl, ((((((Below.refl _ _).alloc (Nat.le_refl _) _).alloc (by simp) _).alloc (by simp; omega) _).alloc (by simp; omega) _).trans (hb.mono (by simp; omega)))⟩

set_option maxRecDepth 100000 in
set_option maxHeartbeats 2000000 in
theorem pixels_any (ax ay bx by' : Int) (w : World) (h1 : rightB ax ay = true) (h2 : rightB bx by' = true) (h3 : stpI ax ay bx by' ≤ 65535) :
    Calls Try.prog 10 #[.agg #[.int .i64 ax, .int .i64 ay], .agg #[.int .i64 bx, .int .i64 by']] w fun e w' => ∃ v, e = .returned (.tuple #[v, .int .i64 0]) ∧ w'.ownsRow w.heap.size 23 2 v (stp ax ay bx by' + 1) (pcs (ptsR ax ay bx by' 0 (stp ax ay bx by' + 1))) ∧ Below w.heap.size w w' := by
  have hs := stpI_bd h1 h2
  have H1 := Lib.hid h1
  have H2 := Lib.hid h2
  obtain ⟨i0, hi, hz0, hz1, hz2⟩ := info_parts Try.infoPt
  refine (callsIn_wide (n := 5)).1 ?_
  refine callsIn_of_wp_marks Try.func10 rfl trivial ?_ rfl
  simp only [Try.ntmps10, List.size_toArray, List.length_cons, List.length_nil, Nat.reduceAdd, Nat.reduceSub, Array.replicate_succ, Array.replicate_zero, List.push_toArray, List.append_toArray, List.nil_append, List.cons_append]
  gi_wp2_with (first
    | (gi_at_call 33; refine (callsIn_wide.2 (right_any _ _ _)).mono ?_; rintro e w' ⟨rfl, rfl⟩)
    | (gi_at_call 34; refine (callsIn_wide.2 (track_any _ _ _ _ _ H1.out H2.out)).mono ?_; rintro e w1 ⟨f, rfl, hA, hb⟩; obtain ⟨fk, caps, rfl⟩ := hA.form; clear hA; obtain ⟨hc, hfz⟩ := bcell hb; have hz := hb.size; simp at hz)
    | (gi_at_make; (refine wpListIn_make_own _ rfl _ _ 25 rfl w.heap.size 23 i0 _ 2 Try.underlying25 hi hz0 hz1 _ _ _ (stp ax ay bx by' + 1) rfl rfl (by simp [stpI]) (by rw [hz2]; unfold stpI at h3; omega) (by simp only [maxLen]; unfold stpI at h3; omega) (by omega) ?_; intro w2 hown hg2; have hb2 : Below w1.heap.size w1 w2 := (Below.refl _ w1).grown hg2 (Nat.le_refl _) (by simp); obtain ⟨hc2, hfz2⟩ := bcell hb2; have z0 : w.heap.size < w1.heap.size := (by omega); have z1 : w.heap.size + 1 < w1.heap.size := (by omega); have hs2 := hb2.size; have z2 : w.heap.size < w2.heap.size := (by omega); have z3 : w.heap.size + 1 < w2.heap.size := (by omega); have Hown := Lib.hid hown; clear hown hg2))
    | (gi_at_call 35; refine (callsIn_wide.2 (walk_any _ _ _ _ _ _ _ H1.out H2.out)).mono ?_; rintro e w3 ⟨g, rfl, hG, hb3⟩; obtain ⟨bf, bt, ba, f, rfl, hrg, cf, ct, ca, hA⟩ := hG))
  have hb01 : Below w.heap.size w w1 := (((((Below.refl _ w).alloc (Nat.le_refl _) _).alloc (by simp) _).alloc (by simp; omega) _).alloc (by simp; omega) _).trans (hb.mono (by simp; omega))
  have hb02 : Below w.heap.size w w2 := hb01.trans (hb2.mono (by omega))
  have hb3s := hb3.size
  simp only [World.size_alloc] at hb3s hrg hA
  have hB0 : Below w.heap.size w w3 := (hb02.alloc hb02.size _).trans (hb3.mono (by simp; omega))
  have bO : Boxed w3 w2.heap.size 25 (.slice (some ⟨w1.heap.size, 0, none⟩) 0 (stp ax ay bx by' + 1)) := (hb3.block w2.heap.size (by simp)).trans (Boxed.new w2 25 _)
  have hlt12 : w1.heap.size < w2.heap.size := (Hown.out.lt w1.heap.size rfl).2
  have hown3 : w3.ownsRow w.heap.size 23 2 (.slice (some ⟨w1.heap.size, 0, none⟩) 0 (stp ax ay bx by' + 1)) 0 [] :=
    (Hown.out.alloc _).kept (grown_of_below hb3 none) (.inr (by simp [Value.ownBlock]))
  have hst : (stpI ax ay bx by' - 0 + 1).toNat = stp ax ay bx by' + 1 := by unfold stpI; omega
  have hst3 : stp ax ay bx by' + 1 ≤ 65536 := by unfold stpI at h3; omega
  have HST := Lib.hid hst
  clear hst hc hfz hc2 hfz2
  refine wpIn_rangeFunc_ownH rfl (by omega) (gf := 55) (lb := #[.pointer (some ⟨bf, 0, none⟩), .pointer (some ⟨bt, 0, none⟩), .pointer (some ⟨ba, 0, none⟩)]) rfl trivial (enters_of Try.func55 (by kernel_rfl) rfl)
    (walk1_stops 4 (by omega) (w2.heap.size + 1) w3.heap.size ax ay bx by' 0 (stpI ax ay bx by') H1.out H2.out (by omega) (by omega) (by unfold stpI; omega) (by omega) bf bt ba f w3 (Nat.le_refl _) hrg cf ct ca hA) Keep.trans (Keep.putObj (Nat.le_refl _)) (Below.refl _ _) (fun _ => rfl)
    (fun pre W => (∃ v, Boxed W w2.heap.size 25 v ∧ W.ownsRow w.heap.size 23 2 v pre.length (pcs pre) ∧ (∀ g, v.ownBlock = some g → g < w2.heap.size + 1 ∨ w3.heap.size ≤ g)) ∧ Below w.heap.size w W ∧ w3.heap.size ≤ W.heap.size)
    (fun _ _ _ => False)
    (OwnFrom.and (Own.from (holdsRow_own w.heap.size w2.heap.size 25 23 2 (fun pre : List PtR => pre.length) (fun pre => pcs pre) (fun _ v => ∀ g, v.ownBlock = some g → g < w2.heap.size + 1 ∨ w3.heap.size ≤ g)) _) (OwnFrom.and (ownFrom_below (Nat.le_refl _) hB0.size) (fun _ _ _ _ hs hg _ => Nat.le_trans hs hg.size)))
    (fun _ _ _ _ _ hs _ _ => hs)
    ⟨⟨_, bO, hown3, fun g hg => .inl (by simp [Value.ownBlock] at hg; omega)⟩, hB0, Nat.le_refl _⟩
    (fun x a' W => ∃ Bx, w3.heap.size ≤ Bx ∧ Blk W Bx 23 #[.int .i64 x.1.1, .int .i64 x.1.2] ∧ a' = { tmps := #[.agg #[.int .i64 ax, .int .i64 ay], .agg #[.int .i64 bx, .int .i64 by'], .pointer (some ⟨w.heap.size, 0, none⟩), .pointer (some ⟨w.heap.size + 1, 0, none⟩), .slice none 0 0, .int .i64 0, .int .i64 (stpI ax ay bx by'), .func (.func fk) #[] caps, .pointer (some ⟨w2.heap.size, 0, none⟩), .pointer (some ⟨Bx, 0, none⟩), .agg #[.int .i64 ax, .int .i64 ay], .bool true, .bool false, .bool false, .agg #[.int .i64 bx, .int .i64 by'], .bool true, .bool false, .bool false, .tuple #[.int .i64 (stpI ax ay bx by'), .func (.func fk) #[] caps], .agg #[.int .i64 ax, .int .i64 ay], .agg #[.int .i64 bx, .int .i64 by'], .tuple #[.int .i64 (stpI ax ay bx by'), .func (.func fk) #[] caps], .int .i64 (stpI ax ay bx by'), .func (.func fk) #[] caps, .int .i64 (stpI ax ay bx by'), .int .i64 (stpI ax ay bx by' + 1), .bool (decide (65536 < stpI ax ay bx by' + 1)), .int .i64 (stpI ax ay bx by'), .int .i64 (stpI ax ay bx by' + 1), .slice (some ⟨w1.heap.size, 0, none⟩) 0 (stp ax ay bx by' + 1), .agg #[.int .i64 ax, .int .i64 ay], .agg #[.int .i64 bx, .int .i64 by'], .int .i64 (stpI ax ay bx by'), .func (.func 55) #[] #[.pointer (some ⟨bf, 0, none⟩), .pointer (some ⟨bt, 0, none⟩), .pointer (some ⟨ba, 0, none⟩)], .agg #[.int .i64 x.1.1, .int .i64 x.1.2], undef, undef, undef, undef, undef], defers := [] })
    (fun x a' _ X Y row hs hg hr => by obtain ⟨Bx, h1, h2, h3⟩ := hs; exact ⟨Bx, h1, blk_own w3.heap.size Bx 23 (fun (_ : Unit) => #[Value.int .i64 x.1.1, .int .i64 x.1.2]) () X Y row h2 hg hr, h3⟩)
    ?assign ?body ?done ?stop
  case assign =>
    rintro l pre x W K ⟨⟨v, bv, hown, hat⟩, hB, hsW⟩ hK
    gi_wp2_with fail
    exact hK _ _ ((KeepsOthers.alloc _ _).from _) ((Keep.refl _ _ W).alloc hsW _) ⟨⟨v, bv.alloc _, hown.alloc _, hat⟩, hB.alloc hB.size _, by simp; omega⟩ ⟨W.heap.size, hsW, Blk.new W _ _, rfl⟩
  case body =>
    rintro l pre x a' W hl _ ⟨⟨v, bv, hown, hat⟩, hB, hsW⟩ ⟨Bx, hBx, hX, rfl⟩ hlt
    rw [HST.out] at hlt
    have cv := bv.cell
    have cx0 : W.cell? ⟨Bx, 0, none⟩ = some (.int .i64 x.1.1) := (hX.cell 0).trans rfl
    have cx1 : W.cell? ⟨Bx, 1, none⟩ = some (.int .i64 x.1.2) := (hX.cell 1).trans rfl
    have Hat := Lib.hid hat
    have Hown := Lib.hid hown
    clear hat hown
    gi_wp2_with (gi_at_builtin; refine wpListIn_append_own_at _ rfl _ _ 25 rfl w.heap.size 23 i0 _ 2 16 Try.underlying25 hi hz0 hz1 hz2 rfl (by decide) _ _ _ rfl (Hown.out.alloc _) ⟨W.heap.size, 0, none⟩ 1 1 [.int .i64 x.1.1, .int .i64 x.1.2] rfl rfl (two_new _ _ _ _) (by simp [Value.oneCell']) (by simp only [maxLen]; omega) (by omega) (by have := hB.size; simp; omega) ?_; intro v' w4 hown' hgrow _ hat'; obtain ⟨g', cap', rfl⟩ := ownsRow_succ hown'; obtain ⟨hv1, hv2, hr2, hk2, hb2⟩ := bv.appended (by decide) Hown.out hB.size (by omega) hown' hgrow; have hc1 := hv1.cell; have hf1 := hv1.frozen)
    have hkp : Keep (w2.heap.size + 1) w3.heap.size W (w4.setCell ⟨w2.heap.size, 0, none⟩ (.slice (some ⟨g', 0, none⟩) (pre.length + 1) cap')) :=
      (((Keep.refl _ _ W).alloc hsW _).grown hgrow (by simp; omega) Hat.out).setCell (p := ⟨w2.heap.size, 0, none⟩) (.inl (by dsimp only; omega)) _
    refine ⟨hk2.from _, hkp, ⟨_, hv2, by rw [pcs_snoc, List.length_append]; exact hr2, fun g hg => ?_⟩, hB.trans hb2, Nat.le_trans hsW hkp.size⟩
    rcases hat' with e | e
    · exact Hat.out g (e ▸ hg)
    · rw [e] at hg
      simp at hg
      omega
  case done =>
    rintro D ys W hD hS ⟨⟨v, bv, hown, _⟩, hB, hsW⟩ hK
    rw [HST.out] at hS
    subst hS
    rw [ptsR_length] at hown
    obtain ⟨g', cap', rfl⟩ := ownsRow_succ hown
    have cv := bv.cell
    gi_wp2_with fail
    refine ⟨by simp, .inl ⟨_, _, rfl, run_takeDeferred hK, ?_⟩⟩
    exact ⟨_, results_tmp2 rfl _ _ _, _, rfl, ownsRow_putObj hown _ hK rfl, hB.trans (belowK_b (w := w) (Nat.le_refl _) W D _ _ (by omega) hK rfl rfl)⟩
  case stop =>
    rintro D c pre W _ _ h _
    exact h.elim

end Go.Proofs.Ytcdecglbkcllaaa.Ln
