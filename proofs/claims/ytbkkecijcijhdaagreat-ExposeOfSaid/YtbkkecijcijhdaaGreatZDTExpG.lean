/-
  The walks of expose.changes and expose.Of.
-/
import Derived.Test.YtbkkecijcijhdaaGreatZDTExpF
section
namespace Go.Proofs.YtbkkecijcijhdaaGreat
open Go.RowKit Go.Maps Go.Shelf
attribute [local go_sem] Oper.semAt_some

set_option maxRecDepth 100000 in
theorem Tryz.infoCh : (Tryz.prog.info? 93).map (fun i => (i.zero, i.size, i.bytes)) = some (some (.agg #[.int .u32 0, .slice none 0 0, .slice none 0 0]), 3, 56) := by kernel_rfl
theorem blk_ownX {β : Type} (B : Nat) (g : Nat) (t : TypeId) (f : β → Array Value) : OwnFrom B (fun s W => Blk W g t (f s)) := fun s X Y row hs hg hrow =>
  (hg.block g hs.lt (fun e' => by obtain ⟨_, o, ho, hc⟩ := hrow g e'.symm; rw [show X.heap[g]? = _ from hs] at ho; cases ho; cases hc)).trans hs
theorem at_own (B : Nat) (V U : Int → Places) (S : Int → SH) : OwnFrom B (fun (pre : List CV) W => ∀ y ∈ pre, y.At W V U S) := fun pre X Y row hs hg hr y hy => by
  have hk : ∀ g cs, Blk X g 113 cs → Blk Y g 113 cs := fun g cs hb =>
    (hg.block g hb.lt (fun e' => by obtain ⟨_, o, ho, hc⟩ := hr g e'.symm; rw [show X.heap[g]? = _ from hb] at ho; cases ho; cases hc)).trans hb
  exact ⟨(hs y hy).1.same hk, (hs y hy).2.same hk⟩
theorem at_own1 (B : Nat) (V U : Int → Places) (S : Int → SH) (x : CV) : OwnFrom B (fun (_ : Unit) W => x.At W V U S) := fun _ X Y row hs hg hr => at_own B V U S [x] X Y row (fun y hy => by rw [List.mem_singleton.1 hy]; exact hs) hg hr x (List.mem_singleton.2 rfl)
theorem at_kx {pre : List CV} {A B : World} {V U : Int → Places} {S : Int → SH} (h : ∀ y ∈ pre, y.At A V U S) {n0 : Nat} (k : Kx n0 A B) : ∀ y ∈ pre, y.At B V U S := fun y hy => (h y hy).kx k
theorem at_snoc {pre : List CV} {x : CV} {A : World} {V U : Int → Places} {S : Int → SH} (h : ∀ y ∈ pre, y.At A V U S) (hx : x.At A V U S) : ∀ y ∈ pre ++ [x], y.At A V U S := fun y hy => by
  rcases List.mem_append.1 hy with h1 | h1
  · exact h y h1
  · rw [List.mem_singleton.1 h1]; exact hx
theorem news_ch (w : World) (cs : List Value) (t : TypeId) : ∀ j u, cs[j]? = some u → (w.alloc (.cells cs.toArray t)).cell? ((⟨w.heap.size, 0, none⟩ : Addr).add j) = some u := by
  intro j u hj
  have h := (Blk.new w t cs.toArray).cellV (i := j) (v := u) (by simpa using hj)
  unfold Addr.add
  split
  · rename_i e; rw [e] at h; exact h
  · rw [Nat.zero_add]; exact h
section
variable {w : World} {Aa Ab : Option Addr} {na ca nb cb : Nat} {ma mb mm : Option Nat}
set_option maxRecDepth 100000 in
theorem changes_any :
    Calls Tryz.prog 113 #[.agg #[.slice Aa na ca, .map ma], .agg #[.slice Ab nb cb, .map mb], .map mm] w fun e w' => ∃ bn bw bm, e = .returned (.func (.func 154) #[] #[.pointer (some ⟨bn, 0, none⟩), .pointer (some ⟨bw, 0, none⟩), .pointer (some ⟨bm, 0, none⟩)]) ∧ Blk w' bw 43 #[.slice Aa na ca, .map ma] ∧ Blk w' bn 43 #[.slice Ab nb cb, .map mb] ∧ Blk w' bm 115 #[.map mm] ∧ Below w.heap.size w w' := by
  go_enter Tryz.func113, Tryz.ntmps113
  go_wp2_with fail
  go_ret
  have x3 := blk_newA (w.alloc (.cells #[.slice Aa na ca, .map ma] 43)) (.cells #[.slice Ab nb cb, .map mb] 43) 115 #[.map mm]
  rw [World.size_alloc] at x3
  exact ⟨_, _, _, rfl, ((Blk.new w _ _).alloc _).alloc _, (blk_newA w _ _ _).alloc _, x3, bal (bal (bal (bre w) _) _) _⟩
/-- the changes of which something is new. -/
def flX (xs : List CV) : List CV := xs.filter fun x => !decide (x.m = 0)
theorem flX_snoc (xs : List CV) (x : CV) : flX (xs ++ [x]) = flX xs ++ (if x.m = 0 then [] else [x]) := by
  unfold flX
  rw [List.filter_append]
  by_cases h : x.m = 0 <;> simp [h]
theorem Kx.app {n0 bo B k : Nat} {W w4 : World} {v : Value} {xs : List Value} {o : Obj} (hv : Boxed W bo 116 v) (ho : W.ownsRow B 93 3 v k xs) (hg : (W.alloc o).grownBy w4 v.ownBlock) (u : Value) (hb : Below n0 W (w4.setCell ⟨bo, 0, none⟩ u)) : Kx n0 W (w4.setCell ⟨bo, 0, none⟩ u) :=
  ⟨hb, fun b cs t e h1 h2 => by
    have hlt := (Array.getElem?_eq_some_iff.1 e).1
    have e1 : (W.alloc o).heap[b]? = some (.cells cs t) := (Below.heap_alloc W o b hlt).trans e
    have n1 : v.ownBlock ≠ some b := own_other ho (show Blk W b t cs from e) h1
    have e2 : w4.heap[b]? = some (.cells cs t) := (hg.block b (by simp; omega) (fun e' => n1 e'.symm)).trans e1
    have n2 : b ≠ bo := fun e' => by
      subst e'
      have := (show W.heap[b]? = _ from hv).symm.trans e
      injection this with this
      injection this with _ h3 _
      exact h2 h3.symm
    rw [Below.heap_setCell w4 _ u b n2]
    exact e2⟩
set_option maxRecDepth 100000 in
set_option maxHeartbeats 4000000 in
theorem of32_any {V U : Int → Places} (ord : List Int) (nm : Nat) (f : Int → Option Value) (S : Int → SH)
    (ha : VisAt w (.agg #[.slice Aa na ca, .map ma]) V) (hb : VisAt w (.agg #[.slice Ab nb cb, .map mb]) U)
    (hwin : ∀ W : World, Below w.heap.size w W → Calls Tryz.prog 26 #[.agg #[.slice Ab nb cb, .map mb]] W fun e w' => ∃ u, e = .returned u ∧ w'.ownsRow W.heap.size 49 1 u ord.length (U32 ord) ∧ Below W.heap.size W w')
    (hord : (∀ i ∈ ord, 0 ≤ i ∧ i ≤ 4294967295) ∧ ord.length ≤ 1001) (hm : MapOpt Tryz.prog 49 .u32 w mm nm f) (hS : ∀ i, (f i).getD (.agg #[.int .i64 0, .int .i64 0, .bool false]) = .agg #[.int .i64 (S i).X, .int .i64 (S i).Y, .bool (S i).F]) (hSb : ∀ i, (-128 ≤ (S i).X ∧ (S i).X ≤ 127) ∧ -128 ≤ (S i).Y ∧ (S i).Y ≤ 127) :
    Calls Tryz.prog 61 #[.agg #[.slice Aa na ca, .map ma], .agg #[.slice Ab nb cb, .map mb], .map mm] w fun e w' => ∃ v xs, e = .returned v ∧ xs.map CV.I = ord ∧ (∀ y ∈ xs, y.At w' V U S) ∧ w'.ownsRow w.heap.size 93 3 v (flX xs).length ((flX xs).flatMap CV.cells) ∧ Below w.heap.size w w' := by
  obtain ⟨i0, hi0, hz0, hz1, hz2⟩ := info_parts Tryz.infoCh
  have HA := Lib.hid ha
  have HC := Lib.hid hb
  have HWN := Lib.hid hwin
  have HOD := Lib.hid hord
  have HMM := Lib.hid hm
  have HS := Lib.hid hS
  have HSB := Lib.hid hSb
  clear ha hb hwin hord hm hS hSb
  have xB := bal (bal (bal (bre w) (.cells #[.slice Aa na ca, .map ma] 43)) (.cells #[.slice Ab nb cb, .map mb] 43)) (.cells #[.slice none 0 0] 116)
  have x3 := ((Blk.new w 43 #[.slice Aa na ca, .map ma]).alloc (.cells #[.slice Ab nb cb, .map mb] 43)).alloc (.cells #[.slice none 0 0] 116)
  have x4 := (blk_newA w (.cells #[.slice Aa na ca, .map ma] 43) 43 #[.slice Ab nb cb, .map mb]).alloc (.cells #[.slice none 0 0] 116)
  have x7 := blk_newA (w.alloc (.cells #[.slice Aa na ca, .map ma] 43)) (.cells #[.slice Ab nb cb, .map mb] 43) 116 #[.slice none 0 0]
  rw [World.size_alloc] at x7
  have a0 := x3.cellV (i := 0) (v := .slice Aa na ca) rfl
  have a1 := x3.cellV (i := 1) (v := .map ma) rfl
  have b0 := x4.cellV (i := 0) (v := .slice Ab nb cb) rfl
  have b1 := x4.cellV (i := 1) (v := .map mb) rfl
  refine (callsIn_wide (n := 5)).1 ?_
  refine callsIn_of_wp_marks Tryz.func61 rfl trivial ?_ rfl
  simp only [Tryz.ntmps61, List.size_toArray, List.length_cons, List.length_nil, Nat.reduceAdd, Nat.reduceSub, Array.replicate_succ, Array.replicate_zero, List.push_toArray, List.append_toArray, List.nil_append, List.cons_append]
  gi_wp2_with fail
  refine ⟨trivial, (callsIn_wide.2 changes_any).mono ?_⟩
  rintro e w3 ⟨bn, bw, bm, rfl, kw, kn, km, hb3⟩
  have HB0 := Lib.hid (bstep xB hb3)
  have hs3 := hb3.size
  simp only [World.size_alloc] at hs3
  have HBO := Lib.hid (show Boxed w3 (w.heap.size + 1 + 1) 116 (.slice none 0 0) from x7.belowS hb3)
  have HSQ := Lib.hid (changes1_tells 4 (by omega) w w3 ord mm nm f S bw bn bm HB0.out HA.out HC.out HWN.out HOD.out HMM.out HS.out HSB.out kw kn km)
  clear xB x3 x4 x7 a0 a1 b0 b1 kw kn km hb3
  gi_wp2_with fail
  refine wpIn_rangeTells rfl (by omega) (gf := 154) (lb := #[.pointer (some ⟨bn, 0, none⟩), .pointer (some ⟨bw, 0, none⟩), .pointer (some ⟨bm, 0, none⟩)]) rfl trivial (enters_of Tryz.func154 (by kernel_rfl) rfl)
    HSQ.out Kx.trans (Kx.putObj HB0.out.size) (Below.refl _ _) (fun _ => rfl)
    (fun pre W => (∃ v, Boxed W (w.heap.size + 1 + 1) 116 v ∧ W.ownsRow w.heap.size 93 3 v (flX pre).length ((flX pre).flatMap CV.cells) ∧ True) ∧ Below w.heap.size w W ∧ w3.heap.size ≤ W.heap.size ∧ ∀ y ∈ pre, y.At W V U S)
    (OwnFrom.and (Own.from (holdsRow_own w.heap.size (w.heap.size + 1 + 1) 116 93 3 (fun pre : List CV => (flX pre).length) (fun pre => (flX pre).flatMap CV.cells) (fun _ _ => True)) _) (OwnFrom.and (ownFrom_below (Nat.le_refl _) HB0.out.size) (OwnFrom.and (fun _ _ _ _ hs hg _ => Nat.le_trans hs hg.size) (at_own _ V U S))))
    ⟨⟨_, HBO.out, World.ownsRow_nil _ _ _ _, trivial⟩, HB0.out, Nat.le_refl _, by simp⟩
    (fun x a' W => x.At W V U S ∧ ∃ Bx, w3.heap.size ≤ Bx ∧ Blk W Bx 93 #[.int .u32 x.I, .slice x.A x.n x.c, .slice x.B x.m x.d] ∧ a' = { tmps := #[.agg #[.slice Aa na ca, .map ma], .agg #[.slice Ab nb cb, .map mb], .map mm, .pointer (some ⟨w.heap.size, 0, none⟩), .pointer (some ⟨w.heap.size + 1, 0, none⟩), undef, .slice none 0 0, .pointer (some ⟨w.heap.size + 1 + 1, 0, none⟩), .pointer (some ⟨Bx, 0, none⟩), .agg #[.slice Aa na ca, .map ma], .agg #[.slice Ab nb cb, .map mb], .map mm, .func (.func 154) #[] #[.pointer (some ⟨bn, 0, none⟩), .pointer (some ⟨bw, 0, none⟩), .pointer (some ⟨bm, 0, none⟩)], .agg #[.int .u32 x.I, .slice x.A x.n x.c, .slice x.B x.m x.d], undef, undef, undef, undef, undef, undef, undef, undef, undef], defers := [] })
    (fun x a' _ X Y row hs hg hr => by
      obtain ⟨h0, Bx, h1, h2, h3⟩ := hs
      exact ⟨at_own1 _ V U S x () X Y row h0 hg hr, Bx, h1, blk_ownX w3.heap.size Bx 93 (fun (_ : Unit) => #[Value.int .u32 x.I, .slice x.A x.n x.c, .slice x.B x.m x.d]) () X Y row h2 hg hr, h3⟩)
    ?assign ?body ?done
  case assign =>
    rintro l pre x W K ⟨⟨v, bv, hown, hat⟩, hB, hsW, hys⟩ hT hK
    gi_wp2_with fail
    have hkx := Kx.of_below hB.size (bal (bre W) (.cells #[.int .u32 x.I, .slice x.A x.n x.c, .slice x.B x.m x.d] 93))
    exact hK _ _ ((KeepsOthers.alloc _ _).from _) hkx ⟨⟨v, bv.alloc _, hown.alloc _, hat⟩, hB.alloc hB.size _, by simp; omega, at_kx hys hkx⟩ ⟨hT.kx hkx, W.heap.size, hsW, Blk.new W _ _, rfl⟩
  case body =>
    rintro l pre x a' W hl ⟨⟨v, bv, hown, _⟩, hB, hsW, hys⟩ ⟨hT, Bx, hBx, hX, rfl⟩ hlt
    have HYS := Lib.hid (at_snoc hys hT)
    clear hys hT
    have hlp : (flX pre).length ≤ 1001 := Nat.le_trans (List.length_filter_le _ _) (by have := HOD.out.2; omega)
    have cv := bv.cell
    have cx0 : W.cell? ⟨Bx, 0, none⟩ = some (.int .u32 x.I) := (hX.cell 0).trans rfl
    have cx1 : W.cell? ⟨Bx, 1, none⟩ = some (.slice x.A x.n x.c) := (hX.cell 1).trans rfl
    have cx2 : W.cell? ⟨Bx, 2, none⟩ = some (.slice x.B x.m x.d) := (hX.cell 2).trans rfl
    have Hown := Lib.hid hown
    clear hown
    gi_wp2_with fail
    refine ⟨trivial, (callsIn_wide.2 (empty_any x.B x.m x.d _)).mono ?_⟩
    rintro e W1 ⟨rfl, hb1⟩
    have BV := Lib.hid (show Boxed W1 (w.heap.size + 1 + 1) 116 v from Blk.belowS (show Blk W (w.heap.size + 1 + 1) 116 #[v] from bv) hb1)
    have HB1 := Lib.hid (bstep hB hb1)
    have HO1 := Lib.hid (ownsRow_below Hown.out hb1)
    have HX1 := Lib.hid (hX.belowS hb1)
    have hs1 := hb1.size
    have cv1 := BV.out.cell
    have cy0 : W1.cell? ⟨Bx, 0, none⟩ = some (.int .u32 x.I) := (HX1.out.cell 0).trans rfl
    have cy1 : W1.cell? ⟨Bx, 1, none⟩ = some (.slice x.A x.n x.c) := (HX1.out.cell 1).trans rfl
    have cy2 : W1.cell? ⟨Bx, 2, none⟩ = some (.slice x.B x.m x.d) := (HX1.out.cell 2).trans rfl
    by_cases h0 : x.m = 0
    · rw [show decide (x.m = 0) = true by simpa using h0]
      gi_wp2_with fail
      have hwb : Below W.heap.size W W1 := hb1
      refine ⟨(show KeepsOthers W W1 from ⟨hwb.size, fun k _ hk _ => (hwb.block k (Array.getElem?_eq_some_iff.1 hk).1).trans hk⟩).from _, Kx.of_below hB.size hwb, ⟨⟨_, BV.out, ?_, trivial⟩, HB1.out, by omega, at_kx HYS.out (Kx.of_below hB.size hwb)⟩⟩
      rw [flX_snoc, if_pos h0, List.append_nil]
      exact HO1.out
    · rw [show decide (x.m = 0) = false by simpa using h0]
      have HL := Lib.hid hlp
      gi_wp2_with (gi_at_builtin; refine wpListIn_append_own_at _ rfl _ _ 116 rfl w.heap.size 93 i0 _ 3 56 Tryz.underlying116 hi0 hz0 hz1 hz2 rfl (by decide) _ _ _ rfl (HO1.out.alloc _) ⟨W1.heap.size, 0, none⟩ 1 1 [.int .u32 x.I, .slice x.A x.n x.c, .slice x.B x.m x.d] rfl rfl (news_ch _ [_, _, _] _) (by simp [Value.oneCell']) (by have := HL.out; simp only [maxLen]; omega) (by have := HL.out; omega) (by have := HB1.out.size; simp; omega) ?_; intro v' w4 hown' hgrow _ _; obtain ⟨g', cap', rfl⟩ := ownsRow_succ hown'; obtain ⟨hv1, hv2, hr2, hk2, hb2⟩ := BV.out.appended (by decide) HO1.out HB1.out.size (by omega) hown' hgrow; have hc1 := hv1.cell; have hf1 := hv1.frozen)
      have hkx : Kx w.heap.size W1 (w4.setCell ⟨w.heap.size + 1 + 1, 0, none⟩ (.slice (some ⟨g', 0, none⟩) ((flX pre).length + 1) cap')) := Kx.app BV.out HO1.out hgrow _ hb2
      have hwb : Below W.heap.size W W1 := hb1
      refine ⟨((show KeepsOthers W W1 from ⟨hwb.size, fun k _ hk _ => (hwb.block k (Array.getElem?_eq_some_iff.1 hk).1).trans hk⟩).trans hk2).from _, (Kx.of_below hB.size hwb).trans hkx, ⟨⟨_, hv2, ?_, trivial⟩, HB1.out.trans hb2, by have := hb2.size; omega, at_kx HYS.out ((Kx.of_below hB.size hwb).trans hkx)⟩⟩
      rw [flX_snoc, if_neg h0, List.length_append, List.flatMap_append]
      exact hr2
  case done =>
    rintro D ys W hD hS ⟨⟨v, bv, hown, _⟩, hB, hsW, hys⟩ hK
    have HYS := Lib.hid hys
    clear hys
    obtain ⟨Ao, co, rfl, _⟩ := own_form hown
    have cv := bv.cell
    gi_wp2_with fail
    refine ⟨by simp, .inl ⟨_, _, rfl, run_takeDeferred hK, ?_⟩⟩
    exact ⟨_, results_tmp rfl _ _ _, _, ys, rfl, hS, (at_own w.heap.size V U S).putObj _ HYS.out (by omega) hK rfl, ownsRow_putObj hown _ hK rfl, hB.trans (belowK_b (w := w) (Nat.le_refl _) W D _ _ (by omega) hK rfl rfl)⟩
end
end Go.Proofs.YtbkkecijcijhdaaGreat
end
