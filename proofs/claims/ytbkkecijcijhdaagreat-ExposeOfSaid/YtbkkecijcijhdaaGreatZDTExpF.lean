/-
  The walk of the iterator of expose.changes: it hands on the change of each window that is viewable, in order.
-/
import Derived.RangeFuncNested
import Derived.RangeFuncBound
import Derived.RangeFuncCalls
import Derived.RangeFuncLeaves
import Derived.Shelf.Abstract
import Derived.Shelf.RegionOpen
import Derived.OwnWalkIn
import Derived.TacticsInMore
import Derived.LoopNIn
import Derived.LoopIn
import Derived.Maps.AppendAt
import Derived.Maps.OwnIn
import Derived.Laws.EntriesVeiled
import Derived.Test.YtbkkecijcijhdaaGreatZDTRangeT
import Derived.Test.YtbkkecijcijhdaaGreatZDTExpU
import Derived.Test.YtbkkecijcijhdaaGreatZD29
import Derived.Test.YtbkkecijcijhdaaGreatZD00
section
namespace Go.Proofs.YtbkkecijcijhdaaGreat
open Go.RowKit Go.Maps Go.Shelf
attribute [local go_sem] Oper.semAt_some

section
variable {F : Fence} {nF : Nat} {P : Program} {k e t : TypeId} {q : IntKind} {w : World} {ops : Array Oper} {rest : List Oper} {o : Oper} {a : Act} {Q : Exit → Act → World → Prop}
/-- 'm[i]' of a map that is nil or not, inside a range over a function. -/
theorem opt_look_in (hg : o.guard = none) (m x : Operand) (t : TypeId) (hop : o.op = Op.lookup t m x false) (k e : TypeId) (q : IntKind) (hk : P.underlying k = some (.int q)) (ht : P.underlying t = some (.map k e)) (z : Value) (hz : (zeroValue e).run P w = .ok z w)
    (mb : Option Nat) (n : Nat) (f : Int → Option Value) (hm : a.eval m = .map mb) (h : MapOpt P k q w mb n f) (i : Int) (hx : a.eval x = .int q i) (hwf : (Lit.int q i).wf = true)
    (hK : wpListIn F nF P ops Q rest (a.put o.dst ((f i).getD z)) w) : wpListIn F nF P ops Q (o :: rest) a w := by
  rcases h with ⟨rfl, _, hf⟩ | ⟨b, rfl, D, hD, _, hh, ha⟩
  · refine wpListIn_plain hg fun K' hK' => ?_
    have hrun := Maps.look_nil (w := w) false (int_keyed hk) ht hz (keyOf_int_mk hk hwf)
    rw [hf i] at hK
    unfold Oper.wpIn
    refine ⟨by simp [Oper.about, hop], ?_⟩
    rw [Oper.semAt_plain F _ _ (by rw [hop]; intro c hc'; cases hc')]
    simp [execOp, hop, hm, hx, hrun, Result.andThen]
    exact hK' _ _ hK
  · refine wpListIn_plain hg fun K' hK' => ?_
    obtain ⟨v, ps, hrun, hv⟩ := hD.lookup (int_keyed hk) ht hz (zd := .held z) (zp := []) rfl (keyOf_int_mk hk hwf)
    have e1 := rawR_inv hv
    rw [at_of hh ha] at e1
    injection e1 with e1
    subst e1
    unfold Oper.wpIn
    refine ⟨by simp [Oper.about, hop], ?_⟩
    rw [Oper.semAt_plain F _ _ (by rw [hop]; intro c hc'; cases hc')]
    simp [execOp, hop, hm, hx, hrun, Result.andThen]
    exact hK' _ _ hK
end
/-- a change as it is told: its window, and its regions' rows. -/
structure CV where
  I : Int
  A : Option Addr
  n : Nat
  c : Nat
  B : Option Addr
  m : Nat
  d : Nat
def CV.cells (x : CV) : List Value := [.int .u32 x.I, .slice x.A x.n x.c, .slice x.B x.m x.d]
theorem CV.cells_len (x : CV) : x.cells.length = 3 := rfl
/-- something is new of it just where the places say so. -/
def CV.tells (V U : Int → Places) (S : Int → SH) (x : CV) : Prop := x.m = 0 ↔ ∀ a b, newP (V x.I) (U x.I) (S x.I).X (S x.I).Y (S x.I).F a b = false
/-- only changes' rows, and the box of their list, are written. -/
structure Kx (n0 : Nat) (A B : World) : Prop where
  below : Below n0 A B
  kept : ∀ (b : Nat) (cs : Array Value) (t : TypeId), A.heap[b]? = some (.cells cs t) → t ≠ 93 → t ≠ 116 → B.heap[b]? = some (.cells cs t)
section
variable {n0 : Nat} {A B C : World}
theorem Kx.refl (n0 : Nat) (A : World) : Kx n0 A A := ⟨Below.refl _ _, fun _ _ _ h _ _ => h⟩
theorem Kx.trans (h : Kx n0 A B) (k : Kx n0 B C) : Kx n0 A C := ⟨h.below.trans k.below, fun b cs t e h1 h2 => k.kept b cs t (h.kept b cs t e h1 h2) h1 h2⟩
theorem Kx.of_below (hn : n0 ≤ A.heap.size) (h : Below A.heap.size A B) : Kx n0 A B := ⟨h.mono hn, fun b cs t e _ _ => by
  have hlt := (Array.getElem?_eq_some_iff.1 e).1
  rw [h.block b hlt]
  exact e⟩
theorem Kx.blk (h : Kx n0 A B) {b : Nat} {t : TypeId} {cs : Array Value} (hb : Blk A b t cs) (h1 : t ≠ 93) (h2 : t ≠ 116) : Blk B b t cs := h.kept b cs t hb h1 h2
theorem Kx.putObj {w : World} (hn : n0 ≤ w.heap.size) (W : World) (l : Nat) (o o' : Obj) (hl : w.heap.size ≤ l) (he : W.heap[l]? = some o) (hc : o.isCells = false) (_ : o.isWalk = false) : Kx n0 W (W.putObj l o') :=
  ⟨belowK_b hn W l o o' hl he hc (by assumption), fun b cs t e _ _ => by
    have hne : b ≠ l := fun h => by
      subst h
      rw [he] at e
      injection e with e
      subst e
      cases hc
    rw [World.putObj_heap_other hne]
    exact e⟩
end
theorem own_blk1 {w : World} {B n e : Nat} {v : Value} {xs : List Value} (h : w.ownsRow B e 1 v n xs) (hn : 0 < n) : ∃ (g c : Nat) (cs : Array Value), v = .slice (some ⟨g, 0, none⟩) n c ∧ B ≤ g ∧ Blk w g e cs ∧ ∀ (j : Nat) (u : Value), xs[j]? = some u → cs[j]? = some u := by
  rcases h.2 with ⟨_, h0⟩ | ⟨g, cap, cur, e1, hb, hg, h1, h2, h3, h4⟩
  · omega
  · refine ⟨g, cap, cur, e1, hb, hg, fun j u hj => ?_⟩
    have hl := (List.getElem?_eq_some_iff.1 hj).1
    rw [← h4, List.getElem?_take] at hj
    split at hj
    · simpa using hj
    · cases hj
theorem RegT.same {A B : World} {u : Value} {P : Places} (h : RegT A u P) (hk : ∀ g cs, Blk A g 113 cs → Blk B g 113 cs) : RegT B u P := by
  obtain ⟨⟨out, ⟨A', c, e, hr, h2⟩, hp⟩, A2, n2, c2, e2, ht⟩ := h
  subst e
  have e3 : Value.slice A' out.length c = .slice A2 n2 c2 := by
    injection e2 with e2
    have := congrArg (fun q : Array Value => q[0]!) e2
    simpa using this
  injection e3 with e3 e4 e5
  subst e3 e4 e5
  rcases ht with h0 | ⟨g, cs, rfl, hb⟩
  · exact ⟨⟨out, ⟨_, _, rfl, ⟨rfl, fun hn => by omega⟩, h2⟩, hp⟩, _, _, _, rfl, .inl h0⟩
  · have hB := hk g cs hb
    refine ⟨⟨out, ⟨_, _, rfl, ⟨rfl, fun hn => ?_⟩, h2⟩, hp⟩, _, _, _, rfl, .inr ⟨g, cs, rfl, hB⟩⟩
    obtain ⟨b, off, e, _, hc⟩ := hr.2 hn
    injection e with e
    injection e with e6 e7 _
    subst e6 e7
    have hm : ∀ o v', A.cell? ⟨g, o, none⟩ = some v' → B.cell? ⟨g, o, none⟩ = some v' := fun o v' hv => (hB.cell o).trans ((hb.cell o).symm.trans hv)
    exact ⟨g, 0, rfl, hB.lt, fun i r hi => by
      obtain ⟨c0, c1, c2, c3⟩ := hc i r hi
      exact ⟨hm _ _ c0, hm _ _ c1, hm _ _ c2, hm _ _ c3⟩⟩
/-- a change's regions, as they lie. -/
def CV.At (x : CV) (W : World) (V U : Int → Places) (S : Int → SH) : Prop :=
  RegT W (.agg #[.slice x.A x.n x.c]) (keptP (V x.I) (U x.I) (S x.I).X (S x.I).Y (S x.I).F) ∧ RegT W (.agg #[.slice x.B x.m x.d]) (newP (V x.I) (U x.I) (S x.I).X (S x.I).Y (S x.I).F)
theorem CV.At.kx {x : CV} {A B : World} {V U : Int → Places} {S : Int → SH} (h : x.At A V U S) {n0 : Nat} (k : Kx n0 A B) : x.At B V U S :=
  ⟨h.1.same fun _ _ hb => k.blk hb (by decide) (by decide), h.2.same fun _ _ hb => k.blk hb (by decide) (by decide)⟩
theorem tells_of {w : World} {i : Int} {A B : Option Addr} {n c m d : Nat} {V U : Int → Places} {S : Int → SH} (h : RegP w (.agg #[.slice B m d]) (newP (V i) (U i) (S i).X (S i).Y (S i).F)) : (CV.mk i A n c B m d).tells V U S := by
  obtain ⟨out, ⟨A', c', e, hr, hc, _⟩, hp⟩ := h
  have e1 : Value.slice B m d = Value.slice A' out.length c' := by
    injection e with e
    have := congrArg (fun q : Array Value => q[0]!) e
    simpa using this
  injection e1 with _ e2 _
  show m = 0 ↔ _
  constructor
  · intro h0 a b
    dsimp only
    rw [← hp, List.length_eq_zero_iff.1 (show out.length = 0 by omega)]
    rfl
  · intro h0
    have : out = [] := no_places hc (fun x y hxy => by
      have h1 := (inB_iff out x y).2 hxy
      rw [hp] at h1
      rw [h0] at h1
      cases h1)
    rw [e2, this]
    rfl
set_option maxRecDepth 100000 in
set_option maxHeartbeats 4000000 in
theorem changes1_tells (nf : Nat) (hn : 1 ≤ nf) (we w : World) {Aa Ab : Option Addr} {na ca nb cb : Nat} {ma mb : Option Nat} {V U : Int → Places} (ord : List Int) (mm : Option Nat) (nm : Nat) (f : Int → Option Value) (S : Int → SH) (bw bn bm : Nat)
    (hbe : Below we.heap.size we w) (ha : VisAt we (.agg #[.slice Aa na ca, .map ma]) V) (hb : VisAt we (.agg #[.slice Ab nb cb, .map mb]) U)
    (hwin : ∀ W : World, Below we.heap.size we W → Calls Tryz.prog 26 #[.agg #[.slice Ab nb cb, .map mb]] W fun e w' => ∃ u, e = .returned u ∧ w'.ownsRow W.heap.size 49 1 u ord.length (U32 ord) ∧ Below W.heap.size W w')
    (hord : (∀ i ∈ ord, 0 ≤ i ∧ i ≤ 4294967295) ∧ ord.length ≤ 1001) (hm : MapOpt Tryz.prog 49 .u32 we mm nm f) (hS : ∀ i, (f i).getD (.agg #[.int .i64 0, .int .i64 0, .bool false]) = .agg #[.int .i64 (S i).X, .int .i64 (S i).Y, .bool (S i).F]) (hSb : ∀ i, (-128 ≤ (S i).X ∧ (S i).X ≤ 127) ∧ -128 ≤ (S i).Y ∧ (S i).Y ≤ 127)
    (kw : Blk w bw 43 #[.slice Aa na ca, .map ma]) (kn : Blk w bn 43 #[.slice Ab nb cb, .map mb]) (km : Blk w bm 115 #[.map mm]) :
    SeqTells Fence.wide nf Tryz.prog 154 #[.pointer (some ⟨bn, 0, none⟩), .pointer (some ⟨bw, 0, none⟩), .pointer (some ⟨bm, 0, none⟩)] (fun x : CV => #[Value.agg #[.int .u32 x.I, .slice x.A x.n x.c, .slice x.B x.m x.d]]) (Kx we.heap.size)
      (fun x W => x.At W V U S) (fun ys => ys.map CV.I = ord) ord.length w := by
  intro l J W hW hJ hY h0
  have HA := Lib.hid ha
  have HC := Lib.hid hb
  have HWN := Lib.hid hwin
  have HOD := Lib.hid hord
  have HMM := Lib.hid hm
  have HS := Lib.hid hS
  have HSB := Lib.hid hSb
  have HBE := Lib.hid (bstep hbe hW)
  have HKW := Lib.hid (kw.belowS hW)
  have HKN := Lib.hid (kn.belowS hW)
  have HKM := Lib.hid (km.belowS hW)
  have HJ := Lib.hid hJ
  have HY := Lib.hid hY
  clear ha hb hwin hord hm hS hSb hbe kw kn km hJ hY hW
  have zS : ∀ w : World, (zeroValue 88).run Tryz.prog w = .ok (.agg #[.int .i64 0, .int .i64 0, .bool false]) w := fun w => by kernel_rfl
  refine callsIn_of_wp Tryz.func154 rfl trivial ?_ rfl
  simp only [Tryz.ntmps154, List.size_toArray, List.length_cons, List.length_nil, Nat.reduceAdd, Nat.reduceSub, Array.replicate_succ, Array.replicate_zero, List.push_toArray, List.append_toArray, List.nil_append, List.cons_append]
  have q0 := HKN.out.cellV (i := 0) (v := .slice Ab nb cb) rfl
  have q1 := HKN.out.cellV (i := 1) (v := .map mb) rfl
  gi_wp2_with fail
  refine ⟨trivial, (callsIn_wide.2 (HWN.out _ HBE.out)).mono ?_⟩
  rintro e w1 ⟨u, rfl, ho, hb1⟩
  obtain ⟨Ai, ci, rfl, _⟩ := own_form ho
  obtain ⟨N, hN⟩ : ∃ N, ord.length = N := ⟨_, rfl⟩
  have HNN := Lib.hid hN
  have hJ1 := HJ.out _ _ _ none h0 (grown_of_below hb1 none) (by simp)
  rw [hN] at ho ⊢
  have HO := Lib.hid ho
  have HJ1 := Lib.hid hJ1
  have HK1 := Lib.hid (bstep HBE.out hb1)
  replace HKW := Lib.hid (HKW.out.belowS hb1)
  replace HKN := Lib.hid (HKN.out.belowS hb1)
  replace HKM := Lib.hid (HKM.out.belowS hb1)
  have hno := HOD.out.2
  clear q0 q1 ho hb1 hN hJ1 h0
  gi_wp2_with fail
  gi_loopw [10] (fun i wr => ∃ (k : Nat) (pre : List CV), i = .int .i64 k ∧ k ≤ N ∧ pre.map CV.I = ord.take k ∧ J pre wr ∧ Kx we.heap.size w1 wr) (fun i _ => N - (intOf i).toNat)
  case atStart => exact ⟨0, [], rfl, by omega, rfl, HJ1.out, Kx.refl _ _⟩
  case round =>
    obtain ⟨k, pre, rfl, hk, hpre, hJk, hKx⟩ := hrel
    have HPRE := Lib.hid hpre
    have HJK := Lib.hid hJk
    have HKX := Lib.hid hKx
    clear hpre hJk hKx
    by_cases hlt : k < N
    · obtain ⟨i, hi⟩ : ∃ i, ord[k]? = some i := ⟨_, List.getElem?_eq_getElem (by have := HNN.out; omega)⟩
      have HI := Lib.hid (HOD.out.1 i (List.mem_of_getElem? hi))
      have HTK := Lib.hid (take_snocI' hi)
      obtain ⟨g, ci', cs, e1, hg, hbk, hcs⟩ := own_blk1 HO.out (by omega)
      injection e1 with e1 _ e2
      subst e1 e2
      have r0 := (HKX.out.blk hbk (by decide) (by decide)).cellV (hcs k (.int .u32 i) (by simp [U32, hi]))
      have w0 := (HKX.out.blk HKW.out (by decide) (by decide)).cellV (i := 0) (v := .slice Aa na ca) rfl
      have w1' := (HKX.out.blk HKW.out (by decide) (by decide)).cellV (i := 1) (v := .map ma) rfl
      have n0 := (HKX.out.blk HKN.out (by decide) (by decide)).cellV (i := 0) (v := .slice Ab nb cb) rfl
      have n1 := (HKX.out.blk HKN.out (by decide) (by decide)).cellV (i := 1) (v := .map mb) rfl
      have m0 := (HKX.out.blk HKM.out (by decide) (by decide)).cellV (i := 0) (v := .map mm) rfl
      have k1 : (k : Int) < (N : Int) := by omega
      have k0 : (0 : Int) ≤ (k : Int) := by omega
      have HWR := Lib.hid (show Below we.heap.size we wr from HK1.out.trans HKX.out.below)
      have HWF := Lib.hid (u32_wf HI.out)
      clear hi hg hbk hcs
      gi_wp2_with (gi_at_lookup; refine opt_look_in rfl _ _ 115 rfl 49 88 .u32 Tryz.underlying49 Tryz.underlying115 (.agg #[.int .i64 0, .int .i64 0, .bool false]) (zS _) mm nm f rfl (HMM.out.below HWR.out) i rfl HWF.out ?_; rw [HS.out i])
      refine ⟨trivial, (callsIn_wide.2 (one_anyT i (S i).X (S i).Y (S i).F (HA.out.below HWR.out) (HC.out.below HWR.out) HI.out (HSB.out i))).mono ?_⟩
      rintro e w2 ⟨A, n, c, B, m, d, rfl, hk', hn', hb2⟩
      have hJ2 := HJ.out _ _ _ none HJK.out (grown_of_below hb2 none) (by simp)
      obtain ⟨fn, tmps, assign, body, hy, hR⟩ := HY.out pre ⟨i, A, n, c, B, m, d⟩ w2 hJ2 ⟨hk', hn'⟩ (by have h1 := congrArg List.length HPRE.out; rw [List.length_map, List.length_take] at h1; have := HNN.out; omega)
      have HR := Lib.hid hR
      have HB2 := Lib.hid hb2
      clear hR hJ2 hb2 hn' hk' r0 w0 w1' n0 n1 m0
      gi_wp2_with fail
      refine HR.out.mono ?_
      rintro e W3 ⟨rfl, hJ3, hk3⟩
      have HJ3 := Lib.hid hJ3
      have HK3 := Lib.hid (HKX.out.trans ((Kx.of_below HWR.out.size HB2.out).trans hk3))
      clear hJ3 hk3
      have hkb : N ≤ 1001 := by rw [← HNN.out]; exact hno
      gi_wp2_with fail
      go_roundw
      case rel => exact ⟨k + 1, _, by go_num, by omega, by rw [List.map_append, HPRE.out, HTK.out]; rfl, HJ3.out, HK3.out⟩
      case measure => simp [intOf]; omega
    · obtain rfl : k = N := by omega
      gi_wp2_with fail
      go_end0
      exact ⟨⟨_, rfl⟩, _, by rw [HPRE.out, List.take_of_length_le (by rw [HNN.out]; exact Nat.le_refl _)], HJK.out⟩
end Go.Proofs.YtbkkecijcijhdaaGreat
end
