/-
  Laws for regions that draw: a struct that is built; what stays where another block is written whole.
  A canvas: its items; the walk of maps.Copy at items, and of a canvas's with.
  The walks of a canvas's add, Open, Grid and Lay.
-/
import Derived.Test.YtdaedkolpfkdjaaGreatZT04
import Derived.Great.BuildSlice
import Derived.Test.YtdaedkolpfkdjaaGreatZT03
import Derived.Test.YtdaedkolpfkdjaaGreatZT01
import Derived.Test.YtdaedkolpfkdjaaGreatZT24
section
namespace Go.Proofs.YtdaedkolpfkdjaaGreat
open Go.RowKit Go.Maps Go.Shelf

/-- the cells that an operation builds. -/
def bldOf (P : Program) (ρ : Operand → Value) (o : Oper) : Option (Array Value) := match o.op with
  | .build t ps => P.built t (ps.toList.map fun q => (q.1, ρ q.2))
  | _ => none
theorem y_build {P : Program} {ρ : Operand → Value} {o : Oper} {cells : Array Value} {w : World} (h : bldOf P ρ o = some cells) : (execOp ρ o).run P w = .ok (.value (.agg cells)) w := by
  unfold bldOf at h
  split at h
  · rename_i t ps ho
    unfold execOp
    rw [ho]
    have h2 : P.built t (ps.map fun (i, x) => (i, ρ x)).toList = some cells := by rw [Array.toList_map]; exact h
    simp only [Sem.run_bind, run_build w t _ cells h2, Result.andThen_ok, Sem.run_pure]
  · cases h
end Go.Proofs.YtdaedkolpfkdjaaGreat
end

section
namespace Go.Proofs.YtdaedkolpfkdjaaGreat
open Go.RowKit Go.Maps Go.Shelf

/-- an item: its grid, its ground, whether it is a window's, whether it has a backing; its pixels. -/
structure IT where
  W : Nat
  H : Nat
  A : Option Addr
  n : Nat
  c : Nat
  G : Int
  win : Bool
  back : Bool
  px : List Int
def IT.v (i : IT) : Value := .agg #[.int .i64 i.W, .int .i64 i.H, .slice i.A i.n i.c, .int .u8 i.G, .bool i.win, .bool i.back]
def zIT : IT := ⟨0, 0, none, 0, 0, 0, false, false, []⟩
structure IT.ok (w : World) (i : IT) : Prop where
  rd : Rd w i.A i.n (Gr.U8 i.px)
  area : i.n = i.W * i.H
  wide : i.W ≤ 128
  high : i.H ≤ 128
  cap : i.n ≤ i.c
  pix : Gr.Pix i.px
theorem IT.ok.below {w w' : World} {i : IT} (h : i.ok w) (hb : Below w.heap.size w w') : i.ok w' := ⟨h.rd.below hb, h.area, h.wide, h.high, h.cap, h.pix⟩
abbrev Its := Int → Option IT
def Its.f (cs : Its) : Int → Option Value := fun i => (cs i).map IT.v
/-- a canvas: n items. -/
def CanvasIs (w : World) (v : Value) (n : Nat) (cs : Its) : Prop := ∃ mb, v = .agg #[.map mb] ∧ MapOpt Tryz.prog 48 .u32 w mb n cs.f ∧ ∀ i it, cs i = some it → it.ok w
theorem CanvasIs.below {w w' : World} {v : Value} {n : Nat} {cs : Its} (h : CanvasIs w v n cs) (hb : Below w.heap.size w w') : CanvasIs w' v n cs := by
  obtain ⟨mb, e, h1, h2⟩ := h
  exact ⟨mb, e, h1.below hb, fun i it hi => (h2 i it hi).below hb⟩
theorem canvas_nil (w : World) : CanvasIs w (.agg #[.map none]) 0 (fun _ => none) := ⟨none, rfl, .inl ⟨rfl, rfl, fun _ => rfl⟩, fun i it h => by cases h⟩
theorem canvas_get (cs : Its) (i : Int) : (cs.f i).getD zIT.v = ((cs i).getD zIT).v := by
  unfold Its.f
  cases cs i <;> rfl
theorem canvas_has (cs : Its) (i : Int) : (cs.f i).isSome = (cs i).isSome := by unfold Its.f; simp
theorem Tryz.zeroItem (w : World) : (zeroValue 225).run Tryz.prog w = .ok zIT.v w := by kernel_rfl

set_option maxRecDepth 100000 in
set_option maxHeartbeats 1000000 in
theorem copyit_nil (bd : Nat) (w : World) :
    Calls Tryz.prog 121 #[.map (some bd), .map none] w fun e w' => e = .returned (.tuple #[]) ∧ w' = w.alloc (.mapIter none 0 #[] 0) := by
  have hrg := run_range_nilMap (P := Tryz.prog) w 65 _ _ Tryz.underlying65
  have hnx : ∀ ty, (Instr.next (.pointer (some ⟨w.heap.size, 0, none⟩)) false ty).run Tryz.prog (w.alloc (.mapIter none 0 #[] 0)) = _ := fun ty => run_next_nilMap _ ty 0 0 #[]
  go_enter Tryz.func121, Tryz.ntmps121
  go_wp2
  refine wp_loop_rounds 1 ?_
  rw [rounds_succ]
  go_wp2
  go_end0
  exact ⟨rfl, rfl⟩

set_option maxRecDepth 100000 in
set_option maxHeartbeats 1000000 in
theorem copyit_some (bd bs n : Nat) (cs : Its) (w : World) (hd : MapIs Tryz.prog 48 .u32 w bd 0 (fun _ => none)) (hs : MapIs Tryz.prog 48 .u32 w bs n cs.f) (hn : n ≤ 100000) (hne : bd ≠ bs) :
    Calls Tryz.prog 121 #[.map (some bd), .map (some bs)] w fun e w' => e = .returned (.tuple #[]) ∧ MapIs Tryz.prog 48 .u32 w' bd n cs.f ∧ w.grownBy w' (some bd) := by
  have hbd := hd.lt
  have hbs := hs.lt
  go_enter Tryz.func121, Tryz.ntmps121
  go_wp2_with (first
    | (at_range; refine map_range rfl _ 65 rfl 48 225 .u32 Tryz.underlying48 Tryz.underlying65 bs n cs.f rfl hs ?_; intro w0 hrg0 hg0 hs0))
  go_frame
  go_loopw [8] (fun _ wr => ∃ (left : Int → Bool) (cnt m : Nat) (fo : Int → Option Value), MapRange Tryz.prog 48 .u32 wr bs w.heap.size n cs.f left cnt ∧ m + cnt ≤ n ∧
      MapIs Tryz.prog 48 .u32 wr bd m fo ∧ (∀ i, left i = false → fo i = cs.f i) ∧ (∀ i, left i = true → fo i = none) ∧ w.grownBy wr (some bd))
    (fun _ wr => wr.rangeLeft bs w.heap.size)
  case atStart =>
    exact ⟨_, _, 0, _, hrg0, by omega, hd.kept hg0 (by simp), (fun i hi => by cases h : cs.f i <;> simp [h] at hi ⊢), (fun i _ => rfl), hg0.but _⟩
  case round =>
    obtain ⟨left, cnt, m, fo, hrg, hcs, hout, hL0, hL1, hgw⟩ := hrel
    go_wp2_with (first
      | (at_next; refine map_next rfl _ rfl 48 .u32 Tryz.underlying48 bs w.heap.size n cs.f left cnt rfl hrg ?_ ?_))
    · intro hc0 hl0
      go_wp2
      go_end0
      have e : fo = cs.f := funext fun i => hL0 i (hl0 i)
      subst e
      have e2 := hout.size_uniq Tryz.underlying48 hrg.is
      subst e2
      exact ⟨rfl, hout, hgw⟩
    · intro i v w1 cnt1 hwf hli hfi hrg1 hlt hg1 hs1 hen
      have hout1 := hout.kept hg1 (fun e => by have := Option.some.inj e; omega)
      have hno : (fo i).isSome = false := by rw [hL1 i hli]; rfl
      have hfi2 := hfi
      unfold Its.f at hfi2
      rw [Option.map_eq_some_iff] at hfi2
      obtain ⟨it, hit, rfl⟩ := hfi2
      obtain ⟨iW, iH, iA, inn, ic, iG, iw, ib, ip⟩ := it
      unfold IT.v at hen
      dsimp only at hen
      have hout2 := hout1.alloc (.cells #[.int .i64 iW, .int .i64 iH, .slice iA inn ic, .int .u8 iG, .bool iw, .bool ib] 225)
      have hrg2 := hrg1.kept (World.grownBy_alloc w1 (.cells #[.int .i64 iW, .int .i64 iH, .slice iA inn ic, .int .u8 iG, .bool iw, .bool ib] 225) none) (by simp) (by simp)
      have hg2 := World.grownBy_alloc w1 (.cells #[.int .i64 iW, .int .i64 iH, .slice iA inn ic, .int .u8 iG, .bool iw, .bool ib] 225) none
      have xk := Blk.new w1 225 #[.int .i64 iW, .int .i64 iH, .slice iA inn ic, .int .u8 iG, .bool iw, .bool ib]
      go_upto_region 3 with fail
      rw [hs1] at xk
      obtain ⟨w3, hw3⟩ : ∃ w3, w1.alloc (.cells #[.int .i64 iW, .int .i64 iH, .slice iA inn ic, .int .u8 iG, .bool iw, .bool ib] 225) = w3 := ⟨_, rfl⟩
      rw [hw3] at hout2 hrg2 hg2 xk ⊢
      have x0 := xk.cellV (i := 0) (v := .int .i64 iW) rfl
      have x1 := xk.cellV (i := 1) (v := .int .i64 iH) rfl
      have x2 := xk.cellV (i := 2) (v := .slice iA inn ic) rfl
      have x3 := xk.cellV (i := 3) (v := .int .u8 iG) rfl
      have x4 := xk.cellV (i := 4) (v := .bool iw) rfl
      have x5 := xk.cellV (i := 5) (v := .bool ib) rfl
      clear hw3
      go_wp2_with (first
        | (at_mapUpdate; refine map_put rfl _ _ _ 65 rfl 48 225 .u32 Tryz.underlying48 Tryz.underlying65 bd m fo rfl hout2 (by simp only [maxLen]; omega) i (.agg #[.int .i64 iW, .int .i64 iH, .slice iA inn ic, .int .u8 iG, .bool iw, .bool ib]) rfl rfl hwf ?_; intro w4 hout4 hg4; rw [hno] at hout4; go_frame))
      have hrg4 := hrg2.kept hg4 (fun e => hne (Option.some.inj e).symm) (fun e => by have := Option.some.inj e; omega)
      go_roundw
      case rel =>
        refine ⟨_, cnt1, m + 1, _, hrg4, by omega, hout4, ?_, ?_, ((hgw.andThen hg1 (fun j hj => .inl (by cases hj; exact Nat.le_refl _))).andThen hg2 (fun j hj => by cases hj)).andThen hg4 (fun j hj => .inr hj)⟩
        · intro j hj
          by_cases e : j = i
          · subst e
            simp [hfi, IT.v]
          · simp only [e, if_false]
            exact hL0 j (by simpa [e] using hj)
        · intro j hj
          simp only [Bool.and_eq_true, Bool.not_eq_true', decide_eq_false_iff_not] at hj
          simp only [hj.2, if_false]
          exact hL1 j hj.1
      case measure => rw [hrg4.left_eq, hrg.left_eq]; exact hlt

theorem copyit_any (bd n : Nat) (mu : Option Nat) (cs : Its) (w : World) (hd : MapIs Tryz.prog 48 .u32 w bd 0 (fun _ => none)) (hs : MapOpt Tryz.prog 48 .u32 w mu n cs.f) (hn : n ≤ 100000) (hne : mu ≠ some bd) :
    Calls Tryz.prog 121 #[.map (some bd), .map mu] w fun e w' => e = .returned (.tuple #[]) ∧ MapIs Tryz.prog 48 .u32 w' bd n cs.f ∧ w.grownBy w' (some bd) := by
  rcases hs with ⟨rfl, rfl, hf⟩ | ⟨bs, rfl, h⟩
  · refine (copyit_nil bd w).mono fun e w' ⟨he, hw⟩ => ?_
    subst hw
    have e : cs.f = fun _ => none := funext hf
    rw [e]
    exact ⟨he, hd.alloc _, World.grownBy_alloc w _ _⟩
  · exact copyit_some bd bs n cs w hd h hn (fun e => hne (by rw [e]))

theorem run_makeMapH {P : Program} {t k e : TypeId} (hu : P.underlying t = some (.map k e)) (w : World) (kd : IntKind) (m : Int) : (Instr.makeMap t (some (.int kd m))).run P w = .ok (.map (some w.heap.size)) (w.alloc (.map #[] 0)) := by
  simp [Instr.makeMap, run_underlying hu, asInt, asIntOf, Result.andThen]
theorem blk_newX3 (w : World) (o1 o2 : Obj) (t : TypeId) (cs : Array Value) : Blk (((w.alloc o1).alloc o2).alloc (.cells cs t)) (w.heap.size + 1 + 1) t cs := by
  have h := Blk.new ((w.alloc o1).alloc o2) t cs
  rwa [World.size_alloc, World.size_alloc] at h
/-- an item is laid. -/
def Its.put (cs : Its) (id : Int) (it : IT) : Its := fun j => if j = id then some it else cs j
theorem Its.put_f (cs : Its) (id : Int) (it : IT) : (cs.put id it).f = fun j => if j = id then some it.v else cs.f j := by
  funext j
  unfold Its.f Its.put
  by_cases e : j = id <;> simp [e]
set_option maxRecDepth 100000 in
set_option maxHeartbeats 2000000 in
theorem cwith_any (v : Value) (n : Nat) (cs : Its) (id : Int) (it : IT) (w : World) (hid : 0 ≤ id ∧ id ≤ 4294967295) (h : CanvasIs w v n cs) (hit : it.ok w) (hn : n ≤ 100000) :
    Calls Tryz.prog 122 #[v, .int .u32 id, it.v] w fun e w' => ∃ mb', e = .returned (.agg #[.map (some mb')]) ∧ CanvasIs w' (.agg #[.map (some mb')]) (if (cs id).isSome then n else n + 1) (cs.put id it) ∧ w.heap.size ≤ mb' ∧ Below w.heap.size w w' := by
  obtain ⟨mb, rfl, hm, hc⟩ := h
  obtain ⟨nn, hnn⟩ : ∃ nn, (if (cs id).isSome = true then n else n + 1) = nn := ⟨_, rfl⟩
  have hnn2 := hnn
  rw [← canvas_has] at hnn2
  rw [hnn]
  have HNN := Lib.hid hnn2
  clear hnn hnn2
  obtain ⟨iW, iH, iA, inn, ic, iG, iw, ib, ip⟩ := it
  unfold IT.v
  dsimp only
  have HC := Lib.hid hc
  have HI := Lib.hid hit
  have HM := Lib.hid hm
  have HWF := Lib.hid (u32_wf hid)
  have hnw : IntKind.i64.wrap ((n : Int) + 1) = (n : Int) + 1 := IntWalk.i64_in _ (by omega)
  clear hc hit hm
  go_enter Tryz.func122, Tryz.ntmps122
  have xb := bal (bal (bal (bre w) (.cells #[.map mb] 67)) (.cells #[.int .i64 iW, .int .i64 iH, .slice iA inn ic, .int .u8 iG, .bool iw, .bool ib] 225)) (.cells #[.map none] 67)
  have x0 := ((Blk.new w 67 #[.map mb]).alloc (.cells #[.int .i64 iW, .int .i64 iH, .slice iA inn ic, .int .u8 iG, .bool iw, .bool ib] 225)).alloc (.cells #[.map none] 67)
  have x1 := (blk_new2 w (.cells #[.map mb] 67) 225 #[.int .i64 iW, .int .i64 iH, .slice iA inn ic, .int .u8 iG, .bool iw, .bool ib]).alloc (.cells #[.map none] 67)
  have x2 := blk_newX3 w (.cells #[.map mb] 67) (.cells #[.int .i64 iW, .int .i64 iH, .slice iA inn ic, .int .u8 iG, .bool iw, .bool ib] 225) 67 #[.map none]
  go_upto_region 1 with fail
  obtain ⟨X, hX⟩ : ∃ X, ((w.alloc (.cells #[.map mb] 67)).alloc (.cells #[.int .i64 iW, .int .i64 iH, .slice iA inn ic, .int .u8 iG, .bool iw, .bool ib] 225)).alloc (.cells #[.map none] 67) = X := ⟨_, rfl⟩
  rw [hX] at xb x0 x1 x2 ⊢
  have HB := Lib.hid xb
  have K0 := Lib.hid x0
  have K1 := Lib.hid x1
  have K2 := Lib.hid x2
  have HM1 := Lib.hid (HM.out.below xb)
  have p0 := x0.cellV (i := 0) (v := .map mb) rfl
  clear xb x0 x1 x2 hX
  have hmk : ∀ m : Int, (Instr.makeMap 65 (some (.int .i64 m))).run Tryz.prog X = .ok (.map (some X.heap.size)) (X.alloc (.map #[] 0)) := fun m => run_makeMapH Tryz.underlying65 X .i64 m
  go_upto_region 2 with (first
    | (at_len; refine opt_len rfl _ 65 rfl 48 225 .u32 Tryz.underlying65 mb n cs.f rfl HM1.out ?_)
    | (simp only))
  have xb := bal HB.out (.map #[] 0)
  have xm := HM1.out.below (bal (bre X) (.map #[] 0))
  have x0 := K0.out.alloc (.map #[] 0)
  have x1 := K1.out.alloc (.map #[] 0)
  have x2 := K2.out.alloc (.map #[] 0)
  have xn := MapIs.made (P := Tryz.prog) (k := 48) (q := .u32) X
  have hlt2 := K2.out.lt
  have hml : ∀ b, mb = some b → b < X.heap.size := fun b e => by
    rcases HM1.out with ⟨e', _⟩ | ⟨b', e', h⟩
    · rw [e'] at e; cases e
    · rw [e'] at e; cases e; exact h.lt
  have hbs := HB.out.size
  obtain ⟨g, hg⟩ : ∃ g, X.heap.size = g := ⟨_, rfl⟩
  obtain ⟨X2, hX2⟩ : ∃ X2, X.alloc (.map #[] 0) = X2 := ⟨_, rfl⟩
  rw [hX2] at xb xm x0 x1 x2 xn ⊢
  rw [hg] at xn hlt2 hml hbs ⊢
  replace HB := Lib.hid xb
  replace K0 := Lib.hid x0
  replace K1 := Lib.hid x1
  replace K2 := Lib.hid x2
  have HM2 := Lib.hid xm
  have HN2 := Lib.hid xn
  have q0 := x0.cellV (i := 0) (v := .map mb) rfl
  clear xb xm x0 x1 x2 xn hX2 hmk p0 HM1 hg
  go_wp2_with fail
  refine (copyit_any g n mb cs X2 HN2.out HM2.out hn (fun e => by have := hml _ e; omega)).mono ?_
  rintro e w3 ⟨rfl, hm3, hg3⟩
  have HM3 := Lib.hid hm3
  have HG3 := Lib.hid hg3
  have x1 := K1.out.grown hg3 (fun e => by injection e with e; have := K1.out.lt; omega)
  have x2 := K2.out.grown hg3 (fun e => by injection e with e; omega)
  replace K2 := Lib.hid x2
  have q0' := x1.cellV (i := 0) (v := .int .i64 iW) rfl
  have q1 := x1.cellV (i := 1) (v := .int .i64 iH) rfl
  have q2 := x1.cellV (i := 2) (v := .slice iA inn ic) rfl
  have q3 := x1.cellV (i := 3) (v := .int .u8 iG) rfl
  have q4 := x1.cellV (i := 4) (v := .bool iw) rfl
  have q5 := x1.cellV (i := 5) (v := .bool ib) rfl
  clear hm3 hg3 x2 q0
  go_wp2_with (first
    | (at_mapUpdate; refine map_put rfl _ _ _ 65 rfl 48 225 .u32 Tryz.underlying48 Tryz.underlying65 g n cs.f rfl HM3.out (by simp only [maxLen]; omega) id (.agg #[.int .i64 iW, .int .i64 iH, .slice iA inn ic, .int .u8 iG, .bool iw, .bool ib]) rfl rfl HWF.out ?_; intro w4 hm4 hg4; have HM4 := Lib.hid hm4; have HG4 := Lib.hid hg4; have x2 := K2.out.grown hg4 (fun e => by injection e with e; omega); have r0 := x2.cellV (i := 0) (v := .map none) rfl; have rf := x2.frozen 0; have rl := x2.lt; have K24 := Lib.hid x2; clear hm4 hg4 x2; go_frame))
  have h4 := HM4.out
  rw [HNN.out] at h4
  have hb9 := K24.out.set_ 0 (.map (some g))
  have hr := hb9.cellV (i := 0) (v := .map (some g)) rfl
  have hB4 := (HB.out.grown HG3.out HB.out.size (fun q e => by cases e; omega)).grown HG4.out (by have := HG3.out.size; have := HB.out.size; omega) (fun q e => by cases e; omega)
  have hB5 := bset hB4 (p := ⟨w.heap.size + 1 + 1, 0, none⟩) (by show w.heap.size ≤ w.heap.size + 1 + 1; omega) (.map (some g))
  refine bodyPost_ret (v := .agg #[.map (some g)]) (by simp [results, Tryz.results122, go_sem, hr]) rfl ⟨g, rfl, ⟨some g, rfl, .inr ⟨g, rfl, ?_⟩, fun i it hi => ?_⟩, by omega, hB5⟩
  · rw [Its.put_f]
    exact h4.setCell (by show g ≠ w.heap.size + 1 + 1; omega) _
  · unfold Its.put at hi
    by_cases e : i = id
    · rw [if_pos e] at hi
      injection hi with hi
      subst hi
      exact HI.out.below hB5
    · rw [if_neg e] at hi
      exact (HC.out i it hi).below hB5
end Go.Proofs.YtdaedkolpfkdjaaGreat
end

section
namespace Go.Proofs.YtdaedkolpfkdjaaGreat
open Go.RowKit Go.Maps Go.Shelf

theorem pix_rep {G : Int} (hG : 0 ≤ G ∧ G ≤ 255) (m : Nat) : Gr.Pix (List.replicate m G) := fun p hp => by
  have := List.eq_of_mem_replicate hp
  omega
/-- a store into a block without numbers leaves a canvas. -/
theorem rd_noint {w : World} {A : Option Addr} {n : Nat} {px : List Int} (h : Rd w A n (Gr.U8 px)) {B : Nat} {t : TypeId} {cs : Array Value} (hB : Blk w B t cs) (hno : ∀ (j : Nat) (k : IntKind) (x : Int), cs[j]? ≠ some (.int k x)) (i : Nat) (u : Value) : Rd (w.setCell ⟨B, i, none⟩ u) A n (Gr.U8 px) := by
  refine h.far' (p := ⟨B, i, none⟩) (fun hn a ha e => ?_) u
  obtain ⟨b, off, e1, _, hc⟩ := h.2 hn
  rw [e1] at ha
  cases ha
  dsimp only at e
  subst e
  have hl := h.1
  match px, hl with
  | [], hl => simp [Gr.U8] at hl; omega
  | x :: l, _ =>
    have := hc 0 (.int .u8 x) rfl
    rw [hB.cell] at this
    exact hno _ _ _ this
theorem CanvasIs.setX {w : World} {v : Value} {n : Nat} {cs : Its} (h : CanvasIs w v n cs) {B : Nat} {t : TypeId} {bs : Array Value} (hB : Blk w B t bs) (hno : ∀ (j : Nat) (k : IntKind) (x : Int), bs[j]? ≠ some (.int k x)) (i : Nat) (u : Value) : CanvasIs (w.setCell ⟨B, i, none⟩ u) v n cs := by
  obtain ⟨mb, e, h1, h2⟩ := h
  refine ⟨mb, e, h1.setBlk hB i u, fun j it hj => ?_⟩
  have h3 := h2 j it hj
  exact ⟨rd_noint h3.rd hB hno i u, h3.area, h3.wide, h3.high, h3.cap, h3.pix⟩
set_option maxRecDepth 100000 in
set_option maxHeartbeats 4000000 in
theorem cadd_ok (v : Value) (n : Nat) (cs : Its) (id : Int) (W H : Nat) (G : Int) (win back : Bool) (w : World) (hid : 0 ≤ id ∧ id ≤ 4294967295) (h : CanvasIs w v n cs) (hck : idC id = 0) (hW : 1 ≤ W ∧ W ≤ 128) (hH : 1 ≤ H ∧ H ≤ 128) (hG : 0 ≤ G ∧ G ≤ 255) (hno : cs id = none) (hn : n < 1025) :
    Calls Tryz.prog 116 #[v, .int .u32 id, .int .i64 W, .int .i64 H, .agg #[.int .i64 0, .int .i64 0, .slice none 0 0, .int .u8 G, .bool win, .bool back]] w fun e w' => ∃ mb' A' c', e = .returned (.tuple #[.agg #[.map (some mb')], .int .i64 0]) ∧ CanvasIs w' (.agg #[.map (some mb')]) (n + 1) (cs.put id ⟨W, H, A', W * H, c', G, win, back, List.replicate (W * H) G⟩) ∧ w.heap.size ≤ mb' ∧ Below w.heap.size w w' := by
  have hC := h
  obtain ⟨mb, rfl, hm, hc⟩ := h
  have HC := Lib.hid hC
  have HCK := Lib.hid hck
  have HM := Lib.hid hm
  have HWF := Lib.hid (u32_wf hid)
  have HNO := Lib.hid hno
  have HGG := Lib.hid (show (cs.f id).getD zIT.v = .agg #[.int .i64 0, .int .i64 0, .slice none 0 0, .int .u8 0, .bool false, .bool false] by rw [canvas_get, hno]; rfl)
  have HGS := Lib.hid (show (cs.f id).isSome = false by rw [canvas_has, hno]; rfl)
  have hnl : decide ((1025 : Int) ≤ (n : Int)) = false := decide_eq_false (by omega)
  have hng : decide ((n : Int) ≥ (1025 : Int)) = false := decide_eq_false (by omega)
  clear hC hm hc hck hno
  have xb := bal (bal (bal (bre w) (.cells #[.map mb] 67)) (.cells #[.int .i64 0, .int .i64 0, .slice none 0 0, .int .u8 G, .bool win, .bool back] 225)) (.cells #[.map none] 67)
  have x0 := ((Blk.new w 67 #[.map mb]).alloc (.cells #[.int .i64 0, .int .i64 0, .slice none 0 0, .int .u8 G, .bool win, .bool back] 225)).alloc (.cells #[.map none] 67)
  have x1 := (blk_new2 w (.cells #[.map mb] 67) 225 #[.int .i64 0, .int .i64 0, .slice none 0 0, .int .u8 G, .bool win, .bool back]).alloc (.cells #[.map none] 67)
  have x2 := blk_newX3 w (.cells #[.map mb] 67) (.cells #[.int .i64 0, .int .i64 0, .slice none 0 0, .int .u8 G, .bool win, .bool back] 225) 67 #[.map none]
  go_enter Tryz.func116, Tryz.ntmps116
  go_upto_region 1 with fail
  obtain ⟨X, hX⟩ : ∃ X, ((w.alloc (.cells #[.map mb] 67)).alloc (.cells #[.int .i64 0, .int .i64 0, .slice none 0 0, .int .u8 G, .bool win, .bool back] 225)).alloc (.cells #[.map none] 67) = X := ⟨_, rfl⟩
  rw [hX] at xb x0 x1 x2 ⊢
  have HB := Lib.hid xb
  have K0 := Lib.hid x0
  have K1 := Lib.hid x1
  have K2 := Lib.hid x2
  have p3 := x1.cellV (i := 3) (v := .int .u8 G) rfl
  clear xb x0 x1 x2 hX
  go_wp2_with (go_at_call 64; refine (check_any _ _ hid).mono ?_; rintro e w' ⟨rfl, rfl⟩; rw [HCK.out])
  refine (Gr.new_any W H G _ hW hH).mono ?_
  rintro e w1 ⟨A1, c1, rfl, hr1, hc1, hfr1, hb1⟩
  have hlx := K1.out.lt
  have HFA := Lib.hid (show ∀ a, A1 = some a → a.block ≠ w.heap.size + 1 from fun a e => by have := hfr1 a e; omega)
  have HR1 := Lib.hid hr1
  replace HB := Lib.hid (bstep HB.out hb1)
  replace K0 := Lib.hid (K0.out.belowS hb1)
  replace K1 := Lib.hid (K1.out.belowS hb1)
  replace K2 := Lib.hid (K2.out.belowS hb1)
  clear hr1 hb1 p3
  go_upto_region 5 with fail
  have xb := bal HB.out (.cells #[.int .i64 W, .int .i64 H, .slice A1 (W * H) c1] 75)
  have xr := HR1.out.below (bal (bre w1) (.cells #[.int .i64 W, .int .i64 H, .slice A1 (W * H) c1] 75))
  have x0 := K0.out.alloc (.cells #[.int .i64 W, .int .i64 H, .slice A1 (W * H) c1] 75)
  have x1 := K1.out.alloc (.cells #[.int .i64 W, .int .i64 H, .slice A1 (W * H) c1] 75)
  have x2 := K2.out.alloc (.cells #[.int .i64 W, .int .i64 H, .slice A1 (W * H) c1] 75)
  have x3 := Blk.new w1 75 #[.int .i64 W, .int .i64 H, .slice A1 (W * H) c1]
  have hlt2 := K2.out.lt
  obtain ⟨g, hg⟩ : ∃ g, w1.heap.size = g := ⟨_, rfl⟩
  obtain ⟨Y, hY⟩ : ∃ Y, w1.alloc (.cells #[.int .i64 W, .int .i64 H, .slice A1 (W * H) c1] 75) = Y := ⟨_, rfl⟩
  rw [hY] at xb xr x0 x1 x2 x3 ⊢
  rw [hg] at x3 hlt2 ⊢
  replace HB := Lib.hid xb
  replace HR1 := Lib.hid xr
  replace K0 := Lib.hid x0
  replace K1 := Lib.hid x1
  replace K2 := Lib.hid x2
  have K3 := Lib.hid x3
  have HMY := Lib.hid (HM.out.below xb)
  have hgy := x3.lt
  have p0 := x0.cellV (i := 0) (v := .map mb) rfl
  clear xb xr x0 x1 x2 x3 hY hg
  go_upto_region 10 with (at_lookup; refine opt_look_ok rfl _ _ 65 rfl 48 225 .u32 Tryz.underlying48 Tryz.underlying65 zIT.v (Tryz.zeroItem _) mb n cs.f rfl HMY.out id rfl HWF.out ?_; dsimp only; rw [HGG.out, HGS.out])
  have xb := bal HB.out (.cells #[.int .i64 0, .int .i64 0, .slice none 0 0, .int .u8 0, .bool false, .bool false] 225)
  have xr := HR1.out.below (bal (bre Y) (.cells #[.int .i64 0, .int .i64 0, .slice none 0 0, .int .u8 0, .bool false, .bool false] 225))
  have x0 := K0.out.alloc (.cells #[.int .i64 0, .int .i64 0, .slice none 0 0, .int .u8 0, .bool false, .bool false] 225)
  have x1 := K1.out.alloc (.cells #[.int .i64 0, .int .i64 0, .slice none 0 0, .int .u8 0, .bool false, .bool false] 225)
  have x2 := K2.out.alloc (.cells #[.int .i64 0, .int .i64 0, .slice none 0 0, .int .u8 0, .bool false, .bool false] 225)
  have x3 := K3.out.alloc (.cells #[.int .i64 0, .int .i64 0, .slice none 0 0, .int .u8 0, .bool false, .bool false] 225)
  obtain ⟨Z, hZ⟩ : ∃ Z, Y.alloc (.cells #[.int .i64 0, .int .i64 0, .slice none 0 0, .int .u8 0, .bool false, .bool false] 225) = Z := ⟨_, rfl⟩
  rw [hZ] at xb xr x0 x1 x2 x3 ⊢
  have HMZ := Lib.hid (HM.out.below xb)
  have p0' := x0.cellV (i := 0) (v := .map mb) rfl
  have p3 := x3.cellV (i := 0) (v := .int .i64 W) rfl
  have p4 := x3.cellV (i := 1) (v := .int .i64 H) rfl
  have p5 := x3.cellV (i := 2) (v := .slice A1 (W * H) c1) rfl
  have q0 := x1.cellV (i := 0) (v := .int .i64 0) rfl
  have q1 := x1.cellV (i := 1) (v := .int .i64 0) rfl
  have q2 := x1.cellV (i := 2) (v := .slice none 0 0) rfl
  have f0 := x1.frozen 0
  have f1 := x1.frozen 1
  have f2 := x1.frozen 2
  have l1 := x1.lt
  go_upto_region 13 with (at_len; refine opt_len rfl _ 65 rfl 48 225 .u32 Tryz.underlying65 mb n cs.f rfl HMZ.out ?_)
  have y1 := ((x1.set_ 0 (.int .i64 W)).set_ 1 (.int .i64 H)).set_ 2 (.slice A1 (W * H) c1)
  have n0 : w.heap.size ≠ w.heap.size + 1 := by omega
  have n2 : w.heap.size + 1 + 1 ≠ w.heap.size + 1 := by omega
  have y0 := ((x0.far (p := ⟨w.heap.size + 1, 0, none⟩) n0 (.int .i64 W)).far (p := ⟨w.heap.size + 1, 1, none⟩) n0 (.int .i64 H)).far (p := ⟨w.heap.size + 1, 2, none⟩) n0 (.slice A1 (W * H) c1)
  have y2 := ((x2.far (p := ⟨w.heap.size + 1, 0, none⟩) n2 (.int .i64 W)).far (p := ⟨w.heap.size + 1, 1, none⟩) n2 (.int .i64 H)).far (p := ⟨w.heap.size + 1, 2, none⟩) n2 (.slice A1 (W * H) c1)
  have yb := bset (bset (bset xb (p := ⟨w.heap.size + 1, 0, none⟩) (by show w.heap.size ≤ w.heap.size + 1; omega) (.int .i64 W)) (p := ⟨w.heap.size + 1, 1, none⟩) (by show w.heap.size ≤ w.heap.size + 1; omega) (.int .i64 H)) (p := ⟨w.heap.size + 1, 2, none⟩) (by show w.heap.size ≤ w.heap.size + 1; omega) (.slice A1 (W * H) c1)
  have yr := ((xr.far (p := ⟨w.heap.size + 1, 0, none⟩) HFA.out (.int .i64 W)).far (p := ⟨w.heap.size + 1, 1, none⟩) HFA.out (.int .i64 H)).far (p := ⟨w.heap.size + 1, 2, none⟩) HFA.out (.slice A1 (W * H) c1)
  obtain ⟨V, hV⟩ : ∃ V, ((Z.setCell ⟨w.heap.size + 1, 0, none⟩ (.int .i64 W)).setCell ⟨w.heap.size + 1, 1, none⟩ (.int .i64 H)).setCell ⟨w.heap.size + 1, 2, none⟩ (.slice A1 (W * H) c1) = V := ⟨_, rfl⟩
  rw [hV] at y0 y1 y2 yb yr ⊢
  have HBV := Lib.hid yb
  have HCV := Lib.hid (HC.out.below yb)
  have HRV := Lib.hid yr
  have K2V := Lib.hid y2
  have r0 := y0.cellV (i := 0) (v := .map mb) rfl
  have r1 := y1.cellV (i := 0) (v := .int .i64 W) rfl
  have r2 := y1.cellV (i := 1) (v := .int .i64 H) rfl
  have r3 := y1.cellV (i := 2) (v := .slice A1 (W * H) c1) rfl
  have r4 := y1.cellV (i := 3) (v := .int .u8 G) rfl
  have r5 := y1.cellV (i := 4) (v := .bool win) rfl
  have r6 := y1.cellV (i := 5) (v := .bool back) rfl
  clear y0 y1 y2 yb yr hV xb xr x0 x1 x2 x3 hZ p0 p0' p3 p4 p5 q0 q1 q2 f0 f1 f2 l1
  go_wp2_with fail
  have hit : IT.ok V ⟨W, H, A1, W * H, c1, G, win, back, List.replicate (W * H) G⟩ := ⟨HRV.out, rfl, hW.2, hH.2, hc1, pix_rep hG _⟩
  refine (cwith_any _ n cs id ⟨W, H, A1, W * H, c1, G, win, back, List.replicate (W * H) G⟩ _ hid HCV.out hit (by omega)).mono ?_
  rintro e w5 ⟨mb', rfl, hc5, hf5, hb5⟩
  rw [HNO.out] at hc5
  have HC5 := Lib.hid hc5
  have HB5 := Lib.hid (bstep HBV.out hb5)
  have x2 := K2V.out.belowS hb5
  have K25 := Lib.hid x2
  have s0 := x2.cellV (i := 0) (v := .map none) rfl
  have sf := x2.frozen 0
  have sl := x2.lt
  clear hc5 hb5 x2 hit
  go_wp2_with fail
  have hb9 := K25.out.set_ 0 (.map (some mb'))
  have hr := hb9.cellV (i := 0) (v := .map (some mb')) rfl
  have hbs := HBV.out.size
  refine bodyPost_ret (v := .tuple #[.agg #[.map (some mb')], .int .i64 0]) (by simp [results, Tryz.results116, go_sem, hr]) rfl ⟨mb', A1, c1, rfl, HC5.out.setX K25.out (fun j k x => by match j with | 0 => simp | j + 1 => simp) 0 _, by omega, bset HB5.out (p := ⟨w.heap.size + 1 + 1, 0, none⟩) (by show w.heap.size ≤ w.heap.size + 1 + 1; omega) _⟩
set_option maxRecDepth 100000 in
set_option maxHeartbeats 4000000 in
theorem copen_ok (v : Value) (n : Nat) (cs : Its) (id : Int) (W H : Nat) (G : Int) (back : Bool) (w : World) (hid : 0 ≤ id ∧ id ≤ 4294967295) (h : CanvasIs w v n cs) (hck : idC id = 0) (hW : 1 ≤ W ∧ W ≤ 128) (hH : 1 ≤ H ∧ H ≤ 128) (hG : 0 ≤ G ∧ G ≤ 255) (hno : cs id = none) (hn : n < 1025) :
    Calls Tryz.prog 62 #[v, .int .u32 id, .int .i64 W, .int .i64 H, .int .u8 G, .bool back] w fun e w' => ∃ mb' A' c', e = .returned (.tuple #[.agg #[.map (some mb')], .int .i64 0]) ∧ CanvasIs w' (.agg #[.map (some mb')]) (n + 1) (cs.put id ⟨W, H, A', W * H, c', G, true, back, List.replicate (W * H) G⟩) ∧ w.heap.size ≤ mb' ∧ Below w.heap.size w w' := by
  have hC := h
  obtain ⟨mb, rfl, _, _⟩ := h
  have HC := Lib.hid hC
  clear hC
  have xb := bal (bal (bre w) (.cells #[.map mb] 67)) (.cells #[.map none] 67)
  have x0 := (Blk.new w 67 #[.map mb]).alloc (.cells #[.map none] 67)
  have x1 := blk_new2 w (.cells #[.map mb] 67) 67 #[.map none]
  go_enter Tryz.func62, Tryz.ntmps62
  go_upto_region 1 with fail
  obtain ⟨X, hX⟩ : ∃ X, (w.alloc (.cells #[.map mb] 67)).alloc (.cells #[.map none] 67) = X := ⟨_, rfl⟩
  rw [hX] at xb x0 x1 ⊢
  have HB := Lib.hid xb
  have K1 := Lib.hid x1
  have p0 := x0.cellV (i := 0) (v := .map mb) rfl
  clear xb x0 x1 hX
  go_wp2_with fail
  refine (cadd_ok _ n cs id W H G true back _ hid (HC.out.below HB.out) hck hW hH hG hno hn).mono ?_
  rintro e w5 ⟨mb', A', c', rfl, hc5, hf5, hb5⟩
  have HC5 := Lib.hid hc5
  have hbs := HB.out.size
  have HB5 := Lib.hid (bstep HB.out hb5)
  have x1 := K1.out.belowS hb5
  have K15 := Lib.hid x1
  have s0 := x1.cellV (i := 0) (v := .map none) rfl
  have sf := x1.frozen 0
  have sl := x1.lt
  clear hc5 hb5 x1 p0
  go_wp2_with fail
  have hb9 := K15.out.set_ 0 (.map (some mb'))
  have hr := hb9.cellV (i := 0) (v := .map (some mb')) rfl
  refine bodyPost_ret (v := .tuple #[.agg #[.map (some mb')], .int .i64 0]) (by simp [results, Tryz.results62, go_sem, hr]) rfl ⟨mb', A', c', rfl, HC5.out.setX K15.out (fun j k x => by match j with | 0 => simp | j + 1 => simp) 0 _, by omega, bset HB5.out (p := ⟨w.heap.size + 1, 0, none⟩) (by show w.heap.size ≤ w.heap.size + 1; omega) _⟩
/-- a grid as a value. -/
def IT.g (i : IT) : Value := .agg #[.int .i64 i.W, .int .i64 i.H, .slice i.A i.n i.c]
set_option maxRecDepth 100000 in
set_option maxHeartbeats 4000000 in
theorem cgrid_any (v : Value) (n : Nat) (cs : Its) (id : Int) (w : World) (hid : 0 ≤ id ∧ id ≤ 4294967295) (h : CanvasIs w v n cs) :
    Calls Tryz.prog 61 #[v, .int .u32 id] w fun e w' => e = .returned (.tuple #[((cs id).getD zIT).g, .bool (cs id).isSome]) ∧ Below w.heap.size w w' := by
  obtain ⟨mb, rfl, hm, _⟩ := h
  have HM := Lib.hid hm
  have HWF := Lib.hid (u32_wf hid)
  have hgg := canvas_get cs id
  have hgs := canvas_has cs id
  obtain ⟨it, hit⟩ : ∃ it, (cs id).getD zIT = it := ⟨_, rfl⟩
  obtain ⟨s, hs⟩ : ∃ s, (cs id).isSome = s := ⟨_, rfl⟩
  rw [hit] at hgg ⊢
  rw [hs] at hgs ⊢
  obtain ⟨iW, iH, iA, inn, ic, iG, iw, ib, ip⟩ := it
  unfold IT.g
  unfold IT.v at hgg
  dsimp only at hgg ⊢
  have HGG := Lib.hid (show (cs.f id).getD zIT.v = .agg #[.int .i64 iW, .int .i64 iH, .slice iA inn ic, .int .u8 iG, .bool iw, .bool ib] from hgg)
  have HGS := Lib.hid hgs
  clear hgg hgs hm hit hs
  have xb := bal (bal (bre w) (.cells #[.map mb] 67)) (.cells #[.int .i64 0, .int .i64 0, .slice none 0 0] 75)
  have x0 := (Blk.new w 67 #[.map mb]).alloc (.cells #[.int .i64 0, .int .i64 0, .slice none 0 0] 75)
  have x1 := blk_new2 w (.cells #[.map mb] 67) 75 #[.int .i64 0, .int .i64 0, .slice none 0 0]
  go_enter Tryz.func61, Tryz.ntmps61
  go_upto_region 1 with fail
  obtain ⟨X, hX⟩ : ∃ X, (w.alloc (.cells #[.map mb] 67)).alloc (.cells #[.int .i64 0, .int .i64 0, .slice none 0 0] 75) = X := ⟨_, rfl⟩
  rw [hX] at xb x0 x1 ⊢
  have HB := Lib.hid xb
  have K1 := Lib.hid x1
  have p0 := x0.cellV (i := 0) (v := .map mb) rfl
  have HMX := Lib.hid (HM.out.below xb)
  clear xb x0 x1 hX
  go_upto_region 2 with (at_lookup; refine opt_look_ok rfl _ _ 65 rfl 48 225 .u32 Tryz.underlying48 Tryz.underlying65 zIT.v (Tryz.zeroItem _) mb n cs.f rfl HMX.out id rfl HWF.out ?_; dsimp only; rw [HGG.out, HGS.out])
  have xb := bal HB.out (.cells #[.int .i64 iW, .int .i64 iH, .slice iA inn ic, .int .u8 iG, .bool iw, .bool ib] 225)
  have x1 := K1.out.alloc (.cells #[.int .i64 iW, .int .i64 iH, .slice iA inn ic, .int .u8 iG, .bool iw, .bool ib] 225)
  have x2 := Blk.new X 225 #[.int .i64 iW, .int .i64 iH, .slice iA inn ic, .int .u8 iG, .bool iw, .bool ib]
  obtain ⟨g, hg⟩ : ∃ g, X.heap.size = g := ⟨_, rfl⟩
  obtain ⟨Z, hZ⟩ : ∃ Z, X.alloc (.cells #[.int .i64 iW, .int .i64 iH, .slice iA inn ic, .int .u8 iG, .bool iw, .bool ib] 225) = Z := ⟨_, rfl⟩
  rw [hZ] at xb x1 x2 ⊢
  rw [hg] at x2 ⊢
  have a0 := x2.cellV (i := 0) (v := .int .i64 iW) rfl
  have a1 := x2.cellV (i := 1) (v := .int .i64 iH) rfl
  have a2 := x2.cellV (i := 2) (v := .slice iA inn ic) rfl
  have c0 := x1.cellV (i := 0) (v := .int .i64 0) rfl
  have c1 := x1.cellV (i := 1) (v := .int .i64 0) rfl
  have c2 := x1.cellV (i := 2) (v := .slice none 0 0) rfl
  have f0 := x1.frozen 0
  have f1 := x1.frozen 1
  have f2 := x1.frozen 2
  have l1 := x1.lt
  go_wp2_with fail
  have hb9 := ((x1.set_ 0 (.int .i64 iW)).set_ 1 (.int .i64 iH)).set_ 2 (.slice iA inn ic)
  have h0 := hb9.cellV (i := 0) (v := .int .i64 iW) rfl
  have h1 := hb9.cellV (i := 1) (v := .int .i64 iH) rfl
  have h2 := hb9.cellV (i := 2) (v := .slice iA inn ic) rfl
  exact bodyPost_ret (v := .tuple #[.agg #[.int .i64 iW, .int .i64 iH, .slice iA inn ic], .bool s]) (by simp [results, Tryz.results61, go_sem, h0, h1, h2]) rfl ⟨rfl, bset (bset (bset xb (p := ⟨w.heap.size + 1, 0, none⟩) (by show w.heap.size ≤ w.heap.size + 1; omega) _) (p := ⟨w.heap.size + 1, 1, none⟩) (by show w.heap.size ≤ w.heap.size + 1; omega) _) (p := ⟨w.heap.size + 1, 2, none⟩) (by show w.heap.size ≤ w.heap.size + 1; omega) _⟩
end Go.Proofs.YtdaedkolpfkdjaaGreat
end
