/-
  The walk of band.spans: the stretches of a row, from the left, each one handed on.
  Plain facts on stretches: what spans tells of a row that stands from the left has just the row's places; its stretches are apart; and such a list is the only one of its places.
-/
import Derived.RangeFuncNested
import Derived.RangeFuncBound
import Derived.RangeFuncCalls
import Derived.RangeFuncLeaves
import Derived.Shelf.Abstract
import Derived.Shelf.RegionOpen
import Derived.OwnWalkIn
import Derived.TacticsInMore
import Derived.LoopNIn
import Derived.LoopIn
import Derived.Test.YtdaedkolpfkdjaaGreatZT07
section
namespace Go.Proofs.YtdaedkolpfkdjaaGreat
open Go.RowKit Go.Shelf
attribute [local go_sem] Oper.semAt_some
theorem wideFn (k : FuncId) : Fence.wide.fn k ↔ True := Iff.rfl
attribute [local go_sem] wideFn

section
variable {P : Program} {ops : Array Oper} {Q : Exit → Act → World → Prop} {md : Region.Mode} {S : World → Prop}
/-- an operation of a region is taken first; its slot is named. -/
theorem take_at (i d : Nat) (v : Value) {oi : Oper} {fuel : Nat} {listed : Array Bool} {ts : List Value} {w : World} (hi : ops[i]? = some oi) (hd : oi.dst = some d)
    (hs : Region.noSelect ops = true) (hf : Region.free md ops listed i = true) (hr : (Region.ready md ops listed).contains i = true)
    (hQ : ∀ c a w, Q (.panic c) (a.put oi.dst v) w → Q (.panic c) a w) (hy : YieldsIf P ops S oi v ⟨ts.toArray, []⟩) (hS : S w)
    (h : wpAnyH P md ops Q S fuel (listed.setIfInBounds i true) ⟨(ts.set d v).toArray, []⟩ w) : wpAnyH P md ops Q S (fuel + 1) listed ⟨ts.toArray, []⟩ w :=
  wpAnyH_take hi hs hf hr hQ hy hS (by rw [hd]; simpa [Act.put] using h)
end

/-- the stretches of rectangles that stand from the left, one being begun. -/
def spansGo (f t : Int) : List RC → List (Int × Int)
  | [] => [(f, t)]
  | r :: l => if r.X ≤ t then spansGo f (max t (r.X + r.W)) l else (f, t) :: spansGo r.X (r.X + r.W) l
def spansL : List RC → List (Int × Int)
  | [] => []
  | r :: l => spansGo r.X (r.X + r.W) l
theorem drop_cons {rs : List RC} {k : Nat} {x : RC} (h : rs[k]? = some x) : rs.drop k = x :: rs.drop (k + 1) := by
  obtain ⟨h1, h2⟩ := List.getElem?_eq_some_iff.1 h
  rw [List.drop_eq_getElem_cons h1, h2]
theorem go_more {f t : Int} {rs : List RC} {j : Nat} {x : RC} (h : rs[j]? = some x) (hx : x.X ≤ t) : spansGo f t (rs.drop j) = spansGo f (max t (x.X + x.W)) (rs.drop (j + 1)) := by
  rw [drop_cons h]
  simp [spansGo, hx]
theorem go_stop {f t : Int} {rs : List RC} {j : Nat} (h : ∀ x, rs[j]? = some x → t < x.X) : spansGo f t (rs.drop j) = (f, t) :: spansL (rs.drop j) := by
  cases hx : rs[j]? with
  | none =>
    have : rs.drop j = [] := by simpa using hx
    rw [this]
    rfl
  | some x =>
    have := h x hx
    rw [drop_cons hx]
    simp only [spansGo, spansL]
    rw [if_neg (by omega)]

/-- the blocks that a predicate names lie as they lay. -/
structure KeepS (p : Nat → Prop) (W W' : World) : Prop where
  size : W.heap.size ≤ W'.heap.size
  block : ∀ b, p b → W'.heap[b]? = W.heap[b]?
theorem KeepS.refl (p : Nat → Prop) (W : World) : KeepS p W W := ⟨Nat.le_refl _, fun _ _ => rfl⟩
theorem KeepS.trans {p : Nat → Prop} {A B C : World} (h : KeepS p A B) (k : KeepS p B C) : KeepS p A C := ⟨Nat.le_trans h.size k.size, fun b hb => (k.block b hb).trans (h.block b hb)⟩
theorem KeepS.cell {p : Nat → Prop} {A B : World} (h : KeepS p A B) {a : Addr} (ha : p a.block) : B.cell? a = A.cell? a := World.cell?_of_block (h.block a.block ha)
theorem KeepS.of_grown {p : Nat → Prop} {A B : World} (h : A.grownBy B none) (hp : ∀ b, p b → b < A.heap.size) : KeepS p A B := ⟨h.size, fun b hb => h.block b (hp b hb) (by simp)⟩

theorem grown_setNew {w X : World} {p : Addr} (h : w.grownBy X none) (hp : w.heap.size ≤ p.block) (u : Value) : w.grownBy (X.setCell p u) none :=
  ⟨h.os, h.tape, h.output, by simpa [World.setCell] using h.size, fun i hi hn => (Below.heap_setCell X p u i (by omega)).trans (h.block i hi hn)⟩
abbrev Span := Int × Int
def rowP (gb : Nat) (A : Option Addr) (b : Nat) : Prop := b = gb ∨ ∃ a : Addr, A = some a ∧ b = a.block

set_option maxRecDepth 100000 in
set_option maxHeartbeats 4000000 in
theorem spans1_stops (n : Nat) (hn : 1 ≤ n) (gb m c : Nat) (A : Option Addr) (rs : List RC) (w : World) (hm : m ≤ 1000000000) (hgb : w.cell? ⟨gb, 0, none⟩ = some (.slice A m c)) (hr : RdR w A m rs) (hok : ∀ r ∈ rs, r.ok) :
    SeqStopsK Fence.wide n Tryz.prog 176 #[.pointer (some ⟨gb, 0, none⟩)] (fun p : Span => #[Value.agg #[.int .i64 p.1, .int .i64 p.2]]) (KeepS (rowP gb A))
      (fun ys => ys = spansL rs) (fun pre => pre <+: spansL rs) (spansL rs).length w := by
  intro l J Jx W hW hJ _ hY h0
  have HGB := Lib.hid ((hW.cell (p := ⟨gb, 0, none⟩) (block_lt_of_cell hgb)).trans hgb)
  have hgl : gb < W.heap.size := Nat.lt_of_lt_of_le (block_lt_of_cell hgb) hW.size
  have HR := Lib.hid (hr.below hW)
  have HOK := Lib.hid hok
  have HJ := Lib.hid hJ
  have HY := Lib.hid hY
  clear hgb hr hok hJ hY hW
  refine callsIn_of_wp Tryz.func176 rfl trivial ?_ rfl
  simp only [Tryz.ntmps176, List.size_toArray, List.length_cons, List.length_nil, Nat.reduceAdd, Nat.reduceSub, Array.replicate_succ, Array.replicate_zero, List.push_toArray, List.append_toArray, List.nil_append, List.cons_append]
  gi_wp2_with fail
  gi_loopw [3] (fun i wr => ∃ (k : Nat) (pre : List Span), i = .int .i64 k ∧ k ≤ m ∧ spansL rs = pre ++ spansL (rs.drop k) ∧ J pre wr ∧ KeepS (rowP gb A) W wr) (fun i _ => m - (intOf i).toNat)
  case atStart => exact ⟨0, [], rfl, by omega, by simp, h0, KeepS.refl _ _⟩
  case round =>
    obtain ⟨wo, rfl⟩ : ∃ wo : World, wo = wr := ⟨_, rfl⟩
    obtain ⟨k, pre, rfl, hk, hsp, hJp, hK⟩ := hrel
    have HSP := Lib.hid hsp
    have HJP := Lib.hid hJp
    have HK := Lib.hid hK
    have cb := (hK.cell (a := ⟨gb, 0, none⟩) (.inl rfl)).trans HGB.out
    have wl := hK.size
    clear hsp hJp hK
    by_cases hlt : k < m
    · obtain ⟨x, hx⟩ : ∃ x, rs[k]? = some x := ⟨_, List.getElem?_eq_getElem (by have := HR.out.1; omega)⟩
      obtain ⟨b, off, rfl, hbl, hc⟩ := HR.out.2 (by omega)
      have hrw : ∀ wo' : World, KeepS (rowP gb (some ⟨b, off, none⟩)) W wo' → ∀ (j : Nat) (r : RC), rs[j]? = some r → wo'.cell? ⟨b, off + j * 4, none⟩ = some (.int .i64 r.X) ∧ wo'.cell? ⟨b, off + j * 4 + 2, none⟩ = some (.int .i64 r.W) := fun wo' hk' j r hj => by
        have h := hc j r hj
        exact ⟨(hk'.cell (a := ⟨b, off + j * 4, none⟩) (.inr ⟨_, rfl, rfl⟩)).trans h.1, (hk'.cell (a := ⟨b, off + j * 4 + 2, none⟩) (.inr ⟨_, rfl, rfl⟩)).trans h.2.2.1⟩
      obtain ⟨x0, x2⟩ := hrw _ HK.out _ _ hx
      obtain ⟨h1, h2, _, _, h5, h6, _, _⟩ := HOK.out x (List.mem_of_getElem? hx)
      have k0 : (0 : Int) ≤ (k : Int) := by omega
      have k1 : (k : Int) < (m : Int) := by omega
      have hdr : spansL (rs.drop k) = spansGo x.X (x.X + x.W) (rs.drop (k + 1)) := by rw [drop_cons hx]; rfl
      have s1 : IntKind.i64.wrap (x.X + x.W) = x.X + x.W := IntWalk.i64_in _ (by omega)
      have HRW := Lib.hid hrw
      have HDR := Lib.hid hdr
      clear hrw hdr hc hx
      gi_wp2_with fail
      refine wpIn_wide.2 ?_
      go_region_held3 (fun w' => w'.cell? ⟨gb, 0, none⟩ = some (.slice (some ⟨b, off, none⟩) m c) ∧ w'.cell? ⟨b, off + k * 4, none⟩ = some (.int .i64 x.X) ∧ w'.cell? ⟨b, off + k * 4 + 2, none⟩ = some (.int .i64 x.W))
        (go_keep)
        (first | fail)
      have gV : wo.grownBy (wo.alloc (.cells #[.int .i64 x.X, .int .i64 (x.X + x.W)] 250)).drew none := grown_of_below (bal (bre wo) _).drew _
      have bV : Blk (wo.alloc (.cells #[.int .i64 x.X, .int .i64 (x.X + x.W)] 250)).drew wo.heap.size 250 #[.int .i64 x.X, .int .i64 (x.X + x.W)] := Blk.new wo _ _
      obtain ⟨V, hV⟩ : ∃ V, (wo.alloc (.cells #[.int .i64 x.X, .int .i64 (x.X + x.W)] 250)).drew = V := ⟨_, rfl⟩
      obtain ⟨gs, hgs⟩ : ∃ gs, wo.heap.size = gs := ⟨_, rfl⟩
      rw [hV] at gV bV ⊢
      rw [hgs] at bV wl ⊢
      have HGS := Lib.hid hgs
      have GV := Lib.hid gV
      have BV := Lib.hid bV
      have hpl : ∀ q, rowP gb (some ⟨b, off, none⟩) q → q < wo.heap.size := fun q hq => by
        rcases hq with rfl | ⟨a, e, rfl⟩
        · exact Nat.lt_of_lt_of_le hgl HK.out.size
        · cases e
          exact Nat.lt_of_lt_of_le hbl HK.out.size
      have HPL := Lib.hid hpl
      clear hV hgs gV bV hpl cb x0 x2 s1
      gi_wp2_with fail
      gi_loopw [3] (fun i wi => ∃ (j : Nat) (t : Int), i = .int .i64 j ∧ k < j ∧ j ≤ m ∧ Blk wi gs 250 #[.int .i64 x.X, .int .i64 t] ∧ spansGo x.X t (rs.drop j) = spansGo x.X (x.X + x.W) (rs.drop (k + 1)) ∧ (-8388608 ≤ t ∧ t ≤ 8388608) ∧ wo.grownBy wi none) (fun i _ => m - (intOf i).toNat)
      case atStart => exact ⟨k + 1, x.X + x.W, by go_num, by omega, by omega, BV.out, rfl, by omega, GV.out⟩
      case round =>
        obtain ⟨j, t, rfl, hkj, hj, bs, hgo, ht, hg⟩ := hrel
        clear BV GV
        have BS := Lib.hid bs
        have HGO := Lib.hid hgo
        have HG := Lib.hid hg
        have HKw := Lib.hid (HK.out.trans (KeepS.of_grown hg HPL.out))
        have cb := (HKw.out.cell (a := ⟨gb, 0, none⟩) (.inl rfl)).trans HGB.out
        have t0 := bs.cellV (i := 0) (v := .int .i64 x.X) rfl
        have t1 := bs.cellV (i := 1) (v := .int .i64 t) rfl
        have f1 := bs.frozen 1
        have j0 : (0 : Int) ≤ (j : Int) := by omega
        clear bs hgo hg
        by_cases hjm : j < m
        · have dj : decide ((j : Int) < (m : Int)) = true := by simp; omega
          have j1 : (j : Int) < (m : Int) := by omega
          obtain ⟨y, hy⟩ : ∃ y, rs[j]? = some y := ⟨_, List.getElem?_eq_getElem (by have := HR.out.1; omega)⟩
          obtain ⟨y0, y2⟩ := HRW.out _ HKw.out _ _ hy
          obtain ⟨g1, g2, _, _, g5, g6, _, _⟩ := HOK.out y (List.mem_of_getElem? hy)
          have s1 : IntKind.i64.wrap (y.X + y.W) = y.X + y.W := IntWalk.i64_in _ (by omega)
          have HYY := Lib.hid hy
          clear hy
          by_cases hle : y.X ≤ t
          · have dt : decide (y.X ≤ t) = true := decide_eq_true hle
            have hnext := go_more (f := x.X) HYY.out hle
            have HNX := Lib.hid hnext
            clear hnext
            gi_wp2_with fail
            refine wpIn_wide.2 ?_
            go_quiet (fail)
            gi_wp2_with fail
            clear y0 y2 cb t0 t1 f1
            have bD : Blk (wr.drewN nq) gs 250 #[.int .i64 x.X, .int .i64 t] := BS.out
            have kD : KeepS (rowP gb (some ⟨b, off, none⟩)) W (wr.drewN nq) := ⟨HKw.out.size, HKw.out.block⟩
            have gD : wo.grownBy (wr.drewN nq) none := grown_bel HG.out (undrewN wr nq)
            obtain ⟨D, hD⟩ : ∃ D, wr.drewN nq = D := ⟨_, rfl⟩
            rw [hD] at bD kD gD ⊢
            obtain ⟨y0, y2⟩ := HRW.out _ kD _ _ HYY.out
            have cb := (kD.cell (a := ⟨gb, 0, none⟩) (.inl rfl)).trans HGB.out
            have t1 := bD.cellV (i := 1) (v := .int .i64 t) rfl
            have f1 := bD.frozen 1
            have zb := HPL.out gb (.inl rfl)
            have zr := HPL.out b (.inr ⟨_, rfl, rfl⟩)
            have ne1 : gs ≠ gb := by have := HGS.out; omega
            have ne2 : gs ≠ b := by have := HGS.out; omega
            have ne3 : gb ≠ gs := by have := HGS.out; omega
            have ne4 : b ≠ gs := by have := HGS.out; omega
            have BD := Lib.hid bD
            have GD := Lib.hid gD
            clear hD bD kD gD
            have hmx : (max t (y.X + y.W) = t ∧ decide (y.X + y.W ≤ t) = true ∧ decide (t < y.X + y.W) = false) ∨ (max t (y.X + y.W) = y.X + y.W ∧ decide (y.X + y.W ≤ t) = false ∧ decide (t < y.X + y.W) = true) := by
              simp only [decide_eq_true_eq, decide_eq_false_iff_not]; omega
            rcases hmx with ⟨e1, e2, e3⟩ | ⟨e1, e2, e3⟩
            all_goals
              have HE1 := Lib.hid e1
              clear e1
              refine wpIn_wide.2 ?_
              refine wp_region_noPanic ?_
              refine wp_region_held_drew (S := fun w' => w'.cell? ⟨gb, 0, none⟩ = some (.slice (some ⟨b, off, none⟩) m c) ∧ w'.cell? ⟨b, off + j * 4, none⟩ = some (.int .i64 y.X) ∧ w'.cell? ⟨b, off + j * 4 + 2, none⟩ = some (.int .i64 y.W)) (by kernel_rfl) ?_ (fun hHeld => ?_)
              · (try dsimp only)
                go_keep
              refine take_at 0 44 (.pointer (some ⟨gs, 1, none⟩)) rfl rfl (by kernel_rfl) (by kernel_rfl) (by kernel_rfl) (fun _ _ _ h => h) (Or.inl ⟨by rfl, ?_⟩) (by assumption) ?_
              · intro W0 hSw
                (try dsimp only at hSw)
                go_simp
              simp only [List.set_cons_zero, List.set_cons_succ]
              refine take_at 2 46 (.slice (some ⟨b, off, none⟩) m c) rfl rfl (by kernel_rfl) (by kernel_rfl) (by kernel_rfl) (fun _ _ _ h => h) (Or.inl ⟨by rfl, ?_⟩) (by assumption) ?_
              · intro W0 hSw
                (try dsimp only at hSw)
                go_simp
              simp only [List.set_cons_zero, List.set_cons_succ]
              refine take_at 3 47 (.int .i64 j) rfl rfl (by kernel_rfl) (by kernel_rfl) (by kernel_rfl) (fun _ _ _ h => h) (Or.inl ⟨by rfl, ?_⟩) (by assumption) ?_
              · intro W0 hSw
                (try dsimp only at hSw)
                go_simp
              simp only [List.set_cons_zero, List.set_cons_succ]
              refine take_at 4 48 (.pointer (some ⟨b, off + j * 4, none⟩)) rfl rfl (by kernel_rfl) (by kernel_rfl) (by kernel_rfl) (fun _ _ _ h => h) (Or.inl ⟨by rfl, ?_⟩) (by assumption) ?_
              · intro W0 hSw
                (try dsimp only at hSw)
                go_simp
              simp only [List.set_cons_zero, List.set_cons_succ]
              refine take_at 5 49 (.pointer (some ⟨b, off + j * 4, none⟩)) rfl rfl (by kernel_rfl) (by kernel_rfl) (by kernel_rfl) (fun _ _ _ h => h) (Or.inl ⟨by rfl, ?_⟩) (by assumption) ?_
              · intro W0 hSw
                (try dsimp only at hSw)
                go_simp
              simp only [List.set_cons_zero, List.set_cons_succ]
              refine take_at 6 50 (.int .i64 y.X) rfl rfl (by kernel_rfl) (by kernel_rfl) (by kernel_rfl) (fun _ _ _ h => h) (Or.inl ⟨by rfl, ?_⟩) (by assumption) ?_
              · intro W0 hSw
                (try dsimp only at hSw)
                go_simp
              simp only [List.set_cons_zero, List.set_cons_succ]
              refine take_at 7 51 (.slice (some ⟨b, off, none⟩) m c) rfl rfl (by kernel_rfl) (by kernel_rfl) (by kernel_rfl) (fun _ _ _ h => h) (Or.inl ⟨by rfl, ?_⟩) (by assumption) ?_
              · intro W0 hSw
                (try dsimp only at hSw)
                go_simp
              simp only [List.set_cons_zero, List.set_cons_succ]
              refine take_at 8 52 (.int .i64 j) rfl rfl (by kernel_rfl) (by kernel_rfl) (by kernel_rfl) (fun _ _ _ h => h) (Or.inl ⟨by rfl, ?_⟩) (by assumption) ?_
              · intro W0 hSw
                (try dsimp only at hSw)
                go_simp
              simp only [List.set_cons_zero, List.set_cons_succ]
              refine take_at 9 53 (.pointer (some ⟨b, off + j * 4, none⟩)) rfl rfl (by kernel_rfl) (by kernel_rfl) (by kernel_rfl) (fun _ _ _ h => h) (Or.inl ⟨by rfl, ?_⟩) (by assumption) ?_
              · intro W0 hSw
                (try dsimp only at hSw)
                go_simp
              simp only [List.set_cons_zero, List.set_cons_succ]
              refine take_at 10 54 (.pointer (some ⟨b, off + j * 4 + 2, none⟩)) rfl rfl (by kernel_rfl) (by kernel_rfl) (by kernel_rfl) (fun _ _ _ h => h) (Or.inl ⟨by rfl, ?_⟩) (by assumption) ?_
              · intro W0 hSw
                (try dsimp only at hSw)
                go_simp
              simp only [List.set_cons_zero, List.set_cons_succ]
              refine take_at 11 55 (.int .i64 y.W) rfl rfl (by kernel_rfl) (by kernel_rfl) (by kernel_rfl) (fun _ _ _ h => h) (Or.inl ⟨by rfl, ?_⟩) (by assumption) ?_
              · intro W0 hSw
                (try dsimp only at hSw)
                go_simp
              simp only [List.set_cons_zero, List.set_cons_succ]
              refine take_at 12 56 (.int .i64 (y.X + y.W)) rfl rfl (by kernel_rfl) (by kernel_rfl) (by kernel_rfl) (fun _ _ _ h => h) (Or.inl ⟨by rfl, ?_⟩) (by assumption) ?_
              · intro W0 hSw
                (try dsimp only at hSw)
                go_simp
              simp only [List.set_cons_zero, List.set_cons_succ]
              refine wpAnyH_ready (rs := [1]) (by kernel_rfl) (by simp) ?_
              refine AllReadyH.cons rfl (fun K hK => ?_) AllReadyH.nil
              go_simp
              refine hK.out _ _ (by assumption) (fun hHeld => ?_)
              clear hK K
              refine wpAnyH_ready (rs := [13]) (by kernel_rfl) (by simp) ?_
              refine AllReadyH.cons rfl (fun K hK => ?_) AllReadyH.nil
              go_simp
              refine hK.out _ _ (by assumption) (fun hHeld => ?_)
              clear hK K
              refine take_at 14 58 (.pointer (some ⟨gs, 1, none⟩)) rfl rfl (by kernel_rfl) (by kernel_rfl) (by kernel_rfl) (fun _ _ _ h => h) (Or.inl ⟨by rfl, ?_⟩) (by assumption) ?_
              · intro W0 hSw
                (try dsimp only at hSw)
                go_simp
              simp only [List.set_cons_zero, List.set_cons_succ]
              refine wpAnyH_ready (rs := [15]) (by kernel_rfl) (by simp) ?_
              refine AllReadyH.cons rfl (fun K hK => ?_) AllReadyH.nil
              go_simp
              refine hK.out _ _ (by (try dsimp only); go_keep) (fun hHeld => ?_)
              clear hK K
              refine wpAnyH_done (by kernel_rfl) ?_ _
              refine NoPanic.normal ?_
              gi_wp2_with fail
              go_roundw
              case rel =>
                refine ⟨j + 1, max t (y.X + y.W), by go_num, by omega, by omega, by rw [HE1.out]; exact BD.out.set_ 1 _, by rw [← HNX.out]; exact HGO.out, by omega, grown_setNew (grown_bel GD.out (bre D).drew) (by have := HGS.out; dsimp only; omega) _⟩
              case measure => simp [intOf]; omega
          · have dt : decide (y.X ≤ t) = false := decide_eq_false hle
            gi_wp2_with fail
            refine wpIn_wide.2 ?_
            go_quiet (fail)
            clear y0 y2
            clear cb t0 t1 f1
            have bD : Blk (wr.drewN nq) gs 250 #[.int .i64 x.X, .int .i64 t] := BS.out
            have kD : KeepS (rowP gb (some ⟨b, off, none⟩)) W (wr.drewN nq) := ⟨HKw.out.size, HKw.out.block⟩
            have gD : wo.grownBy (wr.drewN nq) none := grown_bel HG.out (undrewN wr nq)
            obtain ⟨D, hD⟩ : ∃ D, wr.drewN nq = D := ⟨_, rfl⟩
            rw [hD] at bD kD gD ⊢
            have t0 := bD.cellV (i := 0) (v := .int .i64 x.X) rfl
            have t1 := bD.cellV (i := 1) (v := .int .i64 t) rfl
            have hsp : spansL rs = pre ++ (x.X, t) :: spansL (rs.drop j) := by
              rw [HSP.out, HDR.out, ← HGO.out, go_stop (fun u hu => by cases HYY.out.symm.trans hu; omega)]
            have hJ1 := HJ.out pre wo D none HJP.out gD (by simp)
            obtain ⟨fn, tmps, assign, body, hy', hR⟩ := HY.out pre (x.X, t) D hJ1 (by rw [hsp]; simp)
            have HS2 := Lib.hid hsp
            have KD := Lib.hid kD
            have HRR := Lib.hid hR
            clear hD bD kD gD hsp hJ1 hR
            dsimp only at hy'
            gi_wp2_with fail
            refine HRR.out.mono ?_
            rintro e W3 (⟨rfl, hJ3, hk3⟩ | ⟨rfl, hJx3⟩)
            · gi_wp2_with fail
              go_roundw
              case rel => exact ⟨j, pre ++ [(x.X, t)], rfl, by omega, by rw [HS2.out]; simp, hJ3, KD.out.trans hk3⟩
              case measure => simp [intOf]; omega
            · gi_wp2_with fail
              refine bodyPost_ret (results_none rfl _ _ _) rfl ?_
              exact ⟨⟨_, rfl⟩, .inr ⟨_, ⟨spansL (rs.drop j), by rw [HS2.out]; simp⟩, hJx3⟩⟩
        · have dj : decide ((j : Int) < (m : Int)) = false := by simp; omega
          gi_wp2_with fail
          refine wpIn_wide.2 ?_
          go_quiet (fail)
          clear cb t0 t1 f1
          have bD : Blk (wr.drewN nq) gs 250 #[.int .i64 x.X, .int .i64 t] := BS.out
          have kD : KeepS (rowP gb (some ⟨b, off, none⟩)) W (wr.drewN nq) := ⟨HKw.out.size, HKw.out.block⟩
          have gD : wo.grownBy (wr.drewN nq) none := grown_bel HG.out (undrewN wr nq)
          obtain ⟨D, hD⟩ : ∃ D, wr.drewN nq = D := ⟨_, rfl⟩
          rw [hD] at bD kD gD ⊢
          have t0 := bD.cellV (i := 0) (v := .int .i64 x.X) rfl
          have t1 := bD.cellV (i := 1) (v := .int .i64 t) rfl
          have hsp : spansL rs = pre ++ (x.X, t) :: spansL (rs.drop j) := by
            rw [HSP.out, HDR.out, ← HGO.out, go_stop (fun u hu => by have := (List.getElem?_eq_some_iff.1 hu).1; have := HR.out.1; omega)]
          have hJ1 := HJ.out pre wo D none HJP.out gD (by simp)
          obtain ⟨fn, tmps, assign, body, hy', hR⟩ := HY.out pre (x.X, t) D hJ1 (by rw [hsp]; simp)
          have HS2 := Lib.hid hsp
          have KD := Lib.hid kD
          have HRR := Lib.hid hR
          clear hD bD kD gD hsp hJ1 hR
          dsimp only at hy'
          gi_wp2_with fail
          refine HRR.out.mono ?_
          rintro e W3 (⟨rfl, hJ3, hk3⟩ | ⟨rfl, hJx3⟩)
          · gi_wp2_with fail
            go_roundw
            case rel => exact ⟨j, pre ++ [(x.X, t)], rfl, by omega, by rw [HS2.out]; simp, hJ3, KD.out.trans hk3⟩
            case measure => simp [intOf]; omega
          · gi_wp2_with fail
            refine bodyPost_ret (results_none rfl _ _ _) rfl ?_
            exact ⟨⟨_, rfl⟩, .inr ⟨_, ⟨spansL (rs.drop j), by rw [HS2.out]; simp⟩, hJx3⟩⟩
    · gi_wp2_with fail
      obtain rfl : k = m := by omega
      go_end0
      refine ⟨⟨_, rfl⟩, .inl ⟨_, rfl, ?_⟩⟩
      have h := HSP.out
      rw [List.drop_of_length_le (by rw [HR.out.1]; exact Nat.le_refl _)] at h
      rw [show spansL ([] : List RC) = [] from rfl, List.append_nil] at h
      rw [h]
      exact HJP.out

end Go.Proofs.YtdaedkolpfkdjaaGreat
end

section
namespace Go.Proofs.YtdaedkolpfkdjaaGreat

/-- has one of the stretches a place? -/
def InS (l : List Span) (x : Int) : Prop := ∃ s ∈ l, s.1 ≤ x ∧ x < s.2
/-- stretches that have places, rising, with a gap between two. -/
def Apart (l : List Span) : Prop := l.Pairwise (fun a b => a.2 < b.1) ∧ ∀ s ∈ l, s.1 < s.2

theorem spansGo_ok (l : List RC) : ∀ (f t : Int), f < t → (∀ r ∈ l, f ≤ r.X ∧ 0 < r.W) → l.Pairwise (fun a b => a.X ≤ b.X) →
    (∀ x, InS (spansGo f t l) x ↔ (f ≤ x ∧ x < t) ∨ ∃ r ∈ l, r.X ≤ x ∧ x < r.X + r.W) ∧ Apart (spansGo f t l) ∧ ∀ s ∈ spansGo f t l, f ≤ s.1 := by
  induction l with
  | nil =>
    intro f t hft _ _
    refine ⟨fun x => by simp [spansGo, InS], ⟨by simp [spansGo], by simp [spansGo, hft]⟩, by simp [spansGo]⟩
  | cons r l ih =>
    intro f t hft hr hs
    obtain ⟨hr1, hr2⟩ := hr r (by simp)
    have hs2 := List.pairwise_cons.1 hs
    by_cases hle : r.X ≤ t
    · obtain ⟨h1, h2, h3⟩ := ih f (max t (r.X + r.W)) (by omega) (fun q hq => hr q (by simp [hq])) hs2.2
      have e : spansGo f t (r :: l) = spansGo f (max t (r.X + r.W)) l := by simp [spansGo, hle]
      rw [e]
      refine ⟨fun x => ?_, h2, h3⟩
      rw [h1 x]
      constructor
      · rintro (⟨a, b⟩ | ⟨q, hq, hx⟩)
        · by_cases hx : x < t
          · exact .inl ⟨a, hx⟩
          · exact .inr ⟨r, by simp, by omega, by omega⟩
        · exact .inr ⟨q, by simp [hq], hx⟩
      · rintro (⟨a, b⟩ | ⟨q, hq, hx⟩)
        · exact .inl ⟨a, by omega⟩
        · rcases List.mem_cons.1 hq with rfl | hq
          · exact .inl ⟨by omega, by omega⟩
          · exact .inr ⟨q, hq, hx⟩
    · obtain ⟨h1, h2, h3⟩ := ih r.X (r.X + r.W) (by omega) (fun q hq => ⟨hs2.1 q hq, (hr q (by simp [hq])).2⟩) hs2.2
      have e : spansGo f t (r :: l) = (f, t) :: spansGo r.X (r.X + r.W) l := by simp [spansGo, hle]
      rw [e]
      refine ⟨fun x => ?_, ⟨List.pairwise_cons.2 ⟨fun s hs' => by have := h3 s hs'; dsimp only; omega, h2.1⟩, fun s hs' => ?_⟩, fun s hs' => ?_⟩
      · have := h1 x
        constructor
        · rintro ⟨s, hs', hx⟩
          rcases List.mem_cons.1 hs' with rfl | hs'
          · exact .inl hx
          · rcases this.1 ⟨s, hs', hx⟩ with hx' | ⟨q, hq, hx'⟩
            · exact .inr ⟨r, by simp, hx'⟩
            · exact .inr ⟨q, by simp [hq], hx'⟩
        · rintro (hx | ⟨q, hq, hx⟩)
          · exact ⟨(f, t), by simp, hx⟩
          · have hin : InS (spansGo r.X (r.X + r.W) l) x := this.2 (by
              rcases List.mem_cons.1 hq with rfl | hq
              · exact .inl hx
              · exact .inr ⟨q, hq, hx⟩)
            obtain ⟨s, hs', hx'⟩ := hin
            exact ⟨s, by simp [hs'], hx'⟩
      · rcases List.mem_cons.1 hs' with rfl | hs'
        · exact hft
        · exact h2.2 s hs'
      · rcases List.mem_cons.1 hs' with rfl | hs'
        · exact Int.le_refl _
        · have := h3 s hs'
          omega

/-- what spans tells of a row. -/
theorem spansL_ok {l : List RC} (hw : ∀ r ∈ l, 0 < r.W) (hs : l.Pairwise (fun a b => a.X ≤ b.X)) :
    (∀ x, InS (spansL l) x ↔ ∃ r ∈ l, r.X ≤ x ∧ x < r.X + r.W) ∧ Apart (spansL l) := by
  cases l with
  | nil => exact ⟨fun x => by simp [spansL, InS], by simp [spansL, Apart]⟩
  | cons r l =>
    have hs2 := List.pairwise_cons.1 hs
    have h0 := hw r (by simp)
    obtain ⟨h1, h2, _⟩ := spansGo_ok l r.X (r.X + r.W) (by omega) (fun q hq => ⟨hs2.1 q hq, hw q (by simp [hq])⟩) hs2.2
    refine ⟨fun x => ?_, h2⟩
    show InS (spansGo r.X (r.X + r.W) l) x ↔ _
    rw [h1 x]
    simp

/-- stretches apart are the only ones of their places. -/
theorem apart_uniq : ∀ (a b : List Span), Apart a → Apart b → (∀ x, InS a x ↔ InS b x) → a = b
  | [], [], _, _, _ => rfl
  | [], s :: b, _, hb, h => by
    have := (h s.1).2 ⟨s, by simp, Int.le_refl _, hb.2 s (by simp)⟩
    obtain ⟨q, hq, _⟩ := this
    simp at hq
  | s :: a, [], ha, _, h => by
    have := (h s.1).1 ⟨s, by simp, Int.le_refl _, ha.2 s (by simp)⟩
    obtain ⟨q, hq, _⟩ := this
    simp at hq
  | s :: a, q :: b, ha, hb, h => by
    have ha1 := List.pairwise_cons.1 ha.1
    have hb1 := List.pairwise_cons.1 hb.1
    have hs0 := ha.2 s (by simp)
    have hq0 := hb.2 q (by simp)
    have lowa : ∀ x, InS (s :: a) x → s.1 ≤ x := fun x ⟨u, hu, hx⟩ => by
      rcases List.mem_cons.1 hu with rfl | hu
      · exact hx.1
      · have := ha1.1 u hu
        omega
    have lowb : ∀ x, InS (q :: b) x → q.1 ≤ x := fun x ⟨u, hu, hx⟩ => by
      rcases List.mem_cons.1 hu with rfl | hu
      · exact hx.1
      · have := hb1.1 u hu
        omega
    have e1 : s.1 = q.1 := by
      have h1 := lowb s.1 ((h s.1).1 ⟨s, by simp, Int.le_refl _, hs0⟩)
      have h2 := lowa q.1 ((h q.1).2 ⟨q, by simp, Int.le_refl _, hq0⟩)
      omega
    have outa : ∀ x, s.2 ≤ x → InS (s :: a) x → s.2 < x := fun x hx ⟨u, hu, hx'⟩ => by
      rcases List.mem_cons.1 hu with rfl | hu
      · omega
      · have := ha1.1 u hu
        omega
    have outb : ∀ x, q.2 ≤ x → InS (q :: b) x → q.2 < x := fun x hx ⟨u, hu, hx'⟩ => by
      rcases List.mem_cons.1 hu with rfl | hu
      · omega
      · have := hb1.1 u hu
        omega
    have e2 : s.2 = q.2 := by
      rcases Int.lt_trichotomy s.2 q.2 with hlt | heq | hlt
      · have := outa s.2 (Int.le_refl _) ((h s.2).2 ⟨q, by simp, by omega, hlt⟩)
        omega
      · exact heq
      · have := outb q.2 (Int.le_refl _) ((h q.2).1 ⟨s, by simp, by omega, hlt⟩)
        omega
    have e : s = q := Prod.ext e1 e2
    subst e
    have hab : a = b := apart_uniq a b ⟨ha1.2, fun u hu => ha.2 u (by simp [hu])⟩ ⟨hb1.2, fun u hu => hb.2 u (by simp [hu])⟩ (fun x => by
      constructor
      · rintro ⟨u, hu, hx⟩
        have hu' := ha1.1 u hu
        obtain ⟨v, hv, hx'⟩ := (h x).1 ⟨u, by simp [hu], hx⟩
        rcases List.mem_cons.1 hv with rfl | hv
        · omega
        · exact ⟨v, hv, hx'⟩
      · rintro ⟨u, hu, hx⟩
        have hu' := hb1.1 u hu
        obtain ⟨v, hv, hx'⟩ := (h x).2 ⟨u, by simp [hu], hx⟩
        rcases List.mem_cons.1 hv with rfl | hv
        · omega
        · exact ⟨v, hv, hx'⟩)
    rw [hab]

end Go.Proofs.YtdaedkolpfkdjaaGreat
end
