/-
  The walk of Minus of regions.
  The walks of slices.Backward at ids and of its iterator.
  A region that draws its order within a round of a range over a function: what is shown of it outside of a round serves within one.
  What the view's walk has at hand in memory: a window's area; rectangles farther on; what stays where a map's block changes; what has been told of windows so far.
  What the view's walk is given, and where windows lie, plainly.
  What is told of a window's kids, plainly, and the edges of the regions on the way.
  The ends of a round of the view's walk: nothing was handed down, or something was.
-/
import Derived.Test.YtdaedkolpfkdjaaGreatZT18
import Derived.Test.YtdaedkolpfkdjaaGreatZT08
import Derived.Test.YtdaedkolpfkdjaaGreatZT03
import Derived.Deep.RegionHeld3
import Derived.OrdersIn
import Derived.RangeFuncCalls
import Derived.TacticsIn
import Derived.Test.YtdaedkolpfkdjaaGreatZT10
import Derived.Test.YtdaedkolpfkdjaaGreatZT19
import Derived.Test.YtdaedkolpfkdjaaGreatZT05
import Derived.Test.YtdaedkolpfkdjaaGreatZT17
import Derived.RangeFuncWrites
section
namespace Go.Proofs.YtdaedkolpfkdjaaGreat
open Go.RowKit Go.Maps Go.Shelf

theorem keepNot : KeepFn 152 (fun a b => a && !b) := by
  refine ⟨fun args W => by simp [go_sem], fun a b w => ?_⟩
  cases a <;> cases b
  all_goals
    go_enter Tryz.func152, Tryz.ntmps152
    go_wp2_with fail
    go_ret
    exact ⟨rfl, rfl⟩
set_option maxRecDepth 100000 in
set_option maxHeartbeats 4000000 in
theorem minus_anyT (v1 v2 : Value) (a b : List RC) (Y X : List Int) (w : World) (ha : RegAt w v1 a) (hb : RegAt w v2 b) (he : EdgeIn (a ++ b) Y X) (hYX : Y.length * X.length ≤ 100000) :
    Calls Tryz.prog 91 #[v1, v2] w fun e w' => EndT w (fun a b => a && !b) a b Y X e w' := by
  have HE := Lib.hid he
  have HA := Lib.hid ha
  have HBR := Lib.hid hb
  obtain ⟨A1, c1, rfl, _⟩ := ha
  obtain ⟨A2, c2, rfl, _⟩ := hb
  obtain ⟨n1, hn1⟩ : ∃ n1, a.length = n1 := ⟨_, rfl⟩
  obtain ⟨n2, hn2⟩ : ∃ n2, b.length = n2 := ⟨_, rfl⟩
  have ha := HA.out
  have hb := HBR.out
  rw [hn1] at ha ⊢
  rw [hn2] at hb ⊢
  have hba := bal (bal (bal (bre w) (.cells #[.slice A1 n1 c1] 57)) (.cells #[.slice A2 n2 c2] 57)) (.cells #[.slice none 0 0] 57)
  have xK4 := blk_newA (w.alloc (.cells #[.slice A1 n1 c1] 57)) (.cells #[.slice A2 n2 c2] 57) 57 #[.slice none 0 0]
  have xA := ha.below hba
  have xB := hb.below hba
  clear ha hb HA HBR he
  go_enter Tryz.func91, Tryz.ntmps91
  go_wp2_with fail
  obtain ⟨X3, hX3⟩ : ∃ X3, ((w.alloc (.cells #[.slice A1 n1 c1] 57)).alloc (.cells #[.slice A2 n2 c2] 57)).alloc (.cells #[.slice none 0 0] 57) = X3 := ⟨_, rfl⟩
  rw [hX3] at hba xK4 xA xB ⊢
  rw [World.size_alloc] at xK4
  have HBZ := Lib.hid hba
  have K4 := Lib.hid xK4
  have HA := Lib.hid xA
  have HBR := Lib.hid xB
  clear hba xK4 xA xB hX3
  refine (join_anyT 152 (fun a b => a && !b) _ _ a b Y X _ keepNot rfl HA.out HBR.out HE.out hYX).mono ?_
  rintro e w5 ⟨v, out, rfl, hro, hin, hed, hty, hb5⟩
  have b5 := K4.out.belowS hb5
  have HB5 := Lib.hid (bstep HBZ.out hb5)
  have HRO := Lib.hid hro
  have HIN := Lib.hid hin
  have HED := Lib.hid hed
  have HTY := Lib.hid hty
  obtain ⟨Ao, co, rfl, _⟩ := hro
  have q0 := b5.cellV (i := 0) (v := .slice none 0 0) rfl
  have f0 := b5.frozen 0
  have l5 := b5.lt
  have K5 := Lib.hid b5
  clear hb5 b5 hin hed hty
  go_wp2_with fail
  have hb9 := K5.out.set_ 0 (.slice Ao out.length co)
  have r0 := hb9.cellV (i := 0) (v := .slice Ao out.length co) rfl
  exact bodyPost_ret (v := .agg #[.slice Ao out.length co]) (by simp [results, Tryz.results91, go_sem, r0]) rfl ⟨_, out, rfl, HRO.out.farS K5.out _, HIN.out, HED.out, HTY.out.set K5.out (by decide) 0 _, bset (p := ⟨w.heap.size + 1 + 1, 0, none⟩) HB5.out (by show w.heap.size ≤ w.heap.size + 1 + 1; omega) _⟩
theorem minus_any (v1 v2 : Value) (a b : List RC) (Y X : List Int) (w : World) (ha : RegAt w v1 a) (hb : RegAt w v2 b) (he : EdgeIn (a ++ b) Y X) (hYX : Y.length * X.length ≤ 100000) :
    Calls Tryz.prog 91 #[v1, v2] w fun e w' => EndJ w (fun a b => a && !b) a b Y X e w' := (minus_anyT v1 v2 a b Y X w ha hb he hYX).mono fun _ _ h => h.plain

end Go.Proofs.YtdaedkolpfkdjaaGreat
end

section
namespace Go.Proofs.YtdaedkolpfkdjaaGreat
open Go.RowKit Go.Shelf

set_option maxRecDepth 100000 in
theorem backward_any (A : Option Addr) (n c : Nat) (w : World) :
    Calls Tryz.prog 88 #[.slice A n c] w fun e w' => e = .returned (.func (.func 147) #[] #[.pointer (some ⟨w.heap.size, 0, none⟩)]) ∧ w' = w.alloc (.cells #[.slice A n c] 43) := by
  go_enter Tryz.func88, Tryz.ntmps88
  go_wp2_with fail
  go_ret
  exact ⟨rfl, rfl⟩

/-- a list's places, from behind. -/
def revF (m : Nat) : List (Fin m) := (List.finRange m).reverse
theorem revF_len (m : Nat) : (revF m).length = m := by simp [revF]
theorem revF_at {m r : Nat} (h : r < m) : (revF m)[m - 1 - r]? = some ⟨r, h⟩ := by
  unfold revF
  rw [List.getElem?_reverse (by simp; omega)]
  simp only [List.length_finRange]
  have e : m - 1 - (m - 1 - r) = r := by omega
  rw [e, List.getElem?_eq_getElem (by simpa using h)]
  simp
theorem revF_take {m r : Nat} (h : r < m) : (revF m).take (m - r) = (revF m).take (m - (r + 1)) ++ [⟨r, h⟩] := by
  rw [show m - r = (m - 1 - r) + 1 from by omega, List.take_add_one, revF_at h, show m - (r + 1) = m - 1 - r from by omega]
  rfl
theorem revF_map (l : List Int) : (revF l.length).map (fun i => l.getD i.val 0) = l.reverse := by
  unfold revF
  rw [List.map_reverse]
  congr 1
  refine List.ext_getElem (by simp) (fun i h1 h2 => ?_)
  simp [List.getD_eq_getElem?_getD]

set_option maxRecDepth 100000 in
set_option maxHeartbeats 4000000 in
theorem back1_stops (n : Nat) (hn : 1 ≤ n) (gb m c : Nat) (A : Option Addr) (l : List Int) (w : World) (hm : m ≤ 1000000000) (hgb : w.cell? ⟨gb, 0, none⟩ = some (.slice A m c)) (hr : Rd w A m (U32 l)) :
    SeqStopsK Fence.wide n Tryz.prog 147 #[.pointer (some ⟨gb, 0, none⟩)] (fun i : Fin m => #[.int .i64 (i.val : Int), .int .u32 (l.getD i.val 0)]) (KeepS (rowP gb A))
      (fun ys => ys = revF m) (fun _ => True) m w := by
  intro lo J Jx W hW hJ _ hY h0
  have HGB := Lib.hid ((hW.cell (p := ⟨gb, 0, none⟩) (block_lt_of_cell hgb)).trans hgb)
  have HR := Lib.hid (hr.below hW)
  have HJ := Lib.hid hJ
  have HY := Lib.hid hY
  have hl : l.length = m := by have := hr.1; simpa [U32] using this
  have HLL := Lib.hid hl
  have hgb1 := HGB.out
  clear hgb hr hJ hY hW
  refine callsIn_of_wp Tryz.func147 rfl trivial ?_ rfl
  simp only [Tryz.ntmps147, List.size_toArray, List.length_cons, List.length_nil, Nat.reduceAdd, Nat.reduceSub, Array.replicate_succ, Array.replicate_zero, List.push_toArray, List.append_toArray, List.nil_append, List.cons_append]
  gi_wp2_with fail
  clear hgb1
  gi_loopw [3] (fun i wr => ∃ r : Nat, i = .int .i64 ((r : Int) - 1) ∧ r ≤ m ∧ J ((revF m).take (m - r)) wr ∧ KeepS (rowP gb A) W wr) (fun i _ => (intOf i + 1).toNat)
  case atStart => exact ⟨m, by go_num, Nat.le_refl _, by simpa using h0, KeepS.refl _ _⟩
  case round =>
    obtain ⟨r, rfl, hrm, hJp, hK⟩ := hrel
    have HJP := Lib.hid hJp
    have HK := Lib.hid hK
    have cb := (hK.cell (a := ⟨gb, 0, none⟩) (.inl rfl)).trans HGB.out
    clear hJp hK
    cases r with
    | zero =>
      have k1 : ¬ (0 : Int) ≤ ((0 : Nat) : Int) - 1 := by omega
      gi_wp2_with fail
      go_end0
      have h := HJP.out
      rw [Nat.sub_zero, List.take_of_length_le (by rw [revF_len]; exact Nat.le_refl _)] at h
      exact ⟨⟨_, rfl⟩, .inl h⟩
    | succ r =>
      have hrl : r < l.length := by rw [HLL.out]; omega
      obtain ⟨b, off, rfl, hbl, hc⟩ := HR.out.2 (by omega)
      have hx : l[r]? = some (l.getD r 0) := by rw [List.getD_eq_getElem?_getD, List.getElem?_eq_getElem hrl]; rfl
      obtain ⟨x, hxd⟩ : ∃ x, l.getD r 0 = x := ⟨_, rfl⟩
      rw [hxd] at hx
      have c0 := (HK.out.cell (a := ⟨b, off + r, none⟩) (.inr ⟨_, rfl, rfl⟩)).trans (hc r _ (U32_at hx))
      have e1 : (((r + 1 : Nat) : Int) - 1) = (r : Int) := by omega
      rw [e1]
      have k1 : (0 : Int) ≤ (r : Int) := by omega
      have k2 : (r : Int) < (m : Int) := by omega
      have hrm' : r < m := by omega
      have ht := revF_take hrm'
      have hpl : ((revF m).take (m - (r + 1))).length < m := by rw [List.length_take, revF_len]; omega
      obtain ⟨fn, tmps, assign, body, hy', hR⟩ := HY.out _ (⟨r, hrm'⟩ : Fin m) wr HJP.out hpl
      rw [hxd] at hy'
      have HT := Lib.hid ht
      have HRR := Lib.hid hR
      clear hx hc ht hR hpl hxd
      dsimp only at hy'
      gi_wp2_with fail
      refine HRR.out.mono ?_
      rintro e W3 (⟨rfl, hJ3, hk3⟩ | ⟨rfl, hJx3⟩)
      · gi_wp2_with fail
        go_roundw
        case rel =>
          have hJ4 : J ((revF m).take (m - r)) W3 := by rw [HT.out]; exact hJ3
          refine ⟨r, ?_, ?_, hJ4, HK.out.trans hk3⟩
          · first | rfl | go_num
          · omega
        case measure => first | (simp [intOf]; done) | (simp [intOf]; omega)
      · gi_wp2_with fail
        refine bodyPost_ret (results_none rfl _ _ _) rfl ?_
        exact ⟨⟨_, rfl⟩, .inr ⟨_, trivial, hJx3⟩⟩

end Go.Proofs.YtdaedkolpfkdjaaGreat
end

section
namespace Go.Proofs.YtdaedkolpfkdjaaGreat
open Go

/-- a region's post that is met at no panic, and where nothing is outgrown. -/
def CalmQ (Q : Exit → Act → World → Prop) : Exit → Act → World → Prop
  | .panic _, _, _ => False
  | .outgrown, _, _ => False
  | e, a, w => Q e a w
theorem CalmQ.normal {Q : Exit → Act → World → Prop} {a : Act} {w : World} (h : Q .normal a w) : CalmQ Q .normal a w := h
theorem CalmQ.imp {Q : Exit → Act → World → Prop} : ∀ (e : Exit) (a : Act) (w : World), CalmQ Q e a w → Q e a w := fun e a w h => by
  cases e <;> first | exact h | exact (h : False).elim
section
variable {P : Program} {ops : Array Oper} {Q : Exit → Act → World → Prop} {md : Region.Mode} {l n : Nat}
theorem rowsIn_of {row : String} {args : Array Value} {w : World} {R : Value → World → Prop} (h : Rows P row args w R) : RowsIn (Fence.wide.inRound l) n P row args w R :=
  fun c cs _ => let ⟨v, w', r, s⟩ := h c cs; ⟨v, w', r, stepsIn_wide.2 s⟩
theorem upon_in {o : Oper} {a : Act} {next : Act → World → Prop} {r : Result Next} (h : o.upon P a next (CalmQ Q) r) : o.uponIn (Fence.wide.inRound l) n P a next (CalmQ Q) r := by
  cases r with
  | ok x w' =>
    cases x
    case value => exact h
    case skip => exact h
    case defer => exact h
    case enter => exact ⟨fun h2 => by simp [Fence.wide] at h2, CallsIn.inRound l (callsIn_wide.2 h)⟩
    case row => exact ⟨fun h2 => by simp [Fence.wide] at h2, rowsIn_of h⟩
    all_goals exact (h : False).elim
  | halt x w' => cases x <;> exact h
theorem opIn_of {i : Nat} {K K' : Act → World → Prop} {a : Act} {w : World} (hnd : ∀ (j : Nat) (o : Oper) c, ops[j]? = some o → o.op ≠ .defer c) (hK : ∀ a w, K a w → K' a w) (h : wpOp P ops (CalmQ Q) i K a w) : wpOpIn (Fence.wide.inRound l) n P ops (CalmQ Q) i K' a w := by
  refine wpOpIn_mono hK ?_
  unfold wpOp at h
  unfold wpOpIn
  split
  · rename_i ho
    simpa [ho] using h
  · rename_i o ho
    simp only [ho] at h
    split
    · rename_i hw
      simp only [hw, if_true] at h
      rcases h with h | ⟨_, h⟩
      · unfold Oper.wpIn
        refine ⟨fun _ _ => trivial, ?_⟩
        rw [Oper.semAt_eq _ _ _ (fun c => hnd i o c ho)]
        exact upon_in h
      · obtain ⟨_, _, h⟩ := h
        exact (h : False).elim
    · rename_i hw
      simp only [hw] at h
      exact ⟨fun _ _ => trivial, h⟩
theorem anyIn_of (hnd : ∀ (j : Nat) (o : Oper) c, ops[j]? = some o → o.op ≠ .defer c) : ∀ (fuel : Nat) (listed : Array Bool) (a : Act) (w : World), wpAny P md ops (CalmQ Q) fuel listed a w → wpAnyIn (Fence.wide.inRound l) n P md ops (CalmQ Q) fuel listed a w
  | 0, _, _, _, h => h
  | fuel + 1, _, _, _, h => ⟨h.1, fun i hi => opIn_of hnd (fun a w h => anyIn_of hnd fuel _ a w h) (h.2 i hi)⟩
def noDefer (o : Oper) : Bool := match o.op with | .defer _ => false | _ => true
/-- the beginning of a region that draws, within a round. -/
theorem wpIn_region_round {id : Nat} {a : Act} {w : World} (S : World → Prop) (hm : P.follows .mixedOrders = true) (hnd : ops.all noDefer = true) (hS : S w.drew)
    (h : S w.drew → wpAnyH P .any ops (CalmQ Q) S ops.size (Array.replicate ops.size false) a w.drew) : (Code.region id ops true).wpIn (Fence.wide.inRound l) n P Q a w := by
  refine Code.wpIn_mono CalmQ.imp (wpIn_region_any hm ?_)
  refine anyIn_of (fun j o c ho e => ?_) _ _ _ _ (wpAny_of_held _ _ _ _ (h hS))
  have h1 := Array.all_eq_true_iff_forall_mem.1 hnd o (Array.mem_of_getElem? ho)
  unfold noDefer at h1
  rw [e] at h1
  cases h1
end
end Go.Proofs.YtdaedkolpfkdjaaGreat
end

section
namespace Go.Proofs.YtdaedkolpfkdjaaGreat
open Go.RowKit Go.Maps Go.Shelf

theorem inB_rect (W H x y : Int) : inB [⟨0, 0, W, H⟩] x y = true ↔ (0 ≤ x ∧ x < W) ∧ 0 ≤ y ∧ y < H := by
  rw [inB_iff]
  unfold InR
  constructor
  · rintro ⟨r, hr, h⟩
    obtain rfl := List.mem_singleton.1 hr
    dsimp only at h
    omega
  · intro h
    exact ⟨_, List.mem_singleton.2 rfl, by dsimp only; omega, by dsimp only; omega, by dsimp only; omega, by dsimp only; omega⟩
/-- the window's area, shaped or not. -/
theorem areaZ_any (pv : Value) (n : Nat) (bs : Bxs) (id : Int) (b : BX) (sh : List RC) (Ys Xs : List Int) (w : World) (hid : 0 ≤ id ∧ id ≤ 4294967295) (hp : PlaceIs w pv n bs) (hb : bs id = some b) (hW : (1 ≤ b.W ∧ b.W ≤ 1000000) ∧ 1 ≤ b.H ∧ b.H ≤ 1000000)
    (ha : RegAt w (.agg #[.slice b.A b.n b.c]) sh) (he : EdgeIn (sh ++ [⟨0, 0, b.W, b.H⟩]) Ys Xs) (hYX : Ys.length * Xs.length ≤ 100000) :
    Calls Tryz.prog 77 #[pv, .int .u32 id] w fun e w' => ∃ v out, e = .returned v ∧ RegAt w' v out ∧ (∀ x y, inB out x y = (inB [⟨0, 0, b.W, b.H⟩] x y && (!b.S || inB sh x y))) ∧ Below w.heap.size w w' := by
  cases hS : b.S
  · refine (area_plain pv n bs id b w hid hp hb hS ⟨by omega, by omega⟩).mono ?_
    rintro e w' ⟨out, A', c', rfl, hr, hc, hi, hl, hB⟩
    have hin : ∀ x y, inB out x y = (inB [⟨0, 0, b.W, b.H⟩] x y && (!b.S || inB sh x y)) := fun x y => by
      rw [hS, Bool.eq_iff_iff, inB_iff, hi]
      simp [inB_rect]
    have e1 : out = [⟨0, 0, b.W, b.H⟩] := canon_uniq hc (canon_one (by dsimp only; omega) (by dsimp only; omega)) (fun x y => by
      rw [← inB_iff, ← inB_iff, hin, hS]
      simp)
    have hcn : ∀ r ∈ out, r.cnt = true := fun r hr => by
      rw [e1] at hr
      obtain rfl := List.mem_singleton.1 hr
      exact (cnt_iff _).2 (by dsimp only; omega)
    rw [hS] at hin
    exact ⟨_, out, rfl, ⟨A', c', rfl, hr, hc, hl, hcn⟩, hin, hB⟩
  · refine (area_shaped pv n bs id b sh Ys Xs w hid hp hb hS hW ha he hYX).mono ?_
    rintro e w' ⟨v, out, rfl, hro, hin, hed, hB⟩
    exact ⟨v, out, rfl, hro, fun x y => by rw [hin, Bool.and_comm]; simp, hB⟩

/-- the places of rectangles farther on. -/
theorem shift_places {l : List RC} (hc : ∀ r ∈ l, r.cnt = true) (dx dy x y : Int) : InR ((l.map (mvR dx dy)).filter RC.cnt) x y ↔ InR l (x - dx) (y - dy) ∧ (-1048576 ≤ x ∧ x < 1048576) ∧ -1048576 ≤ y ∧ y < 1048576 := by
  unfold InR
  constructor
  · rintro ⟨q, hq, h1, h2, h3, h4⟩
    obtain ⟨hq, _⟩ := List.mem_filter.1 hq
    obtain ⟨r, hr, rfl⟩ := List.mem_map.1 hq
    obtain ⟨bX, bY⟩ := cntI r (hc r hr)
    unfold mvR mvA mvN at h1 h2 h3 h4
    dsimp only at h1 h2 h3 h4
    exact ⟨⟨r, hr, by omega, by omega, by omega, by omega⟩, by omega, by omega⟩
  · rintro ⟨⟨r, hr, h1, h2, h3, h4⟩, h5, h6⟩
    obtain ⟨bX, bY⟩ := cntI r (hc r hr)
    have e : -1048576 ≤ (mvR dx dy r).X ∧ 0 < (mvR dx dy r).W ∧ (mvR dx dy r).X + (mvR dx dy r).W ≤ 1048576 ∧ -1048576 ≤ (mvR dx dy r).Y ∧ 0 < (mvR dx dy r).H ∧ (mvR dx dy r).Y + (mvR dx dy r).H ≤ 1048576 := by
      unfold mvR mvA mvN
      dsimp only
      omega
    refine ⟨mvR dx dy r, List.mem_filter.2 ⟨List.mem_map.2 ⟨r, hr, rfl⟩, (cnt_iff _).2 (by omega)⟩, ?_, ?_, ?_, ?_⟩ <;> (unfold mvR mvA mvN; dsimp only; omega)

section
variable {W W' : World}
/-- a cell lies in a block of cells. -/
theorem cells_of {b o : Nat} {v : Value} (h : W.cell? ⟨b, o, none⟩ = some v) : ∃ ob : Obj, W.heap[b]? = some ob ∧ ob.isCells = true := by
  unfold World.cell? at h
  cases hb : W.heap[b]? with
  | none => simp [hb] at h
  | some ob =>
    refine ⟨ob, rfl, ?_⟩
    cases ob <;> simp [hb] at h <;> rfl
theorem RdR.keepRow {A : Option Addr} {n : Nat} {rs : List RC} {row : Option Nat} (h : RdR W A n rs) (hg : W.grownBy W' row) (hr : ∀ r, row = some r → ∀ ob : Obj, W.heap[r]? = some ob → ob.isCells = false) : RdR W' A n rs :=
  ⟨h.1, fun hn => by
    obtain ⟨b, off, e, hb, hc⟩ := h.2 hn
    obtain ⟨r, hr'⟩ : ∃ r, rs[0]? = some r := ⟨_, List.getElem?_eq_getElem (by rw [h.1]; exact hn)⟩
    obtain ⟨ob, ho, hi⟩ := cells_of (hc 0 r hr').1
    have hne : some b ≠ row := fun e' => by rw [hr b e'.symm ob ho] at hi; cases hi
    have hk : ∀ o v, W.cell? ⟨b, o, none⟩ = some v → W'.cell? ⟨b, o, none⟩ = some v := fun o v hv => (World.cell?_of_block (hg.block b hb hne)).trans hv
    exact ⟨b, off, e, Nat.lt_of_lt_of_le hb hg.size, fun i r hi => by
      obtain ⟨c0, c1, c2, c3⟩ := hc i r hi
      exact ⟨hk _ _ c0, hk _ _ c1, hk _ _ c2, hk _ _ c3⟩⟩⟩
theorem RegAt.keepRow {v : Value} {l : List RC} {row : Option Nat} (h : RegAt W v l) (hg : W.grownBy W' row) (hr : ∀ r, row = some r → ∀ ob : Obj, W.heap[r]? = some ob → ob.isCells = false) : RegAt W' v l := by
  obtain ⟨A, c, e, h1, h2⟩ := h
  exact ⟨A, c, e, h1.keepRow hg hr, h2⟩
theorem RegAt.map {v : Value} {l : List RC} {k : TypeId} {q : IntKind} {mv n : Nat} {f : Int → Option Value} (h : RegAt W v l) (hm : MapIs Tryz.prog k q W mv n f) (hg : W.grownBy W' (some mv)) : RegAt W' v l :=
  h.keepRow hg (fun r e ob ho => by
    cases e
    obtain ⟨es, cl, he⟩ := hm.obj
    rw [he] at ho
    cases ho
    rfl)
/-- where the block of a variable that holds a slice, and a map's, may change. -/
theorem RdR.keep2 {A B : Option Addr} {n m c g mv : Nat} {t : TypeId} {rs : List RC} {k : TypeId} {q : IntKind} {n' : Nat} {f : Int → Option Value} (h : RdR W A n rs) (hB : Blk W g t #[.slice B m c]) (hm : MapIs Tryz.prog k q W mv n' f) (hs : W.heap.size ≤ W'.heap.size) (hk : ∀ b, b < W.heap.size → b ≠ mv → b ≠ g → W'.heap[b]? = W.heap[b]?) : RdR W' A n rs :=
  ⟨h.1, fun hn => by
    obtain ⟨b, off, e, hb, hc⟩ := h.2 hn
    obtain ⟨r, hr'⟩ : ∃ r, rs[0]? = some r := ⟨_, List.getElem?_eq_getElem (by rw [h.1]; exact hn)⟩
    have c0 := (hc 0 r hr').1
    have hne : b ≠ g := fun e' => by
      subst e'
      rw [hB.cell] at c0
      cases hoff : off + 0 * 4 with
      | zero => rw [hoff] at c0; simp at c0
      | succ k => rw [hoff] at c0; simp at c0
    have hne2 : b ≠ mv := fun e' => by
      obtain ⟨ob, ho, hi⟩ := cells_of c0
      obtain ⟨es, cl, he⟩ := hm.obj
      rw [e', he] at ho
      cases ho
      cases hi
    have hk : ∀ o v, W.cell? ⟨b, o, none⟩ = some v → W'.cell? ⟨b, o, none⟩ = some v := fun o v hv => (World.cell?_of_block (hk b hb hne2 hne)).trans hv
    exact ⟨b, off, e, Nat.lt_of_lt_of_le hb hs, fun i r hi => by
      obtain ⟨c0, c1, c2, c3⟩ := hc i r hi
      exact ⟨hk _ _ c0, hk _ _ c1, hk _ _ c2, hk _ _ c3⟩⟩⟩
end

/-- the value of what shows of a window. -/
def shV (ox oy : Int) (A : Option Addr) (n c : Nat) : Value := .agg #[.int .i64 ox, .int .i64 oy, .slice A n c]
theorem Tryz.zeroShown (w : World) : (zeroValue 188).run Tryz.prog w = .ok (shV 0 0 none 0 0) w := by kernel_rfl
/-- what was told last of a window. -/
def lastE (es : List (Int × Places)) (i : Int) : Option (Int × Places) := es.reverse.find? (fun e => decide (e.1 = i))
theorem lastE_snoc (es : List (Int × Places)) (e : Int × Places) (i : Int) : lastE (es ++ [e]) i = if e.1 = i then some e else lastE es i := by
  unfold lastE
  rw [List.reverse_append, List.reverse_singleton, List.singleton_append, List.find?_cons]
  by_cases h : e.1 = i <;> simp [h]
theorem lastE_id {es : List (Int × Places)} {i : Int} {e : Int × Places} (h : lastE es i = some e) : e.1 = i ∧ e ∈ es := by
  unfold lastE at h
  have h1 := List.find?_some h
  have h2 := List.mem_of_find?_eq_some h
  exact ⟨by simpa using h1, by simpa using h2⟩
/-- what has been told so far. -/
structure HandAt (w0 : World) (mv : Nat) (ns : Nodes) (bs : Bxs) (es : List (Int × Places)) (x : World) : Prop where
  grown : w0.grownBy x (some mv)
  lt : mv < w0.heap.size
  map : ∃ n f, n ≤ es.length ∧ MapIs Tryz.prog 48 .u32 x mv n f ∧ (∀ i, lastE es i = none → f i = none) ∧ ∀ i e, lastE es i = some e → ∃ A c out, f i = some (shV (orgX ns bs i) (orgY ns bs i) A out.length c) ∧ RegAt x (.agg #[.slice A out.length c]) out ∧ ∀ a b, inB out a b = e.2 a b
section
variable {w0 x y : World} {mv : Nat} {ns : Nodes} {bs : Bxs} {es : List (Int × Places)}
theorem HandAt.keepRow {row : Option Nat} (h : HandAt w0 mv ns bs es x) (hg : x.grownBy y row) (hr : ∀ r, row = some r → w0.heap.size ≤ r ∧ ∀ ob : Obj, x.heap[r]? = some ob → ob.isCells = false) : HandAt w0 mv ns bs es y := by
  have hlt := h.lt
  have hne : some mv ≠ row := fun e => by have := (hr mv e.symm).1; omega
  refine ⟨h.grown.andThen hg (fun j hj => .inl (hr j hj).1), hlt, ?_⟩
  obtain ⟨n, f, h0, h1, h2, h3⟩ := h.map
  exact ⟨n, f, h0, h1.kept hg hne, h2, fun i e he => by
    obtain ⟨A, c, out, q1, q2, q3⟩ := h3 i e he
    exact ⟨A, c, out, q1, q2.keepRow hg (fun r e => (hr r e).2), q3⟩⟩
theorem HandAt.below (h : HandAt w0 mv ns bs es x) (hb : Below x.heap.size x y) : HandAt w0 mv ns bs es y :=
  h.keepRow (row := none) ⟨hb.os, hb.tape, hb.output, hb.size, fun i hi _ => hb.block i hi⟩ (fun r e => by cases e)
/-- a variable that holds a region is written. -/
theorem HandAt.setReg (h : HandAt w0 mv ns bs es x) {g n c : Nat} {t : TypeId} {B : Option Addr} (hB : Blk x g t #[.slice B n c]) (hg : w0.heap.size ≤ g) (u : Value) : HandAt w0 mv ns bs es (x.setCell ⟨g, 0, none⟩ u) := by
  have hlt := h.lt
  refine ⟨h.grown.andThen (grown_setCell x ⟨g, 0, none⟩ u) (fun j hj => .inl (by cases hj; exact hg)), hlt, ?_⟩
  obtain ⟨n', f, h0, h1, h2, h3⟩ := h.map
  exact ⟨n', f, h0, h1.setCell (a := ⟨g, 0, none⟩) (by show mv ≠ g; omega) u, h2, fun i e he => by
    obtain ⟨A, c, out, q1, q2, q3⟩ := h3 i e he
    exact ⟨A, c, out, q1, q2.farS hB u, q3⟩⟩
/-- one more is told. -/
theorem HandAt.put (h : HandAt w0 mv ns bs es x) {id : Int} {A : Option Addr} {c n : Nat} {out : List RC} {P : Places} {f : Int → Option Value} (hn : n ≤ es.length) (hm : MapIs Tryz.prog 48 .u32 x mv n f) (hf : (∀ i, lastE es i = none → f i = none) ∧ ∀ i e, lastE es i = some e → ∃ A c out, f i = some (shV (orgX ns bs i) (orgY ns bs i) A out.length c) ∧ RegAt x (.agg #[.slice A out.length c]) out ∧ ∀ a b, inB out a b = e.2 a b)
    (hr : RegAt x (.agg #[.slice A out.length c]) out) (hp : ∀ a b, inB out a b = P a b)
    (hy : MapIs Tryz.prog 48 .u32 y mv (if (f id).isSome then n else n + 1) (fun j => if j = id then some (shV (orgX ns bs id) (orgY ns bs id) A out.length c) else f j)) (hg : x.grownBy y (some mv)) : HandAt w0 mv ns bs (es ++ [(id, P)]) y := by
  refine ⟨h.grown.andThen hg (fun j hj => .inr hj), h.lt, _, _, ?_, hy, fun i hi => ?_, fun i e he => ?_⟩
  · rw [List.length_append, List.length_singleton]
    split <;> omega
  · rw [lastE_snoc] at hi
    dsimp only at hi
    by_cases h1 : id = i
    · rw [if_pos h1] at hi; cases hi
    · rw [if_neg h1] at hi
      rw [if_neg (fun e => h1 e.symm)]
      exact hf.1 i hi
  · rw [lastE_snoc] at he
    dsimp only at he
    by_cases h1 : id = i
    · rw [if_pos h1] at he
      cases he
      subst h1
      exact ⟨A, c, out, by rw [if_pos rfl], hr.map hm hg, hp⟩
    · rw [if_neg h1] at he
      obtain ⟨A', c', out', q1, q2, q3⟩ := hf.2 i e he
      exact ⟨A', c', out', by rw [if_neg (fun e => h1 e.symm)]; exact q1, q2.map hm hg, q3⟩
end

/-- blocks that stay. -/
theorem KeepS.stepB {p : Nat → Prop} {W x y : World} (h : KeepS p W x) (hp : ∀ b, p b → b < W.heap.size) (hb : Below x.heap.size x y) : KeepS p W y :=
  ⟨Nat.le_trans h.size hb.size, fun b hb' => (hb.block b (Nat.lt_of_lt_of_le (hp b hb') h.size)).trans (h.block b hb')⟩
theorem KeepS.stepG {p : Nat → Prop} {W x y : World} {row : Option Nat} (h : KeepS p W x) (hp : ∀ b, p b → b < W.heap.size ∧ some b ≠ row) (hg : x.grownBy y row) : KeepS p W y :=
  ⟨Nat.le_trans h.size hg.size, fun b hb' => (hg.block b (Nat.lt_of_lt_of_le (hp b hb').1 h.size) (hp b hb').2).trans (h.block b hb')⟩

end Go.Proofs.YtdaedkolpfkdjaaGreat
end

section
namespace Go.Proofs.YtdaedkolpfkdjaaGreat
open Go.RowKit Go.Maps Go.Shelf

/-- windows' boxes as the plain law has them. -/
structure BxRel (W : World) (bs : Bxs) (bx : Int → Option VB) : Prop where
  each : ∀ k b, bs k = some b → ∃ vb sh Ys Xs, bx k = some vb ∧ vb.X = b.X ∧ vb.Y = b.Y ∧ vb.M = b.M ∧ RegAt W (.agg #[.slice b.A b.n b.c]) sh ∧ (∀ x y, vb.area x y = (inB [⟨0, 0, b.W, b.H⟩] x y && (!b.S || inB sh x y))) ∧ EdgeIn (sh ++ [⟨0, 0, b.W, b.H⟩]) Ys Xs ∧ Ys.length * Xs.length ≤ 100000
  non : ∀ k, bs k = none → bx k = none
theorem BxRel.below {W W' : World} {bs : Bxs} {bx : Int → Option VB} (h : BxRel W bs bx) (hb : Below W.heap.size W W') : BxRel W' bs bx :=
  ⟨fun k b hk => by
    obtain ⟨vb, sh, Ys, Xs, h1, h2, h3, h4, h5, h6⟩ := h.each k b hk
    exact ⟨vb, sh, Ys, Xs, h1, h2, h3, h4, h5.below hb, h6⟩, h.non⟩
/-- what the walk is given. -/
structure VCtx (wB w0 : World) (bp bt bh bv mv : Nat) (mp mk mu : Option Nat) (n nk : Nat) (fk : Int → Option Value) (ns : Nodes) (bs : Bxs) (bx : Int → Option VB) (RW RH : Int) : Prop where
  hB : Below wB.heap.size wB w0
  hm : wB.heap.size ≤ mv
  hm0 : mv < w0.heap.size
  k3 : Blk w0 bp 40 #[.map mp]
  k4 : Blk w0 bt 37 #[.map mk, .map mu]
  k5 : Blk w0 bh 177 #[.func (.func 86) #[] #[.pointer (some ⟨bp, 0, none⟩), .pointer (some ⟨bt, 0, none⟩), .pointer (some ⟨bh, 0, none⟩), .pointer (some ⟨bv, 0, none⟩)]]
  k6 : Blk w0 bv 52 #[.slice none 0 0, .map (some mv)]
  n3 : bp ≠ mv
  n4 : bt ≠ mv
  n5 : bh ≠ mv
  n6 : bv ≠ mv
  place : PlaceIs wB (.agg #[.map mp]) n bs
  tree : TreeIs wB (.agg #[.map mk, .map mu]) ns mk mu nk fk
  tok : TreeOk ns
  rel : BxRel wB bs bx
  sides : ∀ k b, bs k = some b → (1 ≤ b.W ∧ b.W ≤ 128) ∧ 1 ≤ b.H ∧ b.H ≤ 128
  nearb : nearB bs
  near : ∀ k, (-1900000 ≤ orgX ns bs k ∧ orgX ns bs k ≤ 1900000) ∧ -1900000 ≤ orgY ns bs k ∧ orgY ns bs k ≤ 1900000
  side : (0 ≤ RW ∧ RW ≤ 128) ∧ 0 ≤ RH ∧ RH ≤ 128
def InRoot (RW RH : Int) (l : List RC) : Prop := ∀ x y, InR l x y → (0 ≤ x ∧ x < RW) ∧ 0 ≤ y ∧ y < RH
section
variable {wB w0 : World} {bp bt bh bv mv : Nat} {mp mk mu : Option Nat} {n nk : Nat} {fk : Int → Option Value} {ns : Nodes} {bs : Bxs} {bx : Int → Option VB} {RW RH : Int} {es : List (Int × Places)} {x y : World}
theorem VCtx.at_ (C : VCtx wB w0 bp bt bh bv mv mp mk mu n nk fk ns bs bx RW RH) (h : w0.grownBy x (some mv)) : Below wB.heap.size wB x := C.hB.grown h C.hB.size (fun q e => by cases e; exact C.hm)
theorem orgL_eq (h : BxRel wB bs bx) : ∀ (l : List Int), allB bs l = true → orgL bx l = (sumX bs l, sumY bs l)
  | [], _ => rfl
  | k :: l, ha => by
    unfold allB at ha
    rw [List.all_cons, Bool.and_eq_true] at ha
    have ih := orgL_eq h l ha.2
    unfold orgL
    rw [ih]
    obtain ⟨b, hb⟩ := Option.isSome_iff_exists.1 ha.1
    obtain ⟨vb, _, _, _, h1, h2, h3, _⟩ := h.each k b hb
    by_cases hk : k = 1
    · rw [if_pos hk]
      simp [sumX, sumY, hk]
    · rw [if_neg hk, h1]
      simp [sumX, sumY, hk, hb, h2, h3]
theorem orgN_eq (h : BxRel wB bs bx) {id : Int} (ho : orgOk ns bs id = true) : orgN ns bx id = (orgX ns bs id, orgY ns bs id) := by
  unfold orgN orgX orgY
  rw [ho]
  unfold orgOk at ho
  rw [Bool.and_eq_true] at ho
  exact orgL_eq h _ ho.2
/-- a kid's place. -/
theorem org_kid (htok : TreeOk ns) {id k : Int} {b : BX} (hk : k ∈ kidsOf ns id) (ho : orgOk ns bs id = true) (hb : bs k = some b) : orgOk ns bs k = true ∧ orgX ns bs k = orgX ns bs id + b.X ∧ orgY ns bs k = orgY ns bs id + b.Y := by
  obtain ⟨hu, hh⟩ := kids_up htok hk
  obtain ⟨hp, _, h1⟩ := path_step htok hu
  have ho' := ho
  unfold orgOk at ho'
  rw [Bool.and_eq_true] at ho'
  have hok : orgOk ns bs k = true := by
    unfold orgOk
    rw [hh, hp]
    unfold allB
    rw [List.all_cons, hb]
    simpa [allB] using ho'.2
  refine ⟨hok, ?_, ?_⟩
  · unfold orgX
    rw [hok, ho, hp]
    simp [sumX, h1, hb]
    omega
  · unfold orgY
    rw [hok, ho, hp]
    simp [sumY, h1, hb]
    omega
theorem inRoot_edges {l : List RC} (hpos : ∀ r ∈ l, 0 < r.W ∧ 0 < r.H) (hs : (0 ≤ RW ∧ RW ≤ 128) ∧ 0 ≤ RH ∧ RH ≤ 128) (h : InRoot RW RH l) : EdgeIn l (upto 0 RH.toNat) (upto 0 RW.toNat) :=
  box_edges hpos (fun x y hxy => by have := h x y hxy; omega)
theorem RegAt.pos {W : World} {v : Value} {l : List RC} (h : RegAt W v l) : ∀ r ∈ l, 0 < r.W ∧ 0 < r.H := by
  obtain ⟨A, c, _, _, hc, _⟩ := h
  exact canon_pos hc
theorem RegAt.cnt {W : World} {v : Value} {l : List RC} (h : RegAt W v l) : ∀ r ∈ l, r.cnt = true := by
  obtain ⟨A, c, _, _, _, _, hc⟩ := h
  exact hc
end

end Go.Proofs.YtdaedkolpfkdjaaGreat
end

section
namespace Go.Proofs.YtdaedkolpfkdjaaGreat
open Go.RowKit Go.Maps Go.Shelf

theorem RegAt.keep2 {W W' : World} {A B : Option Addr} {n m c c' g mv : Nat} {t : TypeId} {l : List RC} {k : TypeId} {q : IntKind} {n' : Nat} {f : Int → Option Value} (h : RegAt W (.agg #[.slice A n c']) l) (hB : Blk W g t #[.slice B m c]) (hm : MapIs Tryz.prog k q W mv n' f) (hk : KeepS (fun b => b < W.heap.size ∧ b ≠ mv ∧ b ≠ g) W W') : RegAt W' (.agg #[.slice A n c']) l := by
  obtain ⟨A1, c1, e, h1, h2⟩ := h
  exact ⟨A1, c1, e, h1.keep2 hB hm hk.size (fun b h1 h2 h3 => hk.block b ⟨h1, h2, h3⟩), h2⟩
/-- the variable that holds what is left. -/
def LeftAt (RW RH : Int) (W : World) (g : Nat) (P : Places) : Prop := ∃ (l : List RC) (A : Option Addr) (c : Nat), Blk W g 57 #[.slice A l.length c] ∧ RegAt W (.agg #[.slice A l.length c]) l ∧ InRoot RW RH l ∧ ∀ a b, inB l a b = P a b
theorem LeftAt.below {RW RH : Int} {W W' : World} {g : Nat} {P : Places} (h : LeftAt RW RH W g P) (hb : Below W.heap.size W W') : LeftAt RW RH W' g P := by
  obtain ⟨l, A, c, h1, h2, h3⟩ := h
  exact ⟨l, A, c, h1.belowS hb, h2.below hb, h3⟩
theorem LeftAt.keepRow {RW RH : Int} {W W' : World} {g : Nat} {P : Places} {row : Option Nat} (h : LeftAt RW RH W g P) (hg : W.grownBy W' row) (hr : ∀ r, row = some r → g ≠ r ∧ ∀ ob : Obj, W.heap[r]? = some ob → ob.isCells = false) : LeftAt RW RH W' g P := by
  obtain ⟨l, A, c, h1, h2, h3⟩ := h
  exact ⟨l, A, c, h1.grown hg (fun e => (hr g e.symm).1 rfl), h2.keepRow hg (fun r e => (hr r e).2), h3⟩
section
variable {ns : Nodes} {bx : Int → Option VB}
theorem flat_rev {α β : Type} (l : List α) (f : α → List β) : (l.reverse.flatMap f).length = (l.flatMap f).length := by
  induction l with
  | nil => rfl
  | cons a l ih => rw [List.reverse_cons, List.flatMap_append, List.length_append, ih, List.flatMap_cons, List.flatMap_cons, List.flatMap_nil, List.append_nil, List.length_append]; omega
theorem fold_len {hand : Int → Places → Places → List (Int × Places)} {o : Int × Int} {P : Places} (hh : ∀ k P L, (hand k P L).length ≤ (belowAt ns k).length) :
    ∀ (ks : List Int) (s : List (Int × Places) × Places), (ks.foldl (stepK bx hand o P) s).1.length ≤ s.1.length + (ks.flatMap (belowAt ns)).length
  | [], s => by simp
  | k :: ks, s => by
    rw [List.foldl_cons, List.flatMap_cons, List.length_append]
    have h1 := fold_len (o := o) (P := P) hh ks (stepK bx hand o P s k)
    have h2 : (stepK bx hand o P s k).1.length ≤ s.1.length + (belowAt ns k).length := by
      unfold stepK
      cases kidA bx o k with
      | none => exact Nat.le_add_right _ _
      | some A =>
        dsimp only
        rw [List.length_append]
        have := hh k (fun x y => A x y && P x y) (fun x y => (A x y && P x y) && s.2 x y)
        omega
    omega
theorem handF_len (h : TreeOk ns) : ∀ (f : Nat) (id : Int) (P L : Places), (handF ns bx f id P L).length ≤ (belowAt ns id).length
  | 0, id, P, L => by
    rw [below_step h]
    simp [handF]
  | f + 1, id, P, L => by
    rw [below_step h]
    unfold handF
    have h1 := fold_len (bx := bx) (hand := handF ns bx f) (o := orgN ns bx id) (P := P) (handF_len h f) (kidsOf ns id).reverse ([], L)
    rw [flat_rev] at h1
    simp only [List.length_append, List.length_cons, List.length_nil, Nat.zero_add] at h1 ⊢
    omega
theorem flat_le {l : List Int} {B : Nat} (h : ∀ k ∈ l, (belowAt ns k).length ≤ B) : (l.flatMap (belowAt ns)).length ≤ l.length * B := by
  induction l with
  | nil => simp
  | cons k l ih =>
    rw [List.flatMap_cons, List.length_append, List.length_cons, Nat.add_mul, Nat.one_mul]
    have h1 := h k (by simp)
    have h2 := ih (fun j hj => h j (List.mem_cons_of_mem _ hj))
    omega
theorem flat_ge {l : List Int} {k : Int} (h : k ∈ l) : (belowAt ns k).length ≤ (l.flatMap (belowAt ns)).length := by
  induction l with
  | nil => cases h
  | cons j l ih =>
    rw [List.flatMap_cons, List.length_append]
    rcases List.mem_cons.1 h with rfl | h
    · omega
    · have := ih h; omega
/-- what is told, and left, behind some kids. -/
def foldS (ns : Nodes) (bx : Int → Option VB) (f : Nat) (id : Int) (P L : Places) {m : Nat} (pre : List (Fin m)) : List (Int × Places) × Places :=
  (pre.map fun i => (kidsOf ns id).getD i.val 0).foldl (stepK bx (handF ns bx f) (orgN ns bx id) P) ([], L)
theorem foldS_snoc {f : Nat} {id : Int} {P L : Places} {m : Nat} (pre : List (Fin m)) (p : Fin m) : foldS ns bx f id P L (pre ++ [p]) = stepK bx (handF ns bx f) (orgN ns bx id) P (foldS ns bx f id P L pre) ((kidsOf ns id).getD p.val 0) := by
  unfold foldS
  rw [List.map_append, List.foldl_append]
  rfl
theorem foldS_len (h : TreeOk ns) {f : Nat} {id : Int} {P L : Places} {m : Nat} (hm : (kidsOf ns id).length = m) (pre : List (Fin m)) : (foldS ns bx f id P L pre).1.length ≤ pre.length * (ns.length + 1) := by
  have h1 := fold_len (bx := bx) (hand := handF ns bx f) (o := orgN ns bx id) (P := P) (handF_len h f) (pre.map fun i => (kidsOf ns id).getD i.val 0) ([], L)
  refine Nat.le_trans h1 ?_
  have h2 := flat_le (ns := ns) (l := pre.map fun i => (kidsOf ns id).getD i.val 0) (B := ns.length + 1) (fun k hk => by
    obtain ⟨i, _, rfl⟩ := List.mem_map.1 hk
    have hk : (kidsOf ns id).getD i.val 0 ∈ kidsOf ns id := by
      rw [List.getD_eq_getElem?_getD, List.getElem?_eq_getElem (by rw [hm]; exact i.isLt)]
      exact List.getElem_mem _
    exact below_len h (kids_up h hk).2)
  simpa using h2
theorem foldS_all {f : Nat} {id : Int} {P L : Places} {m : Nat} (hm : (kidsOf ns id).length = m) : foldS ns bx f id P L (revF m) = (kidsOf ns id).reverse.foldl (stepK bx (handF ns bx f) (orgN ns bx id) P) ([], L) := by
  subst hm
  unfold foldS
  rw [revF_map]
end
theorem meet_spec {oa sh1 pl ar : List RC} {dx dy RW RH : Int} {area : Places} (hcn : ∀ r ∈ oa, r.cnt = true) (hoa : ∀ a b, inB oa a b = area a b) (hs : ∀ a b, InR sh1 a b ↔ InR ((oa.map (mvR dx dy)).filter RC.cnt) a b) (hroot : InRoot RW RH pl) (hside : (0 ≤ RW ∧ RW ≤ 128) ∧ 0 ≤ RH ∧ RH ≤ 128) (har : ∀ a b, inB ar a b = (inB sh1 a b && inB pl a b)) :
    inB ar = (fun a b => area (a - dx) (b - dy) && inB pl a b) ∧ InRoot RW RH ar := by
  have h1 : inB ar = (fun a b => area (a - dx) (b - dy) && inB pl a b) := by
    funext a b
    rw [har, ← hoa]
    cases hp : inB pl a b with
    | false => simp
    | true =>
      have hb := hroot a b ((inB_iff _ _ _).1 hp)
      rw [Bool.and_true, Bool.and_true, Bool.eq_iff_iff, inB_iff, inB_iff, hs, shift_places hcn]
      exact ⟨fun h => h.1, fun h => ⟨h, by omega, by omega⟩⟩
  refine ⟨h1, fun a b h => ?_⟩
  rw [← inB_iff, har, Bool.and_eq_true] at h
  exact hroot a b ((inB_iff _ _ _).1 h.2)
theorem root_edges {a b : List RC} {RW RH : Int} (ha : ∀ r ∈ a, 0 < r.W ∧ 0 < r.H) (hb : ∀ r ∈ b, 0 < r.W ∧ 0 < r.H) (hs : (0 ≤ RW ∧ RW ≤ 128) ∧ 0 ≤ RH ∧ RH ≤ 128) (h1 : InRoot RW RH a) (h2 : InRoot RW RH b) : EdgeIn (a ++ b) (upto 0 RH.toNat) (upto 0 RW.toNat) ∧ (upto 0 RH.toNat).length * (upto 0 RW.toNat).length ≤ 100000 := by
  refine ⟨(inRoot_edges ha hs h1).append (inRoot_edges hb hs h2), ?_⟩
  rw [upto_len, upto_len]
  have : (RH.toNat + 1) * (RW.toNat + 1) ≤ 129 * 129 := Nat.mul_le_mul (by omega) (by omega)
  omega
theorem shift_edges {oa sh1 b : List RC} {dx dy RW RH W H : Int} (hcn : ∀ r ∈ oa, r.cnt = true) (hin : ∀ x y, InR oa x y → (0 ≤ x ∧ x < W) ∧ 0 ≤ y ∧ y < H) (hW : (1 ≤ W ∧ W ≤ 128) ∧ 1 ≤ H ∧ H ≤ 128) (hsh : ∀ a b, InR sh1 a b ↔ InR ((oa.map (mvR dx dy)).filter RC.cnt) a b) (hp1 : ∀ r ∈ sh1, 0 < r.W ∧ 0 < r.H) (hb : ∀ r ∈ b, 0 < r.W ∧ 0 < r.H) (hs : (0 ≤ RW ∧ RW ≤ 128) ∧ 0 ≤ RH ∧ RH ≤ 128) (h2 : InRoot RW RH b) :
    EdgeIn (sh1 ++ b) (upto dy H.toNat ++ upto 0 RH.toNat) (upto dx W.toNat ++ upto 0 RW.toNat) ∧ (upto dy H.toNat ++ upto 0 RH.toNat).length * (upto dx W.toNat ++ upto 0 RW.toNat).length ≤ 100000 := by
  have e1 : EdgeIn sh1 (upto dy H.toNat) (upto dx W.toNat) := box_edges hp1 (fun x y h => by
    have h1 := (hsh x y).1 h
    rw [shift_places hcn] at h1
    have := hin _ _ h1.1
    omega)
  refine ⟨e1.join (inRoot_edges hb hs h2), ?_⟩
  rw [List.length_append, List.length_append, upto_len, upto_len, upto_len, upto_len]
  have : (H.toNat + 1 + (RH.toNat + 1)) * (W.toNat + 1 + (RW.toNat + 1)) ≤ 258 * 258 := Nat.mul_le_mul (by omega) (by omega)
  omega
theorem area_few {oa : List RC} {W H : Int} (hc : Canon oa) (hin : ∀ x y, InR oa x y → (0 ≤ x ∧ x < W) ∧ 0 ≤ y ∧ y < H) (hW : (1 ≤ W ∧ W ≤ 128) ∧ 1 ≤ H ∧ H ≤ 128) : oa.length ≤ 100000 := by
  have e1 : EdgeIn oa (upto 0 H.toNat) (upto 0 W.toNat) := box_edges (canon_pos hc) (fun x y h => by have := hin _ _ h; omega)
  have h1 := canon_count hc e1
  rw [upto_len, upto_len] at h1
  have : (H.toNat + 1) * (W.toNat + 1) ≤ 129 * 129 := Nat.mul_le_mul (by omega) (by omega)
  omega

end Go.Proofs.YtdaedkolpfkdjaaGreat
end

section
namespace Go.Proofs.YtdaedkolpfkdjaaGreat
open Go.RowKit Go.Maps Go.Shelf

section
variable {ns : Nodes} {bx : Int → Option VB} {f : Nat} {id : Int} {P L : Places} {m : Nat}
theorem foldS_skip (pre : List (Fin m)) (p : Fin m) {kid : Int} (hk : (kidsOf ns id).getD p.val 0 = kid) (h : kidA bx (orgN ns bx id) kid = none) : foldS ns bx f id P L (pre ++ [p]) = foldS ns bx f id P L pre := by
  rw [foldS_snoc, hk]
  unfold stepK
  rw [h]
theorem foldS_take (pre : List (Fin m)) (p : Fin m) {kid : Int} {A : Places} (hk : (kidsOf ns id).getD p.val 0 = kid) (h : kidA bx (orgN ns bx id) kid = some A) :
    foldS ns bx f id P L (pre ++ [p]) = ((foldS ns bx f id P L pre).1 ++ handF ns bx f kid (fun x y => A x y && P x y) (fun x y => (A x y && P x y) && (foldS ns bx f id P L pre).2 x y), fun x y => (foldS ns bx f id P L pre).2 x y && !(A x y && P x y)) := by
  rw [foldS_snoc, hk]
  unfold stepK
  rw [h]
theorem kidA_no {o : Int × Int} {k : Int} (h : bx k = none) : kidA bx o k = none := by unfold kidA; rw [h]
theorem kidA_hid {o : Int × Int} {k : Int} {vb : VB} (h : bx k = some vb) (hM : vb.M = false) : kidA bx o k = none := by unfold kidA; rw [h]; simp [hM]
theorem kidA_yes {o : Int × Int} {k : Int} {vb : VB} (h : bx k = some vb) (hM : vb.M = true) : kidA bx o k = some (fun x y => vb.area (x - (o.1 + vb.X)) (y - (o.2 + vb.Y))) := by unfold kidA; rw [h]; simp [hM]
end
section
variable {pK : Nat → Prop} {w0 w4 W W' w20 w21 w22 : World} {g mv : Nat} {ns : Nodes} {bs : Bxs} {es es2 : List (Int × Places)} {RW RH : Int} {P P2 : Places}
theorem round_skip (hKB : ∀ b, pK b → b < w4.heap.size ∧ b ≠ mv ∧ b ≠ g) (hks : KeepS (fun b => b < w4.heap.size ∧ b ≠ mv ∧ b ≠ g) w4 W) (hat : HandAt w0 mv ns bs es W) (hleft : LeftAt RW RH W g P) (hb : Below W.heap.size W W') :
    KeepsFrom w4.heap.size W W' ∧ KeepS pK W W' ∧ HandAt w0 mv ns bs es W' ∧ LeftAt RW RH W' g P ∧ KeepS (fun b => b < w4.heap.size ∧ b ≠ mv ∧ b ≠ g) w4 W' :=
  ⟨KeepsFrom.of_grownBy (row := none) (grown_of_below hb none) (fun _ e => by cases e), (KeepS.refl pK W).stepB (fun b h => Nat.lt_of_lt_of_le (hKB b h).1 hks.size) hb, hat.below hb, hleft.below hb, hks.stepB (fun _ h => h.1) hb⟩
theorem round_take (hKB : ∀ b, pK b → b < w4.heap.size ∧ b ≠ mv ∧ b ≠ g) (hks : KeepS (fun b => b < w4.heap.size ∧ b ≠ mv ∧ b ≠ g) w4 W) (hg4 : g < w4.heap.size) (hm0 : mv < w4.heap.size) (hg0 : w0.heap.size ≤ g)
    (hb1 : Below W.heap.size W w20) (hg : w20.grownBy w21 (some mv)) (hat : HandAt w0 mv ns bs es2 w21) (hb2 : Below w21.heap.size w21 w22) {t : TypeId} (ht : t = 57) {B A : Option Addr} {n c c' : Nat} {l : List RC} (hB : Blk w22 g t #[.slice B n c]) (hl : RegAt w22 (.agg #[.slice A l.length c']) l) (hr : InRoot RW RH l) (hp : ∀ a b, inB l a b = P2 a b) :
    KeepsFrom w4.heap.size W (w22.setCell ⟨g, 0, none⟩ (.slice A l.length c')) ∧ KeepS pK W (w22.setCell ⟨g, 0, none⟩ (.slice A l.length c')) ∧ HandAt w0 mv ns bs es2 (w22.setCell ⟨g, 0, none⟩ (.slice A l.length c')) ∧ LeftAt RW RH (w22.setCell ⟨g, 0, none⟩ (.slice A l.length c')) g P2 ∧ KeepS (fun b => b < w4.heap.size ∧ b ≠ mv ∧ b ≠ g) w4 (w22.setCell ⟨g, 0, none⟩ (.slice A l.length c')) := by
  subst ht
  have hs := grown_setCell w22 ⟨g, 0, none⟩ (.slice A l.length c')
  refine ⟨?_, ?_, (hat.below hb2).setReg hB hg0 _, ⟨l, A, c', hB.set_ 0 _, hl.farS hB _, hr, hp⟩, ?_⟩
  · exact (KeepsFrom.of_grownBy (row := none) (grown_of_below hb1 none) (fun _ e => by cases e)).trans ((KeepsFrom.of_grownBy hg (fun j e => by cases e; exact hm0)).trans ((KeepsFrom.of_grownBy (row := none) (grown_of_below hb2 none) (fun _ e => by cases e)).trans (KeepsFrom.of_grownBy hs (fun j e => by cases e; exact hg4))))
  · have q : ∀ b, pK b → b < W.heap.size ∧ b ≠ mv ∧ b ≠ g := fun b h => ⟨Nat.lt_of_lt_of_le (hKB b h).1 hks.size, (hKB b h).2⟩
    exact ((((KeepS.refl pK W).stepB (fun b h => (q b h).1) hb1).stepG (fun b h => ⟨(q b h).1, fun e => (q b h).2.1 (Option.some.inj e)⟩) hg).stepB (fun b h => (q b h).1) hb2).stepG (fun b h => ⟨(q b h).1, fun e => (q b h).2.2 (Option.some.inj e)⟩) hs
  · exact (((hks.stepB (fun _ h => h.1) hb1).stepG (fun b h => ⟨h.1, fun e => h.2.1 (Option.some.inj e)⟩) hg).stepB (fun _ h => h.1) hb2).stepG (fun b h => ⟨h.1, fun e => h.2.2 (Option.some.inj e)⟩) hs
end

end Go.Proofs.YtdaedkolpfkdjaaGreat
end
