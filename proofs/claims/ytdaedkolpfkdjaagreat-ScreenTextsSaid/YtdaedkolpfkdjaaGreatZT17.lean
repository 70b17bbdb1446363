/-
  Regions plainly: what Has tells, and how many places rectangles in a rectangle have.
  The walk of a region's Has.
  Stores of whole structs into a variable's block; a region of one rectangle. (What Given and AwA have of it, for a seat that has neither.)
  The walk of a tree's Path.
  The walk of a place's Origin.
-/
import Derived.Test.YtdaedkolpfkdjaaGreatZT11
import Derived.Test.YtdaedkolpfkdjaaGreatZT02
import Derived.WalkMore
import Derived.Test.YtdaedkolpfkdjaaGreatZT09
import Derived.Test.YtdaedkolpfkdjaaGreatZT00
import Derived.Test.YtdaedkolpfkdjaaGreatZT03
import Derived.Deep.MidRow
import Derived.Test.YtdaedkolpfkdjaaGreatZT06
import Derived.Test.YtdaedkolpfkdjaaGreatZT10
import Derived.RegionTactic
import Derived.BigRegion
section
namespace Go.Proofs.YtdaedkolpfkdjaaGreat

/-- what Has does: the rectangles one by one, until one begins below the place. -/
def hasL : List RC → Int → Int → Bool
  | [], _, _ => false
  | r :: l, x, y => if y < r.Y then false else if r.Y + r.H ≤ y ∨ r.X + r.W ≤ x then hasL l x y else if r.X ≤ x then true else hasL l x y
def rowsI (f : Int → Int) : Nat → Int
  | 0 => 0
  | m + 1 => rowsI f m + f m
def rowW : List RC → Int → Int
  | [], _ => 0
  | r :: l, y => (if r.Y ≤ y ∧ y < r.Y + r.H then r.W else 0) + rowW l y
def sumW : List RC → Int
  | [] => 0
  | r :: l => r.W + sumW l
def areaS : List RC → Int
  | [] => 0
  | r :: l => r.W * r.H + areaS l
theorem areaL_go : ∀ (l : List RC) (k : Int), l.foldl (fun s r => s + r.W * r.H) k = k + areaS l
  | [], k => by simp [areaS]
  | r :: l, k => by rw [List.foldl_cons, areaL_go l, show areaS (r :: l) = r.W * r.H + areaS l from rfl]; omega
theorem areaL_S (l : List RC) : areaL l = areaS l := by unfold areaL; rw [areaL_go]; omega
end Go.Proofs.YtdaedkolpfkdjaaGreat
end

section
namespace Go.Proofs.YtdaedkolpfkdjaaGreat
open Go.RowKit

end Go.Proofs.YtdaedkolpfkdjaaGreat
end

section
namespace Go.Proofs.YtdaedkolpfkdjaaGreat
open Go.RowKit Go.Shelf

theorem canon_one {r : RC} (h1 : 0 < r.W) (h2 : 0 < r.H) : Canon [r] := by
  refine ⟨[⟨r.Y, r.H, [(r.X, r.X + r.W)]⟩], ?_, ⟨?_, ?_, ?_⟩⟩
  · simp only [flatB, List.flatMap_cons, List.flatMap_nil, List.append_nil, Bd.rc, bandL, List.map_cons, List.map_nil]
    rw [show r.X + r.W - r.X = r.W from by omega]
  · intro b hb
    simp only [List.mem_singleton] at hb
    subst hb
    refine ⟨h2, by simp, by simp, fun s hs => ?_⟩
    simp only [List.mem_singleton] at hs
    subst hs
    dsimp only
    omega
  · simp
  · intro pre a b post e
    have := congrArg List.length e
    simp at this
    omega

theorem bsets {w W : World} (h : Below w.heap.size w W) {g : Nat} (hg : w.heap.size ≤ g) : ∀ (vs : List Value) (o : Nat), Below w.heap.size w (W.setCells g o vs) := fun vs => by
  induction vs generalizing W with
  | nil => intro o; exact h
  | cons v vs ih => intro o; exact ih (bset (p := ⟨g, o, none⟩) h hg v) (o + 1)
theorem store_mid0 {P : Program} {op : Oper} {a : Act} {w : World} {K : Act → World → Prop} {Q : Exit → Act → World → Prop} (hd : op.dst = none) (ty : TypeId) (x y : Operand) (ho : op.op = .store ty x y)
    (b o : Nat) (cells : Array Value) (hx : a.eval x = .pointer (some ⟨b, o, none⟩)) (hy : a.eval y = .agg cells)
    (ht : w.there b o cells.size) (hi : (P.info? ty).map (·.size) = some cells.size) (h1 : cells.all (·.oneCell') = true)
    (h : K a (w.setCells b o cells.toList)) : op.wp P a w K Q := wp_store_mid ty x y ho b o cells hx hy ht hi h1 (by rw [hd]; exact h)
theorem there_blk {w : World} {g : Nat} {t : TypeId} {cs : Array Value} (h : Blk w g t cs) : w.there g 0 cs.size := fun j hj => ⟨by rw [h.cell]; simpa using hj, h.frozen _⟩
/-- all cells of a block are written. -/
theorem blk_all {g : Nat} {t : TypeId} : ∀ (vs : List Value) (o : Nat) (w : World) (cs : List Value), Blk w g t cs.toArray → o + vs.length ≤ cs.length → Blk (w.setCells g o vs) g t (cs.take o ++ vs ++ cs.drop (o + vs.length)).toArray := by
  intro vs
  induction vs with
  | nil => intro o W cs h _; simpa [World.setCells] using h
  | cons v vs ih =>
    intro o W cs h hl
    simp only [List.length_cons] at hl
    have h1 : Blk (W.setCell ⟨g, o, none⟩ v) g t (cs.set o v).toArray := by simpa using h.set_ o v
    have h2 := ih (o + 1) _ _ h1 (by rw [List.length_set]; omega)
    have e : (cs.set o v).take (o + 1) ++ vs ++ (cs.set o v).drop (o + 1 + vs.length) = cs.take o ++ v :: vs ++ cs.drop (o + (vs.length + 1)) := by
      rw [List.take_add_one, List.take_set_of_le (Nat.le_refl _), List.getElem?_set_self (by omega), List.drop_set_of_lt (by omega), show o + 1 + vs.length = o + (vs.length + 1) from by omega]
      simp
    rw [e] at h2
    exact h2
end Go.Proofs.YtdaedkolpfkdjaaGreat
end

section
namespace Go.Proofs.YtdaedkolpfkdjaaGreat
open Go.RowKit Go.Maps Go.Shelf

theorem upv_wf {ns : Nodes} (h : okN ns) {i p : Int} (hp : upOf ns i = some p) : 0 ≤ p ∧ p ≤ 4294967295 := (h _ (upOf_some hp)).2
theorem path_ok {ns : Nodes} (hk : okN ns) (h : TreeOk ns) {id x : Int} (_hid : 0 ≤ id ∧ id ≤ 4294967295) (hx : x ∈ pathN ns id) : 0 ≤ x ∧ x ≤ 4294967295 := by
  rcases hasN_iff.1 (path_has h hx) with e | ⟨p, hp⟩
  · rw [e]; omega
  · exact (hk _ (upOf_some hp)).1

set_option maxRecDepth 100000 in
set_option maxHeartbeats 4000000 in
theorem path_any (v : Value) (ns : Nodes) (mk mu : Option Nat) (nk : Nat) (fk : Int → Option Value) (id : Int) (w : World) (hid : 0 ≤ id ∧ id ≤ 4294967295) (h : TreeIs w v ns mk mu nk fk) (hok : TreeOk ns) :
    Calls Tryz.prog 146 #[v, .int .u32 id] w fun e w' => ∃ u, e = .returned u ∧ w'.ownsRow w.heap.size 48 1 u (pathN ns id).length (U32 (pathN ns id)) ∧ Below w.heap.size w w' := by
  obtain ⟨i0, hi0, hz0, hz1, hz2⟩ := info_parts Tryz.infoU
  have hv := h.shape
  subst hv
  have HT := Lib.hid h
  have HB0 := Lib.hid (bal (bre w) (.cells #[.map mk, .map mu] 37))
  have H0 := Lib.hid (Blk.new w 37 #[.map mk, .map mu])
  have hfew := h.few
  have HOK := Lib.hid hok
  clear h
  cases hi : hasN ns id
  · have HI := Lib.hid hi
    rw [path_none hi]
    clear hi
    go_enter Tryz.func146, Tryz.ntmps146
    go_wp2_with fail
    with_reducible refine (has_any _ ns mk mu nk fk _ _ hid (HT.out.below HB0.out)).mono ?_
    rintro e w1 ⟨rfl, hb1⟩
    rw [HI.out]
    have HB1 := Lib.hid hb1
    clear hb1
    go_wp2_with fail
    go_ret
    exact ⟨_, rfl, World.ownsRow_nil _ _ _ _, bstep HB0.out HB1.out⟩
  · have HI := Lib.hid hi
    clear hi
    go_enter Tryz.func146, Tryz.ntmps146
    go_wp2_with fail
    with_reducible refine (has_any _ ns mk mu nk fk _ _ hid (HT.out.below HB0.out)).mono ?_
    rintro e w1 ⟨rfl, hb1⟩
    rw [HI.out]
    have HB1 := Lib.hid (bstep HB0.out hb1)
    have H1 := Lib.hid (H0.out.belowS hb1)
    have hsz : w.heap.size < w1.heap.size := H1.out.lt
    have HT1 := Lib.hid (HT.out.below HB1.out)
    clear hb1
    go_wp2_with fail
    go_loopw [1, 5] (fun i v wr => ∃ (cur : Int) (pre : List Int), i = .int .u32 cur ∧ (0 ≤ cur ∧ cur ≤ 4294967295) ∧ hasN ns cur = true ∧ pathN ns id = pre ++ pathN ns cur ∧ wr.ownsRow w1.heap.size 48 1 v (pre.length + 1) (U32 (pre ++ [cur])) ∧ Below w1.heap.size w1 wr) (fun i _ _ => (pathN ns (intOf i)).length)
    case atStart =>
      exact ⟨id, [], rfl, hid, HI.out, rfl, blk_own (Blk.new w1 48 #[.int .u32 id]) (Nat.le_refl _) rfl (by simp [maxLen]), bal (bre w1) _⟩
    case round =>
      obtain ⟨cur, pre, rfl, hcur, hin, hpath, ho, hB⟩ := hrel
      have hlen := path_len HOK.out id
      rw [hpath, List.length_append] at hlen
      have HO := Lib.hid ho
      have HB := Lib.hid hB
      have HP := Lib.hid hpath
      have HS := Lib.hid hB.size
      have HC := Lib.hid hcur
      have HTR := Lib.hid (HT1.out.below (hB.mono (by have := HB1.out.size; omega)))
      have hc0 := (H1.out.belowS hB).cellV (i := 0) (v := .map mk) rfl
      have hc1 := (H1.out.belowS hB).cellV (i := 1) (v := .map mu) rfl
      clear ho hB hpath hcur
      by_cases hc : cur = 1
      · subst hc
        go_wp2_with fail
        go_ret
        have hp1 : pathN ns id = pre ++ [1] := by rw [HP.out, path_root HOK.out]
        rw [hp1]
        exact ⟨_, rfl, by simpa using own_lower HO.out (by omega), HB1.out.trans (HB.out.mono (by omega))⟩
      · have d1 : (cur != 1) = true := by simp [hc]
        obtain ⟨p, hp⟩ : ∃ p, upOf ns cur = some p := by
          rcases hasN_iff.1 hin with e | h
          · exact absurd e hc
          · exact h
        have hst := path_step HOK.out hp
        have HST := Lib.hid hst
        have HG := Lib.hid (show ((upOf ns cur).map (Value.int .u32)).getD (.int .u32 0) = .int .u32 p by rw [hp]; rfl)
        have HWF := Lib.hid (u32_wf HC.out)
        have HPW := Lib.hid (upv_wf HTR.out.ok hp)
        have hpl : 1 ≤ (pathN ns cur).length := by rw [hst.1]; simp
        clear hst hp hc hin
        go_wp2_with (first
          | (at_lookup; refine opt_look rfl _ _ 35 rfl 48 48 .u32 Tryz.underlying48 Tryz.underlying35 (.int .u32 0) (Tryz.zeroID _) mu ns.length (fun i => (upOf ns i).map (Value.int .u32)) rfl HTR.out.up cur rfl HWF.out ?_; rw [HG.out])
          | (at_builtin; refine wpList_append_own _ rfl _ _ 43 rfl w1.heap.size 48 i0 _ 1 4 Tryz.underlying43 hi0 hz0 hz1 hz2 rfl (by decide) _ _ _ rfl (HO.out.alloc _) ⟨wr.heap.size, 0, none⟩ 1 1 [.int .u32 p] rfl rfl (one_new _ _ _) (by simp [Value.oneCell']) (by simp only [maxLen]; omega) (by omega) (by have := HS.out; simp; omega) ?_; intro v' w4 hown' hgrow _; have HO4 := Lib.hid hown'; have HB4 := Lib.hid ((bal HB.out _).grown hgrow (by have := HS.out; simp; omega) (own_ge HO.out)); clear hown' hgrow))
        go_roundw
        case rel =>
          refine ⟨p, pre ++ [cur], rfl, HPW.out, HST.out.2.1, by rw [HP.out, HST.out.1]; simp, ?_, HB4.out⟩
          simpa [U32] using HO4.out
        case measure =>
          simp only [intOf]
          rw [HST.out.1]
          simp

end Go.Proofs.YtdaedkolpfkdjaaGreat
end

section
namespace Go.Proofs.YtdaedkolpfkdjaaGreat
open Go.RowKit Go.Maps Go.Shelf

/-- by how much a path's windows lie away from the root, and whether all have boxes. -/
def sumX (bs : Bxs) (l : List Int) : Int := (l.map fun w => if w = 1 then 0 else ((bs w).getD zBX).X).sum
def sumY (bs : Bxs) (l : List Int) : Int := (l.map fun w => if w = 1 then 0 else ((bs w).getD zBX).Y).sum
def allB (bs : Bxs) (l : List Int) : Bool := l.all fun w => (bs w).isSome
def orgOk (ns : Nodes) (bs : Bxs) (id : Int) : Bool := hasN ns id && allB bs (pathN ns id)
def orgX (ns : Nodes) (bs : Bxs) (id : Int) : Int := if orgOk ns bs id then sumX bs (pathN ns id) else 0
def orgY (ns : Nodes) (bs : Bxs) (id : Int) : Int := if orgOk ns bs id then sumY bs (pathN ns id) else 0
theorem sumX_snoc (bs : Bxs) (l : List Int) (w : Int) : sumX bs (l ++ [w]) = sumX bs l + (if w = 1 then 0 else ((bs w).getD zBX).X) := by simp [sumX]
theorem sumY_snoc (bs : Bxs) (l : List Int) (w : Int) : sumY bs (l ++ [w]) = sumY bs l + (if w = 1 then 0 else ((bs w).getD zBX).Y) := by simp [sumY]
theorem allB_snoc (bs : Bxs) (l : List Int) (w : Int) : allB bs (l ++ [w]) = (allB bs l && (bs w).isSome) := by simp [allB]
theorem take_snoc' {α} {l : List α} {k : Nat} {x : α} (h : l[k]? = some x) : l.take (k + 1) = l.take k ++ [x] := by
  obtain ⟨h1, h2⟩ := List.getElem?_eq_some_iff.1 h
  rw [List.take_succ_eq_append_getElem h1, h2]
theorem grown_drew (w : World) (row : Option Nat) : w.grownBy w.drew row := ⟨rfl, rfl, rfl, Nat.le_refl _, fun _ _ _ => rfl⟩
/-- boxes whose places are of a moderate size. -/
def nearB (bs : Bxs) : Prop := ∀ i b, bs i = some b → (-100000 ≤ b.X ∧ b.X ≤ 100000) ∧ (-100000 ≤ b.Y ∧ b.Y ≤ 100000)
theorem near_getD {bs : Bxs} (h : nearB bs) (i : Int) : (-100000 ≤ ((bs i).getD zBX).X ∧ ((bs i).getD zBX).X ≤ 100000) ∧ (-100000 ≤ ((bs i).getD zBX).Y ∧ ((bs i).getD zBX).Y ≤ 100000) := by
  cases hb : bs i with
  | none => simp [zBX]
  | some b => exact h i b hb
theorem sum_bd {bs : Bxs} (h : nearB bs) (l : List Int) : (-100000 * (l.length : Int) ≤ sumX bs l ∧ sumX bs l ≤ 100000 * (l.length : Int)) ∧ (-100000 * (l.length : Int) ≤ sumY bs l ∧ sumY bs l ≤ 100000 * (l.length : Int)) := by
  induction l with
  | nil => simp [sumX, sumY]
  | cons w l ih =>
    have hb := near_getD h w
    have e1 : sumX bs (w :: l) = (if w = 1 then 0 else ((bs w).getD zBX).X) + sumX bs l := by simp [sumX]
    have e2 : sumY bs (w :: l) = (if w = 1 then 0 else ((bs w).getD zBX).Y) + sumY bs l := by simp [sumY]
    rw [e1, e2]
    simp only [List.length_cons]
    split <;> omega

set_option maxRecDepth 100000 in
set_option maxHeartbeats 4000000 in
theorem origin_any (pv tv : Value) (n : Nat) (bs : Bxs) (ns : Nodes) (mk mu : Option Nat) (nk : Nat) (fk : Int → Option Value) (id : Int) (w : World) (hid : 0 ≤ id ∧ id ≤ 4294967295) (hp : PlaceIs w pv n bs) (h : TreeIs w tv ns mk mu nk fk) (hok : TreeOk ns) (hnear : nearB bs) :
    Calls Tryz.prog 87 #[pv, tv, .int .u32 id] w fun e w' => e = .returned (.tuple #[.agg #[.int .i64 (orgX ns bs id), .int .i64 (orgY ns bs id)], .bool (orgOk ns bs id)]) ∧ Below w.heap.size w w' := by
  obtain ⟨mb, rfl, hm⟩ := hp
  have hv := h.shape
  subst hv
  have HT := Lib.hid h
  have HM := Lib.hid hm
  have HOK := Lib.hid hok
  have HN := Lib.hid hnear
  have HBE := Lib.hid (bal (bal (bal (bre w) (.cells #[.map mb] 40)) (.cells #[.map mk, .map mu] 37)) (.cells #[.int .i64 0, .int .i64 0] 179))
  have H3 := Lib.hid (((Blk.new w 40 #[.map mb]).alloc (.cells #[.map mk, .map mu] 37)).alloc (.cells #[.int .i64 0, .int .i64 0] 179))
  have H4 := Lib.hid ((blk_new2 w (.cells #[.map mb] 40) 37 #[.map mk, .map mu]).alloc (.cells #[.int .i64 0, .int .i64 0] 179))
  have H6 := Lib.hid (blk_new3 w (.cells #[.map mb] 40) (.cells #[.map mk, .map mu] 37) 179 #[.int .i64 0, .int .i64 0])
  clear h hm
  cases hi : hasN ns id
  · have HI := Lib.hid hi
    have e0 : orgOk ns bs id = false := by unfold orgOk; rw [hi]; rfl
    have e1 : orgX ns bs id = 0 := by unfold orgX; rw [e0]; rfl
    have e2 : orgY ns bs id = 0 := by unfold orgY; rw [e0]; rfl
    rw [e0, e1, e2]
    clear hi e0 e1 e2
    go_enter Tryz.func87, Tryz.ntmps87
    go_wp2_with fail
    with_reducible refine (has_any _ ns mk mu nk fk _ _ hid (HT.out.below HBE.out)).mono ?_
    rintro e w1 ⟨rfl, hb1⟩
    rw [HI.out]
    have b6 := H6.out.belowS hb1
    have q0 := b6.cellV (i := 0) (v := .int .i64 0) rfl
    have q1 := b6.cellV (i := 1) (v := .int .i64 0) rfl
    have f0 := b6.frozen 0
    have f1 := b6.frozen 1
    have l6 := b6.lt
    have K6 := Lib.hid b6
    have HB1 := Lib.hid (bstep HBE.out hb1)
    clear b6 hb1
    go_wp2_with fail
    have hb9 := (K6.out.set_ 0 (.int .i64 0)).set_ 1 (.int .i64 0)
    have r0 := hb9.cellV (i := 0) (v := .int .i64 0) rfl
    have r1 := hb9.cellV (i := 1) (v := .int .i64 0) rfl
    exact bodyPost_ret (v := .tuple #[.agg #[.int .i64 0, .int .i64 0], .bool false]) (by simp [results, Tryz.results87, go_sem, r0, r1]) rfl ⟨rfl, bset (p := ⟨w.heap.size + 1 + 1, 1, none⟩) (bset (p := ⟨w.heap.size + 1 + 1, 0, none⟩) HB1.out (by show w.heap.size ≤ w.heap.size + 1 + 1; omega) _) (by show w.heap.size ≤ w.heap.size + 1 + 1; omega) _⟩
  · have HI := Lib.hid hi
    have hlen := path_len HOK.out id
    have hfew := HT.out.few
    clear hi
    go_enter Tryz.func87, Tryz.ntmps87
    go_wp2_with fail
    with_reducible refine (has_any _ ns mk mu nk fk _ _ hid (HT.out.below HBE.out)).mono ?_
    rintro e w1 ⟨rfl, hb1⟩
    rw [HI.out]
    have b4 := H4.out.belowS hb1
    have t0 := b4.cellV (i := 0) (v := .map mk) rfl
    have t1 := b4.cellV (i := 1) (v := .map mu) rfl
    have HB1 := Lib.hid (bstep HBE.out hb1)
    have l4 := b4.lt
    have K3 := Lib.hid (H3.out.belowS hb1)
    have K6 := Lib.hid (H6.out.belowS hb1)
    have l6 := K6.out.lt
    clear b4 hb1
    go_wp2_with fail
    have KA := Lib.hid (Blk.new w1 179 #[.int .i64 0, .int .i64 0])
    have HBA := Lib.hid (bal HB1.out (.cells #[.int .i64 0, .int .i64 0] 179))
    with_reducible refine (path_any _ ns mk mu nk fk id _ hid (HT.out.below HBA.out) HOK.out).mono ?_
    rintro e w2 ⟨u, rfl, hou, hb2⟩
    obtain ⟨A, c, rfl, hc⟩ := own_form hou
    have HOU := Lib.hid hou
    have HB2 := Lib.hid (bstep HBA.out hb2)
    have K3 := Lib.hid ((K3.out.alloc (.cells #[.int .i64 0, .int .i64 0] 179)).belowS hb2)
    have K6 := Lib.hid ((K6.out.alloc (.cells #[.int .i64 0, .int .i64 0] 179)).belowS hb2)
    have KA := Lib.hid (KA.out.belowS hb2)
    have hs2 := hb2.size
    rw [World.size_alloc] at hs2
    have HS2 := Lib.hid hs2
    obtain ⟨l, hl⟩ : ∃ l, pathN ns id = l := ⟨_, rfl⟩
    have HL := Lib.hid hl
    have hlb : l.length ≤ 1001 := by rw [← hl]; omega
    have HLO := Lib.hid (show ∀ x ∈ l, 0 ≤ x ∧ x ≤ 4294967295 from fun x hx => path_ok HT.out.ok HOK.out hid (by rw [hl]; exact hx))
    rw [hl] at HOU hc ⊢
    obtain ⟨n', hn'⟩ : ∃ n', l.length = n' := ⟨_, rfl⟩
    rw [hn'] at HOU hc hlb ⊢
    have HN' := Lib.hid hn'
    clear t0 t1 l4 hou hb2 hs2 hl hn' hlen
    go_wp2_with fail
    go_loopw [22, 10, 11, 12, 7] (fun i _ _ _ _ wr => ∃ (k : Nat) (sx sy : Int), i = .int .i64 k ∧ k ≤ n' ∧ allB bs (l.take k) = true ∧ sx = sumX bs (l.take k) ∧ sy = sumY bs (l.take k) ∧ Blk wr w1.heap.size 179 #[.int .i64 sx, .int .i64 sy] ∧ w2.grownBy wr (some w1.heap.size)) (fun i _ _ _ _ _ => n' - (intOf i).toNat)
    case atStart => exact ⟨0, 0, 0, rfl, by omega, rfl, rfl, rfl, KA.out, ⟨rfl, rfl, rfl, Nat.le_refl _, fun _ _ _ => rfl⟩⟩
    case round =>
      obtain ⟨k, sx, sy, rfl, hk, hall, hsx, hsy, hat, hgw⟩ := hrel
      have hsb := sum_bd HN.out (l.take k)
      rw [← hsx, ← hsy, List.length_take] at hsb
      have hb1 : -200000000 ≤ sx ∧ sx ≤ 200000000 := by omega
      have hb2 : -200000000 ≤ sy ∧ sy ≤ 200000000 := by omega
      have HALL := Lib.hid hall
      have HSX := Lib.hid hsx
      have HSY := Lib.hid hsy
      have HAT := Lib.hid hat
      have HG := Lib.hid hgw
      have HBW := Lib.hid (HB2.out.grown hgw HB2.out.size (fun q e => by cases e; have := HB1.out.size; omega))
      have HK3 := Lib.hid (K3.out.grown hgw (by intro e; injection e with e; omega))
      have HK6 := Lib.hid (K6.out.grown hgw (by intro e; injection e with e; omega))
      have hsz := hgw.size
      have la := hat.lt
      have hown := HOU.out.kept hgw (.inr (fun e => by have := own_ge HOU.out _ e; rw [World.size_alloc] at this; omega))
      have HOW := Lib.hid hown
      clear hsb hall hsx hsy hat hgw hown
      by_cases hlt : k < n'
      · obtain ⟨x, hx⟩ : ∃ x, l[k]? = some x := ⟨_, List.getElem?_eq_getElem (by rw [HN'.out]; exact hlt)⟩
        have hxb := HLO.out x (List.mem_of_getElem? hx)
        have HWF := Lib.hid (u32_wf hxb)
        have HTK := Lib.hid (take_snoc' hx)
        obtain ⟨b, off, rfl, hbl, hcl⟩ := (Rd.of_own HOW.out).2 (by omega)
        have hcell := hcl k _ (U32_at hx)
        have p3 := HK3.out.cellV (i := 0) (v := .map mb) rfl
        have k1 : (k : Int) < (n' : Int) := by omega
        have k0 : (0 : Int) ≤ (k : Int) := by omega
        obtain ⟨b0, hb0⟩ : ∃ b0, (bs x).getD zBX = b0 := ⟨_, rfl⟩
        have hnb := near_getD HN.out x
        rw [hb0] at hnb
        have HGV := Lib.hid (show (bs.f x).getD zBX.v = b0.v from (bxv_getD (bs x)).trans (by rw [hb0]))
        obtain ⟨s, hs⟩ : ∃ s, (bs x).isSome = s := ⟨_, rfl⟩
        have HSV := Lib.hid (show (bs.f x).isSome = s by rw [← hs]; simp [Bxs.f])
        have HS := Lib.hid hs
        have HBZ := Lib.hid hb0
        clear hx hcl hb0 hs
        cases s
        · have q0 := HK6.out.cellV (i := 0) (v := .int .i64 0) rfl
          have q1 := HK6.out.cellV (i := 1) (v := .int .i64 0) rfl
          have f0 := HK6.out.frozen 0
          have f1 := HK6.out.frozen 1
          have l6' := HK6.out.lt
          go_wp2_with (at_lookup; refine opt_look_ok rfl _ _ 38 rfl 48 133 .u32 Tryz.underlying48 Tryz.underlying38 zBX.v (Tryz.zeroBox _) mb n bs.f rfl (HM.out.below HBW.out) x rfl HWF.out ?_; rw [HGV.out, HSV.out]; unfold BX.v)
          have hb9 := ((HK6.out.set_ 0 (.int .i64 0)).set_ 1 (.int .i64 0)).alloc (.cells #[.int .i64 b0.X, .int .i64 b0.Y, .int .i64 b0.W, .int .i64 b0.H, .bool b0.M, .int .i64 b0.G, .int .i64 b0.B, .bool b0.S, .slice b0.A b0.n b0.c] 133)
          have r0 := hb9.cellV (i := 0) (v := .int .i64 0) rfl
          have r1 := hb9.cellV (i := 1) (v := .int .i64 0) rfl
          have hm : x ∈ l := by
            have := HTK.out
            have h2 : x ∈ l.take (k + 1) := by rw [this]; simp
            exact List.mem_of_mem_take h2
          have ea : allB bs l = false := by
            unfold allB
            rw [List.all_eq_false]
            exact ⟨x, hm, by rw [HS.out]; simp⟩
          have e0 : orgOk ns bs id = false := by unfold orgOk; rw [HI.out, HL.out, ea]; rfl
          have e1 : orgX ns bs id = 0 := by unfold orgX; rw [e0]; rfl
          have e2 : orgY ns bs id = 0 := by unfold orgY; rw [e0]; rfl
          rw [e0, e1, e2]
          exact bodyPost_ret (v := .tuple #[.agg #[.int .i64 0, .int .i64 0], .bool false]) (by simp [results, Tryz.results87, go_sem, r0, r1]) rfl ⟨rfl, bal (bset (p := ⟨w.heap.size + 1 + 1, 1, none⟩) (bset (p := ⟨w.heap.size + 1 + 1, 0, none⟩) HBW.out (by show w.heap.size ≤ w.heap.size + 1 + 1; omega) _) (by show w.heap.size ≤ w.heap.size + 1 + 1; omega) _) _⟩
        · by_cases hx1 : x = 1
          · have d1 : (x != 1) = false := by simp [hx1]
            have HX1 := Lib.hid hx1
            clear hx1
            go_wp2_with (at_lookup; refine opt_look_ok rfl _ _ 38 rfl 48 133 .u32 Tryz.underlying48 Tryz.underlying38 zBX.v (Tryz.zeroBox _) mb n bs.f rfl (HM.out.below HBW.out) x rfl HWF.out ?_; rw [HGV.out, HSV.out]; unfold BX.v)
            go_roundw
            case rel =>
              refine ⟨k + 1, sx, sy, by go_num, by omega, ?_, ?_, ?_, HAT.out.alloc _, HG.out.andThen (World.grownBy_alloc _ _ none) (fun j hj => by cases hj)⟩
              · rw [HTK.out, allB_snoc, HALL.out, HS.out]; rfl
              · rw [HTK.out, sumX_snoc, ← HSX.out, if_pos HX1.out]; omega
              · rw [HTK.out, sumY_snoc, ← HSY.out, if_pos HX1.out]; omega
            case measure => simp [intOf]; omega
          · have d1 : (x != 1) = true := by simp [hx1]
            have HX1 := Lib.hid hx1
            clear hx1
            go_wp2_with (at_lookup; refine opt_look_ok rfl _ _ 38 rfl 48 133 .u32 Tryz.underlying48 Tryz.underlying38 zBX.v (Tryz.zeroBox _) mb n bs.f rfl (HM.out.below HBW.out) x rfl HWF.out ?_; rw [HGV.out, HSV.out]; unfold BX.v)
            obtain ⟨X, hX⟩ : ∃ X, wr.alloc (.cells #[.int .i64 b0.X, .int .i64 b0.Y, .int .i64 b0.W, .int .i64 b0.H, .bool b0.M, .int .i64 b0.G, .int .i64 b0.B, .bool b0.S, .slice b0.A b0.n b0.c] 133) = X := ⟨_, rfl⟩
            have ba := HAT.out.alloc (.cells #[.int .i64 b0.X, .int .i64 b0.Y, .int .i64 b0.W, .int .i64 b0.H, .bool b0.M, .int .i64 b0.G, .int .i64 b0.B, .bool b0.S, .slice b0.A b0.n b0.c] 133)
            have bb := Blk.new wr 133 #[.int .i64 b0.X, .int .i64 b0.Y, .int .i64 b0.W, .int .i64 b0.H, .bool b0.M, .int .i64 b0.G, .int .i64 b0.B, .bool b0.S, .slice b0.A b0.n b0.c]
            have hgx := HG.out.andThen (World.grownBy_alloc wr (.cells #[.int .i64 b0.X, .int .i64 b0.Y, .int .i64 b0.W, .int .i64 b0.H, .bool b0.M, .int .i64 b0.G, .int .i64 b0.B, .bool b0.S, .slice b0.A b0.n b0.c] 133) none) (fun j hj => by cases hj)
            rw [hX] at ba bb hgx ⊢
            clear hX
            have HGX := Lib.hid hgx
            have BA := Lib.hid ba
            have c0 := ba.cellV (i := 0) (v := .int .i64 sx) rfl
            have c1 := ba.cellV (i := 1) (v := .int .i64 sy) rfl
            have g0 := ba.frozen 0
            have g1 := ba.frozen 1
            have e0 := bb.cellV (i := 0) (v := .int .i64 b0.X) rfl
            have e1 := bb.cellV (i := 1) (v := .int .i64 b0.Y) rfl
            clear ba bb hgx
            go_region
            have hdr : ∀ (W : World), Below W.heap.size W W.drew := fun W => (bre W).drew
            go_wp2_with fail
            go_roundw
            case rel =>
              refine ⟨k + 1, sx + b0.X, sy + b0.Y, by go_num, by omega, ?_, ?_, ?_, ((BA.out.set_ 0 _).set_ 1 _).drewT, ((HGX.out.andThen (grown_setCell X ⟨w1.heap.size, 0, none⟩ _) (fun j hj => .inr hj)).andThen (grown_setCell _ ⟨w1.heap.size, 1, none⟩ _) (fun j hj => .inr hj)).andThen (grown_drew _ none) (fun j hj => by cases hj)⟩
              · rw [HTK.out, allB_snoc, HALL.out, HS.out]; rfl
              · rw [HTK.out, sumX_snoc, ← HSX.out, if_neg HX1.out, HBZ.out]
              · rw [HTK.out, sumY_snoc, ← HSY.out, if_neg HX1.out, HBZ.out]
            case measure => simp [intOf]; omega
      · obtain rfl : k = n' := by omega
        have q0 := HK6.out.cellV (i := 0) (v := .int .i64 0) rfl
        have q1 := HK6.out.cellV (i := 1) (v := .int .i64 0) rfl
        have f0 := HK6.out.frozen 0
        have f1 := HK6.out.frozen 1
        have l6' := HK6.out.lt
        have p0 := HAT.out.cellV (i := 0) (v := .int .i64 sx) rfl
        have p1 := HAT.out.cellV (i := 1) (v := .int .i64 sy) rfl
        go_wp2_with fail
        have hb9 := (HK6.out.set_ 0 (.int .i64 sx)).set_ 1 (.int .i64 sy)
        have r0 := hb9.cellV (i := 0) (v := .int .i64 sx) rfl
        have r1 := hb9.cellV (i := 1) (v := .int .i64 sy) rfl
        have ht : l.take k = l := List.take_of_length_le (by rw [HN'.out]; exact Nat.le_refl _)
        have e0 : orgOk ns bs id = true := by unfold orgOk; rw [HI.out, HL.out, ← ht, HALL.out]; rfl
        have e1 : orgX ns bs id = sx := by unfold orgX; rw [e0, HL.out, HSX.out, ht]; rfl
        have e2 : orgY ns bs id = sy := by unfold orgY; rw [e0, HL.out, HSY.out, ht]; rfl
        rw [e0, e1, e2]
        exact bodyPost_ret (v := .tuple #[.agg #[.int .i64 sx, .int .i64 sy], .bool true]) (by simp [results, Tryz.results87, go_sem, r0, r1]) rfl ⟨rfl, bset (p := ⟨w.heap.size + 1 + 1, 1, none⟩) (bset (p := ⟨w.heap.size + 1 + 1, 0, none⟩) HBW.out (by show w.heap.size ≤ w.heap.size + 1 + 1; omega) _) (by show w.heap.size ≤ w.heap.size + 1 + 1; omega) _⟩

def rcOf (b : BX) : RC := ⟨b.X, b.Y, b.W, b.H⟩

end Go.Proofs.YtdaedkolpfkdjaaGreat
end
