/-
  A view of any tree whose windows' boxes are the document's, as the laws use it.
  The walks of slices.Equal at rectangles, and of band.Same. (What PSetsA has of it, for a seat without PlaceSets.)
  What the laws ViewHidden and ViewRaises have in common: a window of the list written, blocks, the trees.
  The walk of a tree's Place, where the window goes to the top of its siblings.
-/
import Derived.Test.YtdaedkolpfkdjaaGreatZD30
import Derived.Test.YtdaedkolpfkdjaaGreatZD18
import Derived.Test.YtdaedkolpfkdjaaGreatZD06
import Derived.Test.YtdaedkolpfkdjaaGreatZD33
import Derived.Test.YtdaedkolpfkdjaaGreatZD27
section
namespace Go.Proofs.YtdaedkolpfkdjaaGreat
open Go.RowKit Go.Maps Go.Shelf

/-- a view of a tree and boxes. -/
structure SeenG (w : World) (v : Value) (RW RH : Nat) (ns : Nodes) (bx : Int → Option VB) (og : Int → Int × Int) : Prop where
  is : ∃ A n c mv nm f, ViewIs w v A n c mv nm f (ordW ns bx 1) (esN ns bx (rectP RW RH)) og RW RH
  org : ∀ k : Int, hasN ns k = true → og k = orgN ns bx k
theorem SeenG.below {w w' : World} {v : Value} {RW RH : Nat} {ns : Nodes} {bx : Int → Option VB} {og : Int → Int × Int} (h : SeenG w v RW RH ns bx og) (hb : Below w.heap.size w w') : SeenG w' v RW RH ns bx og :=
  ⟨by
    obtain ⟨A, n, c, mv, nm, f, h1⟩ := h.is
    exact ⟨A, n, c, mv, nm, f, h1.below hb⟩, h.org⟩
section
variable {W : World} {bs : Bxs} {RW RH : Int} {l : List DW} {ns : Nodes}
def nearS (bs : Bxs) : Prop := ∀ i b, bs i = some b → (-200 ≤ b.X ∧ b.X ≤ 200) ∧ (-200 ≤ b.Y ∧ b.Y ≤ 200)
theorem nearS_sum {bs : Bxs} (h : nearS bs) (l : List Int) : (-200 * (l.length : Int) ≤ sumX bs l ∧ sumX bs l ≤ 200 * (l.length : Int)) ∧ (-200 * (l.length : Int) ≤ sumY bs l ∧ sumY bs l ≤ 200 * (l.length : Int)) := by
  induction l with
  | nil => simp [sumX, sumY]
  | cons w l ih =>
    have hb : (-200 ≤ ((bs w).getD zBX).X ∧ ((bs w).getD zBX).X ≤ 200) ∧ (-200 ≤ ((bs w).getD zBX).Y ∧ ((bs w).getD zBX).Y ≤ 200) := by
      cases hb : bs w with
      | none => simp [zBX]
      | some b => exact h w b hb
    have e1 : sumX bs (w :: l) = (if w = 1 then 0 else ((bs w).getD zBX).X) + sumX bs l := by simp [sumX]
    have e2 : sumY bs (w :: l) = (if w = 1 then 0 else ((bs w).getD zBX).Y) + sumY bs l := by simp [sumY]
    rw [e1, e2]
    simp only [List.length_cons]
    split <;> omega
theorem nearS_of (hn : nearS bs) (hok : TreeOk ns) (hl : ns.length ≤ 1000) (k : Int) : (-900000 ≤ orgX ns bs k ∧ orgX ns bs k ≤ 900000) ∧ -900000 ≤ orgY ns bs k ∧ orgY ns bs k ≤ 900000 := by
  unfold orgX orgY
  cases Go.Proofs.YtdaedkolpfkdjaaGreat.orgOk ns bs k with
  | false => simp
  | true =>
    have h1 := nearS_sum hn (pathN ns k)
    have h2 := path_len hok k
    simp only [if_true]
    omega
theorem SceneIs.nearS (h : SceneIs W bs RW RH l) (hok : ∀ d ∈ l, DWok d) : nearS bs := fun k b hk => by
  rcases h.box hk with ⟨_, rfl⟩ | ⟨i, d, hd, _, ⟨e1, e2, _⟩, _⟩
  · simp [rootBX]
  · have hD := hok d (List.mem_of_getElem? hd)
    have h1 := hD.x
    have h2 := hD.y
    rw [e1, e2]
    omega
theorem SceneIs.some (h : SceneIs W bs RW RH l) {k : Int} (hk : hasN (nodesW l) k = true) : (bs k).isSome = true := by
  obtain ⟨n, h1, h2, rfl⟩ := hasW_inv hk
  by_cases hn : n < 0
  · obtain rfl : n = -1 := by omega
    rw [idW_root, h.root]
    rfl
  · obtain ⟨i, rfl⟩ : ∃ i : Nat, n = (i : Int) := ⟨n.toNat, by omega⟩
    obtain ⟨b, e, _⟩ := h.each i _ (List.getElem?_eq_getElem (by omega))
    rw [e]
    rfl
theorem orgOk_of (hok : TreeOk ns) (hs : ∀ k, hasN ns k = true → (bs k).isSome = true) {k : Int} (hk : hasN ns k = true) : orgOk ns bs k = true := by
  unfold orgOk
  rw [hk, Bool.true_and]
  unfold allB
  rw [List.all_eq_true]
  exact fun x hx => hs x (path_has hok hx)
end
theorem seenG_of {mk mu mp : Option Nat} {nk n : Nat} {fk : Int → Option Value} {bs : Bxs} {RW RH : Nat} {l : List DW} {ns : Nodes} (w : World) (hT : TreeIs w (.agg #[.map mk, .map mu]) ns mk mu nk fk) (hP : PlaceIs w (.agg #[.map mp]) n bs) (hS : SceneIs w bs RW RH l) (tok : TreeOk ns)
    (hsub : ∀ k, hasN ns k = true → hasN (nodesW l) k = true) (hok : ∀ d ∈ l, DWok d) (hl : ns.length ≤ 1000) (hR : (1 ≤ RW ∧ RW ≤ 128) ∧ 1 ≤ RH ∧ RH ≤ 128) :
    Calls Tryz.prog 25 #[.agg #[.map mk, .map mu], .agg #[.map mp]] w fun e w' => ∃ v og, e = .returned v ∧ SeenG w' v RW RH ns (bxS RW RH l) og ∧ Below w.heap.size w w' := by
  have hRI : (1 ≤ (RW : Int) ∧ (RW : Int) ≤ 128) ∧ 1 ≤ (RH : Int) ∧ (RH : Int) ≤ 128 := by omega
  have hrel := hS.rel hok hRI
  refine (viewOf_any mp mk mu n nk fk ns bs (bxS RW RH l) RW RH w hT hP tok hrel (hS.sides hok hRI) (hS.nearb hok) (nearS_of (hS.nearS hok) tok hl) hR hS.root).mono ?_
  rintro e w' ⟨v, A, n, c, mv, nm, f, rfl, hv, hb⟩
  exact ⟨v, _, rfl, ⟨⟨A, n, c, mv, nm, f, hv⟩, fun k hk => (orgN_eq hrel (orgOk_of tok (fun j hj => hS.some (hsub j hj)) hk)).symm⟩, hb⟩
section
variable {w : World} {v : Value} {RW RH : Nat} {ns : Nodes} {bx : Int → Option VB} {og : Int → Int × Int}
theorem SeenG.form (h : SeenG w v RW RH ns bx og) : ∃ A n c mv, v = .agg #[.slice A n c, .map mv] := by
  obtain ⟨A, n, c, mv, nm, f, hv⟩ := h.is
  exact ⟨A, n, c, mv, hv.shape⟩
/-- where a window begins, as a view of it tells. -/
def ogG (ns : Nodes) (bx : Int → Option VB) (i : Int) : Int × Int := if hasN ns i && vw ns bx i then orgN ns bx i else (0, 0)
theorem SeenG.og_eq (h : SeenG w v RW RH ns bx og) (hn : TreeOk ns) (i : Int) : ogV (esN ns bx (rectP RW RH)) og i = ogG ns bx i := by
  unfold ogV ogG
  rw [look_some hn]
  cases hh : hasN ns i with
  | false => rfl
  | true =>
    rw [h.org i hh]
/-- what a window shows, place by place of the root. -/
def shG (RW RH : Nat) (ns : Nodes) (bx : Int → Option VB) (x y i : Int) : Bool := rectP RW RH x y && decide (i = topN ns bx x y)
theorem SeenG.clip (h : SeenG w v RW RH ns bx og) (hn : TreeOk ns) (i : Int) (hi : 0 ≤ i ∧ i ≤ 4294967295) :
    Calls Tryz.prog 31 #[v, .int .u32 i] w fun e w' => ∃ u out, e = .returned u ∧ RegAt w' u out ∧ (∀ x y, inB out x y = shG RW RH ns bx x y i) ∧ areaL out = cntP RW RH (fun x y => shG RW RH ns bx x y i) ∧ out.length ≤ 100000 ∧ Below w.heap.size w w' := by
  obtain ⟨A, n, c, mv, nm, f, hv⟩ := h.is
  refine (vclip_any i hi hv).mono ?_
  rintro e w' ⟨u, out, rfl, hr, hp, hb⟩
  have hp2 : ∀ x y, inB out x y = shG RW RH ns bx x y i := fun x y => by rw [hp, show_at hn]; rfl
  have ha : areaL out = cntP RW RH (fun x y => showB (esN ns bx (rectP RW RH)) x y i) := by
    obtain ⟨_, _, _, _, hc, _⟩ := hr
    exact hv.area (a := 0) (b := 0) hc (fun x y => by rw [hp]; congr 1 <;> omega)
  refine ⟨u, out, rfl, hr, hp2, ?_, reg_few hv.side hr ha, hb⟩
  rw [ha]
  exact congrArg (fun P : Places => ((cntP RW RH P : Nat) : Int)) (funext fun x => funext fun y => show_at (bx := bx) hn (rectP RW RH) x y i)
theorem SeenG.visible (h : SeenG w v RW RH ns bx og) (hn : TreeOk ns) (i : Int) (hi : 0 ≤ i ∧ i ≤ 4294967295) :
    Calls Tryz.prog 28 #[v, .int .u32 i] w fun e w' => ∃ u out, e = .returned u ∧ RegAt w' u out ∧ (∀ x y, inB out x y = shG RW RH ns bx (x + (ogG ns bx i).1) (y + (ogG ns bx i).2) i) ∧ areaL out = cntP RW RH (fun x y => shG RW RH ns bx x y i) ∧ out.length ≤ 100000 ∧ Below w.heap.size w w' := by
  obtain ⟨A, n, c, mv, nm, f, hv⟩ := h.is
  refine (vvisible_any i hi hv).mono ?_
  rintro e w' ⟨u, out, rfl, hr, hp, hb⟩
  have ha : areaL out = cntP RW RH (fun x y => showB (esN ns bx (rectP RW RH)) x y i) := by
    obtain ⟨_, _, _, _, hc, _⟩ := hr
    exact hv.area hc hp
  refine ⟨u, out, rfl, hr, fun x y => ?_, ?_, reg_few hv.side hr ha, hb⟩
  · rw [hp, h.og_eq hn, show_at hn]; rfl
  · rw [ha]
    exact congrArg (fun P : Places => ((cntP RW RH P : Nat) : Int)) (funext fun x => funext fun y => show_at (bx := bx) hn (rectP RW RH) x y i)
end
end Go.Proofs.YtdaedkolpfkdjaaGreat
end

section
namespace Go.Proofs.YtdaedkolpfkdjaaGreat
open Go.RowKit Go.Maps Go.Shelf

theorem run_neq_rcE (w : World) (a b c d a' b' c' d' : Int) : (binOp .neq 103 (.agg #[.int .i64 a, .int .i64 b, .int .i64 c, .int .i64 d]) (.agg #[.int .i64 a', .int .i64 b', .int .i64 c', .int .i64 d'])).run Tryz.prog w = .ok (.bool (!(a == a' && b == b' && c == c' && d == d'))) w := by
  cases h1 : (a == a') <;> cases h2 : (b == b') <;> cases h3 : (c == c') <;> cases h4 : (d == d') <;> simp [go_sem, h1, h2, h3, h4]
attribute [local go_sem ↓] run_neq_rcE

set_option maxRecDepth 100000 in
set_option maxHeartbeats 2000000 in
theorem equalR_eq (A A' : Option Addr) (n c c' : Nat) (rs : List RC) (w : World) (hn : n ≤ 1000000000000) (hr : RdR w A n rs) (hq : RdR w A' n rs) :
    Calls Tryz.prog 94 #[.slice A n c, .slice A' n c'] w fun e w' => e = .returned (.bool true) ∧ Below w.heap.size w w' := by
  have HR := Lib.hid hr
  have HQ := Lib.hid hq
  have HL := Lib.hid hr.1
  have e0 : ((n : Int) != (n : Int)) = false := by simp
  clear hr hq
  go_enter Tryz.func94, Tryz.ntmps94
  go_wp2_with fail
  go_loopw [13, 5] (fun i _ wr => ∃ k : Nat, i = .int .i64 k ∧ k ≤ n ∧ Below w.heap.size w wr) (fun i _ _ => n - (intOf i).toNat)
  case atStart => exact ⟨0, rfl, by omega, bre w⟩
  case round =>
    obtain ⟨k, rfl, hk, hB⟩ := hrel
    have HB := Lib.hid hB
    by_cases hlt : k < n
    · obtain ⟨r, hr⟩ : ∃ r, rs[k]? = some r := ⟨_, List.getElem?_eq_getElem (by have := HL.out; omega)⟩
      obtain ⟨b, off, rfl, hb, hcl⟩ := (HR.out.below hB).2 (by omega)
      obtain ⟨b', off', rfl, hb', hcl'⟩ := (HQ.out.below hB).2 (by omega)
      obtain ⟨c0, c1, c2, c3⟩ := hcl k r hr
      obtain ⟨d0, d1, d2, d3⟩ := hcl' k r hr
      have k1 : (k : Int) < (n : Int) := by omega
      have k0 : (0 : Int) ≤ (k : Int) := by omega
      clear hB hr hcl hcl'
      go_wp2_with fail
      go_quiet (fail)
      go_wp2_with fail
      go_roundw
      case rel => exact ⟨k + 1, by go_num, by omega, below_drewN HB.out _⟩
      case measure => simp [intOf]; omega
    · obtain rfl : k = n := by omega
      clear hB
      go_wp2_with fail
      go_ret
      exact ⟨rfl, HB.out⟩

set_option maxRecDepth 100000 in
set_option maxHeartbeats 2000000 in
theorem bandSame_eq (A A' : Option Addr) (n c c' : Nat) (rs : List RC) (w : World) (hn : n ≤ 1000000000000) (hr : RdR w A n rs) (hq : RdR w A' n rs) :
    Calls Tryz.prog 27 #[.agg #[.slice A n c], .agg #[.slice A' n c']] w fun e w' => e = .returned (.bool true) ∧ Below w.heap.size w w' := by
  have HR := Lib.hid hr
  have HQ := Lib.hid hq
  clear hr hq
  go_enter Tryz.func27, Tryz.ntmps27
  have HB := Lib.hid (bal (bal (bre w) (.cells #[.slice A n c] 57)) (.cells #[.slice A' n c'] 57))
  go_wp2_with (go_at_call 94; refine (equalR_eq A A' n _ _ rs _ hn (HR.out.below HB.out) (HQ.out.below HB.out)).mono ?_; rintro e w1 ⟨rfl, hb⟩; have HB1 := Lib.hid (bstep HB.out hb); clear hb)
  go_ret
  exact ⟨rfl, HB1.out⟩
end Go.Proofs.YtdaedkolpfkdjaaGreat
end

section
namespace Go.Proofs.YtdaedkolpfkdjaaGreat
open Go.RowKit Go.Maps Go.Shelf

theorem own_blkN {w : World} {B n e s : Nat} {v : Value} {xs : List Value} (h : w.ownsRow B e s v n xs) (hn : 0 < n) : ∃ g c rest, v = .slice (some ⟨g, 0, none⟩) n c ∧ B ≤ g ∧ Blk w g e (xs ++ rest).toArray := by
  rcases h.2 with ⟨_, h0⟩ | ⟨g, cap, cur, e1, hb, hg, h1, h2, h3, h4⟩
  · omega
  · refine ⟨g, cap, cur.toList.drop (n * s), e1, hb, ?_⟩
    rw [← h4, List.take_append_drop]
    exact hg
theorem RdF.of_blkR {α : Type} {f : α → List Value} {m : Nat} (hm : ∀ x, (f x).length = m) {w : World} {g : Nat} {t : TypeId} {l : List α} {rest : List Value} {n : Nat} (h : Blk w g t (l.flatMap f ++ rest).toArray) (hl : l.length = n) : RdF f m w (some ⟨g, 0, none⟩) n l := by
  refine ⟨hl, fun hn => ⟨g, 0, rfl, h.lt, fun k x hk i u hu => ?_⟩⟩
  have hi : i < m := by have := (List.getElem?_eq_some_iff.1 hu).1; rwa [hm] at this
  have hg := flat_get f m hm l k x i hk hi
  rw [hu] at hg
  rw [Nat.zero_add]
  have hlt := (List.getElem?_eq_some_iff.1 hg).1
  exact h.cellV (by rw [List.getElem?_toArray, List.getElem?_append_left hlt]; exact hg)
theorem flat_set1 {α : Type} {f : α → List Value} {m : Nat} (hm : ∀ x, (f x).length = m) : ∀ {l : List α} {k i : Nat} {d d' : α} {u : Value}, l[k]? = some d → i < m → (f d).set i u = f d' → (l.flatMap f).set (k * m + i) u = (l.set k d').flatMap f
  | [], k, _, _, _, _, hd, _, _ => by simp at hd
  | a :: l, 0, i, d, d', u, hd, hi, hf => by
    obtain rfl : a = d := by simpa using hd
    rw [Nat.zero_mul, Nat.zero_add, List.flatMap_cons, List.set_cons_zero, List.flatMap_cons, List.set_append_left _ _ (by rw [hm]; exact hi), hf]
  | a :: l, k + 1, i, d, d', u, hd, hi, hf => by
    have h := flat_set1 hm (l := l) (k := k) (by simpa using hd) hi hf
    rw [List.flatMap_cons, List.set_cons_succ, List.flatMap_cons, List.set_append_right _ _ (by rw [hm, Nat.succ_mul]; omega), hm, show (k + 1) * m + i - m = k * m + i by rw [Nat.succ_mul]; omega, h]
set_option maxRecDepth 100000 in
theorem Tryz.sizeVx : (Tryz.prog.info? 52).map (·.size) = some 2 := by kernel_rfl
theorem viewX_no (A : Option Addr) (n c : Nat) (m : Option Nat) : ∀ (j : Nat) (k : IntKind) (x : Int), (#[.slice A n c, .map m] : Array Value)[j]? ≠ some (.int k x) := fun j k x => by
  match j with
  | 0 => simp
  | 1 => simp
  | j + 2 => simp
theorem blkX_noI {w : World} {g : Nat} {t : TypeId} {cs : Array Value} (h : Blk w g t cs) (hn : ∀ (j : Nat) (k : IntKind) (x : Int), cs[j]? ≠ some (.int k x)) : NoInt w g := fun o k i e => by
  rw [h.cell] at e
  exact hn o k i e
theorem SeenG.setNo {w : World} {v : Value} {RW RH : Nat} {ns : Nodes} {bx : Int → Option VB} {og : Int → Int × Int} (h : SeenG w v RW RH ns bx og) {B : Nat} {t : TypeId} {cs : Array Value} (hB : Blk w B t cs) (hno : NoInt w B) (i : Nat) (u : Value) : SeenG (w.setCell ⟨B, i, none⟩ u) v RW RH ns bx og := by
  obtain ⟨A, n, c, mv, nm, f, hv⟩ := h.is
  refine ⟨⟨A, n, c, mv, nm, f, ?_⟩, h.org⟩
  exact { hv with
    order := hv.order.keepG (grown_setCell w ⟨B, i, none⟩ u) hno
    map := hv.map.setBlk hB i u
    told := fun j e he => by
      obtain ⟨A, c, out, h1, h2, h3⟩ := hv.told j e he
      exact ⟨A, c, out, h1, h2.keepG (grown_setCell w ⟨B, i, none⟩ u) hno, h3⟩ }
/-- a window of the list is no longer mapped. -/
def hideD (d : DW) : DW := { d with M := false }
theorem hide_up {l : List DW} (h : UpOk l) {k : Nat} {d : DW} (hd : l[k]? = some d) : UpOk (l.set k (hideD d)) := fun i e he => by
  by_cases hi : k = i
  · subst hi
    have hlt := (List.getElem?_eq_some_iff.1 hd).1
    rw [List.getElem?_set_self hlt] at he
    injection he with he
    subst he
    exact h k d hd
  · rw [List.getElem?_set_ne hi] at he
    exact h i e he
theorem hide_ok {l : List DW} (h : ∀ d ∈ l, DWok d) {k : Nat} {d : DW} (hd : l[k]? = some d) : ∀ e ∈ l.set k (hideD d), DWok e := fun e he => by
  rcases List.mem_or_eq_of_mem_set he with h1 | rfl
  · exact h e h1
  · have hD := h d (List.mem_of_getElem? hd)
    exact ⟨hD.x, hD.y, hD.w, hD.h, hD.s, hD.few, hD.sh⟩
theorem hide_act {l : List DW} {k : Nat} {d : DW} (hd : l[k]? = some d) (RW RH : Nat) : actB (bxS RW RH (l.set k (hideD d))) (idW k) = false := by
  have hlt := (List.getElem?_eq_some_iff.1 hd).1
  unfold actB
  show (match bxW RW RH (l.set k (hideD d)) (idW (k : Int)) with | some b => b.M | none => false) = false
  rw [bxW_nat, List.getElem?_set_self hlt]
  rfl
theorem cell_keep {w w' : World} (hb : Below w.heap.size w w') {b o : Nat} {v : Value} (h : b < w.heap.size) (hc : w.cell? ⟨b, o, none⟩ = some v) : w'.cell? ⟨b, o, none⟩ = some v := ((bcell hb).1 b o h).trans hc
theorem hasN_sub {ns : Nodes} {k j : Int} (h : hasN (cutN ns k) j = true) : hasN ns j = true := by
  rcases hasN_iff.1 h with e | ⟨p, hp⟩
  · rw [e]; exact hasN_root _
  · have h1 := (mem_cutN.1 (upOf_some hp)).1
    refine hasN_iff.2 ?_
    cases hu : upOf ns j with
    | some q => exact .inr ⟨q, rfl⟩
    | none =>
      unfold upOf at hu
      rw [Option.map_eq_none_iff, List.find?_eq_none] at hu
      exact absurd (hu _ h1) (by simp)
end Go.Proofs.YtdaedkolpfkdjaaGreat
end

section
namespace Go.Proofs.YtdaedkolpfkdjaaGreat
open Go.RowKit Go.Maps Go.Shelf

set_option maxRecDepth 100000 in
set_option maxHeartbeats 4000000 in
theorem insert_end (base g n c : Nat) (l : List Int) (x : Int) (a : Addr) (w : World) (ho : w.ownsRow base 48 1 (.slice (some ⟨g, 0, none⟩) n c) n (U32 l)) (hn : n ≤ 2000) (hc : w.cell? a = some (.int .u32 x)) (hb : base ≤ w.heap.size) (hnc : n ≤ c) (hx : 0 ≤ x ∧ x ≤ 4294967295) :
    Calls Tryz.prog 95 #[.slice (some ⟨g, 0, none⟩) n c, .int .i64 n, .slice (some a) 1 1] w fun e w' => ∃ v', e = .returned v' ∧ w'.ownsRow base 48 1 v' (n + 1) (U32 (l ++ [x])) ∧ w.grownBy w' (some g) := by
  obtain ⟨i0, hi0, hz0, hz1, hz2⟩ := info_parts Tryz.infoU
  have HO := Lib.hid ho
  have HC := Lib.hid hc
  have k0 : (0 : Int) ≤ (n : Int) := by omega
  have k1 : (n : Int) ≤ (c : Int) := by omega
  clear ho hc
  by_cases h : n = c
  · subst h
    go_enter Tryz.func95, Tryz.ntmps95
    go_wp2_with (at_builtin; refine wpList_append_own _ rfl _ _ 43 rfl base 48 i0 _ 1 4 Tryz.underlying43 hi0 hz0 hz1 hz2 rfl (by decide) _ _ _ rfl HO.out a 1 1 [.int .u32 x] rfl rfl (fun j u hj => by cases j with | zero => (have e : u = .int .u32 x := by simpa using hj.symm); rw [e]; exact HC.out | succ j => simp at hj) (by simp [Value.oneCell']) (by simp only [maxLen]; omega) (by omega) hb ?_; intro v' w4 hown' hgrow _; have HO4 := Lib.hid hown'; have HG4 := Lib.hid hgrow; clear hown' hgrow)
    go_ret
    exact ⟨_, rfl, by have := HO4.out; simpa [U32] using this, HG4.out⟩
  · have k2 : n < c := by omega
    have k3 : (n : Int) < (c : Int) := by omega
    go_enter Tryz.func95, Tryz.ntmps95
    go_wp2_with (at_builtin; refine wpList_append_own _ rfl _ _ 43 rfl base 48 i0 _ 1 4 Tryz.underlying43 hi0 hz0 hz1 hz2 rfl (by decide) _ _ _ rfl HO.out a 1 1 [.int .u32 x] rfl rfl (fun j u hj => by cases j with | zero => (have e : u = .int .u32 x := by simpa using hj.symm); rw [e]; exact HC.out | succ j => simp at hj) (by simp [Value.oneCell']) (by simp only [maxLen]; omega) (by omega) hb ?_; intro v' w4 hown' hgrow _; have HO4 := Lib.hid hown'; have HG4 := Lib.hid hgrow; clear hown' hgrow)
    go_ret
    exact ⟨_, rfl, by have := HO4.out; simpa [U32] using this, HG4.out⟩
/-- raised: the tree at the end. -/
theorem CutIs.raise {w w5 w6 : World} {base : Nat} {ns : Nodes} {id p : Int} {kb ub nk g : Nat} {fk : Int → Option Value} {u v5 : Value} (h : CutIs w base ns id kb ub nk ns.length [] [] fk) (hT : TreeOk ns) (hup : upOf ns id = some p) (hfk : fk p = some u) (hu : u.ownBlock = some g) (hap : ∀ j v, j ≠ p → fk j = some v → v.ownBlock = none ∨ v.ownBlock ≠ some g) (hnk : nk ≤ ns.length + 1)
    (h5 : w5.ownsRow base 48 1 v5 ((kidsC ns id p).length + 1) (U32 (kidsC ns id p ++ [id]))) (hg5 : w.grownBy w5 (some g)) (hm6 : MapIs Tryz.prog 48 .u32 w6 kb nk (fun j => if j = p then some v5 else fk j)) (hg6 : w5.grownBy w6 (some kb)) :
    TreeOwn w6 base (topmost ns id p) kb ub nk (fun j => if j = p then some v5 else fk j) := by
  have hmem := upOf_some hup
  have hku := h.kids
  have hup' := h.up
  rw [goneF_nil] at hku hup'
  have hne := h.far p _ hfk
  have hk5 := hku.kept hg5 (fun e => hne.1 (hu.trans e.symm))
  have hu5 := hup'.kept hg5 (fun e => hne.2 (hu.trans e.symm))
  have hu6 := hu5.kept hg6 (fun e => h.ne (Option.some.inj e).symm)
  have hkids : ∀ i, kidsOf (topmost ns id p) i = kidsC ns id i ++ (if p = i then [id] else []) := fun i => topmost_kids id p i
  refine ⟨hm6, ?_, fun i v hv => ?_, fun i hi => ?_, h.lok, h.lou, by rw [topmost_len hT hmem]; exact hnk, by rw [topmost_len hT hmem]; exact h.few, fun q hq => h.ok q ((mem_topmost hmem hT.nodup).1 hq), fun i hi => ?_⟩
  · have e : (fun i => (upOf ns i).map (Value.int .u32)) = fun i => (upOf (topmost ns id p) i).map (Value.int .u32) := by
      funext i
      rw [topmost_up hT hmem]
    rw [e] at hu6
    rw [topmost_len hT hmem]
    exact hu6
  · rw [hkids]
    by_cases e : i = p
    · subst e
      rw [if_pos rfl] at hv ⊢
      injection hv with hv
      subst hv
      have := h5.kept hg6 (.inr (hk5.not_row h5))
      simpa using this
    · rw [if_neg e] at hv
      rw [if_neg (fun e' => e e'.symm), List.append_nil]
      exact ((h.own i v hv).kept hg5 (hap i v e hv)).kept hg6 (.inr (h.far i v hv).1)
  · rw [hkids]
    by_cases e : i = p
    · rw [if_pos e] at hi; cases hi
    · rw [if_neg e] at hi
      rw [if_neg (fun e' => e e'.symm), List.append_nil]
      exact h.nil i hi
  · rw [topmost_has hT hmem]
    by_cases e : i = p
    · rw [e]
      exact h.keys p (by rw [hfk]; rfl)
    · rw [if_neg e] at hi
      exact h.keys i hi
end Go.Proofs.YtdaedkolpfkdjaaGreat
end
