/-
  delete on a map with raw elements, and the walk of a place's Drop.
  Windows that are dropped, plainly: the program's boxes and the document's list go side by side.
  The walks of slices.Equal at rectangles, of band.Same, and of the document's Drop.
-/
import Derived.Test.YtbfefkhejknmoaaGreatDoorCh5
import Derived.Test.YtbfefkhejknmoaaGreatDoorCh10
import Derived.Test.YtbfefkhejknmoaaGreatDoorCh36
import Derived.Test.YtbfefkhejknmoaaGreatDoorCh28
import Derived.Test.YtbfefkhejknmoaaGreatDoorCh16
namespace Go.Proofs.YtbfefkhejknmoaaGreatDoor
open Go.RowKit Go.Maps Go.Shelf

section
variable {P : Program} {k e t : TypeId} {q : IntKind} {w w' : World} {b n : Nat} {f : Int → Option Value}
theorem MapIs.del_of {D : DataW Value} {m : Nat} {i : Int} (K : Keyed P k) (hD : w.ownsMap P k rawR b m D) (hs : Maps.size D = n) (hh : ∀ i, Maps.has D (.int q i) = (f i).isSome) (ha : ∀ i v, f i = some v → ∀ z, D.atKey (.int q i) z = .held v)
    (hD' : w'.ownsMap P k rawR b m (D.del (.int q i))) : ∃ n', n' ≤ n ∧ MapIs P k q w' b n' (fun j => if j = i then none else f j) := by
  have hT := hD.tidy K
  have hsz := size_del (k := .int q i) hT
  refine ⟨Maps.size (D.del (.int q i)), by omega, D.del (.int q i), ?_, rfl, fun j => ?_, fun j u hj z => ?_⟩
  · obtain ⟨es, clock, h1, h2, h3, h4⟩ := hD'
    refine ⟨es, clock, h1, h2, ?_, h4⟩
    have := length_read (P := P) (k := k) (R0 := rawR) es
    rw [h4, size_eq, this]
    exact Nat.le_refl _
  · by_cases hj : j = i
    · subst hj
      rw [has_del_same]
      simp
    · rw [has_del_other (by intro e; injection e with _ e; exact hj e), hh]
      simp [hj]
  · by_cases hj' : j = i
    · simp [hj'] at hj
    · simp [hj'] at hj
      rw [atKey_del_other (by intro e; injection e with _ e; exact hj' e)]
      exact ha j u hj z
variable {ops : Array Oper} {rest : List Oper} {o : Oper} {a : Act} {Q : Exit → Act → World → Prop}
/-- 'delete(m, i)', the map nil or not. -/
theorem opt_del (hg : o.guard = none) (m x : Operand) (t k : TypeId) (hop : o.op = Op.call { callee := Callee.builtin Builtin.delete, args := #[m, x], argTypes := #[t, k] }) (e : TypeId) (q : IntKind) (hk : P.underlying k = some (.int q)) (ht : P.underlying t = some (.map k e))
    (mb : Option Nat) (n : Nat) (f : Int → Option Value) (hm : a.eval m = .map mb) (h : MapOpt P k q w mb n f) (i : Int) (hx : a.eval x = .int q i) (hwf : (Lit.int q i).wf = true)
    (hK : ∀ w' n', n' ≤ n → MapOpt P k q w' mb n' (fun j => if j = i then none else f j) → w.grownBy w' mb → wpList P ops Q rest (a.put o.dst (.tuple #[])) w') : wpList P ops Q (o :: rest) a w := by
  rcases h with ⟨rfl, rfl, hf⟩ | ⟨b, rfl, h⟩
  · refine wpList_plain hg fun K' hK' => ?_
    have hrun := Maps.drop_nil (w := w) (int_keyed hk) ht (keyOf_int_mk hk hwf) o.type
    unfold Oper.wp
    simp [execOp, hop, resolve, invoke, builtin, hm, hx, hrun, Result.andThen]
    exact hK' _ _ (hK w 0 (Nat.le_refl _) (.inl ⟨rfl, rfl, fun j => by dsimp only; split; rfl; exact hf j⟩) ⟨rfl, rfl, rfl, Nat.le_refl _, fun _ _ _ => rfl⟩)
  · obtain ⟨D, hD, hs, hh, ha⟩ := h
    refine wpList_delete_own w hg m x t k hop e (int_keyed hk) ht rawR b n D hm hD _ (.int q i) hx (keyOf_int_mk hk hwf) (fun w' h1 h2 => ?_)
    obtain ⟨n', hn', hm'⟩ := MapIs.del_of (int_keyed hk) hD hs hh ha h1
    exact hK w' n' hn' (.inr ⟨b, rfl, hm'⟩) h2.grown
end

theorem ptwin_opt (mb : Option Nat) (n : Nat) (bs : Bxs) (w : World) (h : MapOpt Tryz.prog 27 .u32 w mb n bs.f) :
    Calls Tryz.prog 40 #[.agg #[.map mb]] w fun e w' => ∃ mb', e = .returned (.agg #[.map mb']) ∧ (∀ b, mb' = some b → w.heap.size ≤ b) ∧ MapOpt Tryz.prog 27 .u32 w' mb' n bs.f ∧ Below w.heap.size w w' := by
  rcases h with ⟨rfl, rfl, hf⟩ | ⟨b, rfl, h⟩
  · have HF := Lib.hid hf
    have bres := blk_new2 w (.cells #[.map none] 38) 38 #[.map none]
    have HBR := Lib.hid bres
    have r0 := bres.cellV (i := 0) (v := .map none) rfl
    have rf := bres.frozen 0
    have rl := bres.lt
    clear hf bres
    go_enter Tryz.func40, Tryz.ntmps40
    go_wp2_with (go_at_call 60; refine (AnyW.maps_Clone_nil Tryz.cloneBoxes _).mono ?_; rintro e w1 ⟨rfl, rfl⟩)
    have hr := (HBR.out.set_ 0 (.map none)).cellV (i := 0) (v := .map none) rfl
    exact bodyPost_ret (v := .agg #[.map none]) (by simp [results, Tryz.results40, go_sem, hr]) rfl ⟨_, rfl, (fun b e => by cases e), .inl ⟨rfl, rfl, HF.out⟩, bal (bal (bre w) _) _⟩
  · refine (ptwin_any b n bs w h).mono ?_
    rintro e w' ⟨b', rfl, hb, hm, hB⟩
    exact ⟨_, rfl, (fun c e => by cases e; exact hb), .inr ⟨b', rfl, hm⟩, hB⟩

/-- boxes without those of some windows; the root's stays. -/
def dropBs (bs : Bxs) (ids : List Int) : Bxs := fun i => if i ∈ ids ∧ i ≠ 1 then none else bs i
theorem dropBs_snoc (bs : Bxs) (ids : List Int) (x : Int) : (dropBs bs (ids ++ [x])).f = if x = 1 then (dropBs bs ids).f else fun j => if j = x then none else (dropBs bs ids).f j := by
  funext j
  unfold Bxs.f dropBs
  by_cases hx : x = 1
  · subst hx
    rw [if_pos rfl]
    by_cases hj : j = 1
    · subst hj; simp
    · simp [hj]
  · rw [if_neg hx]
    by_cases hj : j = x
    · subst hj; simp [hx]
    · simp [hj]

set_option maxRecDepth 100000 in
set_option maxHeartbeats 2000000 in
theorem pdrop_any (pv : Value) (n : Nat) (bs : Bxs) (A : Option Addr) (m c : Nat) (ids : List Int) (w : World) (hp : PlaceIs w pv n bs) (hr : Rd w A m (U32 ids)) (hids : ∀ i ∈ ids, 0 ≤ i ∧ i ≤ 4294967295) (hmx : m ≤ maxLen) :
    Calls Tryz.prog 27 #[pv, .slice A m c] w fun e w' => ∃ pv' n', e = .returned pv' ∧ PlaceIs w' pv' n' (dropBs bs ids) ∧ n' ≤ n ∧ Below w.heap.size w w' := by
  obtain ⟨mb, rfl, hm⟩ := hp
  have HM := Lib.hid hm
  have HR := Lib.hid hr
  have HI := Lib.hid hids
  have hm0 := hmx
  unfold maxLen at hm0
  have HMX := Lib.hid hmx
  have HBE := Lib.hid (bal (bal (bre w) (.cells #[.map mb] 38)) (.cells #[.map none] 38))
  have H4 := Lib.hid (blk_new2 w (.cells #[.map mb] 38) 38 #[.map none])
  clear hm hr hids hmx
  go_enter Tryz.func27, Tryz.ntmps27
  go_wp2_with fail
  with_reducible refine (ptwin_opt mb n bs _ (HM.out.below HBE.out)).mono ?_
  rintro e w1 ⟨mb', rfl, hfr, hm1, hb1⟩
  have b4 := H4.out.belowS hb1
  have f4 := b4.frozen 0
  have q4 := b4.cellV (i := 0) (v := .map none) rfl
  have l4 := b4.lt
  have HB1 := Lib.hid (bstep HBE.out hb1)
  have K4 := Lib.hid b4
  have HFR := Lib.hid hfr
  have hlt1 : ∀ b, mb' = some b → b < w1.heap.size := fun b e => by
    rcases hm1 with ⟨e', _⟩ | ⟨b', e', h⟩
    · rw [e'] at e; cases e
    · rw [e'] at e; cases e; exact h.lt
  have HLT := Lib.hid hlt1
  have HM1 := Lib.hid hm1
  clear hb1 b4 hfr hm1 hlt1
  go_wp2_with fail
  have hK5 := Blk.new w1 38 #[.map mb']
  have hK4 := K4.out.alloc (.cells #[.map mb'] 38)
  have hBX := bal HB1.out (.cells #[.map mb'] 38)
  have hMX := HM1.out.below (bal (bre w1) (.cells #[.map mb'] 38))
  have hsX : (w1.alloc (.cells #[.map mb'] 38)).heap.size = w1.heap.size + 1 := World.size_alloc _ _
  obtain ⟨X, hX⟩ : ∃ X, w1.alloc (.cells #[.map mb'] 38) = X := ⟨_, rfl⟩
  rw [hX] at hK5 hK4 hBX hMX hsX ⊢
  have HK5 := Lib.hid hK5
  have HK4 := Lib.hid hK4
  have HBX := Lib.hid hBX
  have HMX' := Lib.hid hMX
  clear hK5 hK4 hBX hMX hX q4 f4 hsX
  go_loopw [12, 7] (fun i _ wr => ∃ (k n2 : Nat), i = .int .i64 k ∧ k ≤ m ∧ n2 ≤ n ∧ MapOpt Tryz.prog 27 .u32 wr mb' n2 (dropBs bs (ids.take k)).f ∧ X.grownBy wr mb') (fun i _ _ => m - (intOf i).toNat)
  case atStart => exact ⟨0, n, rfl, by omega, Nat.le_refl _, by rw [List.take_zero, show dropBs bs [] = bs by funext j; simp [dropBs]]; exact HMX'.out, ⟨rfl, rfl, rfl, Nat.le_refl _, fun _ _ _ => rfl⟩⟩
  case round =>
    obtain ⟨k, n2, rfl, hk, hn2, hmr, hgr⟩ := hrel
    have HMR := Lib.hid hmr
    have HGR := Lib.hid hgr
    have ne4 : some (w.heap.size + 1) ≠ mb' := fun e => by have := HFR.out _ e.symm; simp at this; omega
    have ne5 : some w1.heap.size ≠ mb' := fun e => by have := HLT.out _ e.symm; omega
    have b4 := HK4.out.grown hgr ne4
    have b5 := HK5.out.grown hgr ne5
    have B4 := Lib.hid b4
    have hbw := HBX.out.grown hgr HBX.out.size (fun b e => by have := HFR.out _ e; simp at this; omega)
    have HBW := Lib.hid hbw
    have q5 := b5.cellV (i := 0) (v := .map mb') rfl
    have f4 := b4.frozen 0
    have q4 := b4.cellV (i := 0) (v := .map none) rfl
    have l4' := b4.lt
    clear hmr hgr ne4 ne5 b4 b5 hbw
    by_cases hlt : k < m
    · obtain ⟨x, hx⟩ : ∃ x, ids[k]? = some x := ⟨_, List.getElem?_eq_getElem (by have := HR.out.1; simp [U32] at this; omega)⟩
      have hxb := HI.out x (List.mem_of_getElem? hx)
      have HWF := Lib.hid (u32_wf hxb)
      obtain ⟨b, off, rfl, hbl, hcl⟩ := (HR.out.below HBW.out).2 (by omega)
      have hcell := hcl k _ (U32_at hx)
      have k1 : (k : Int) < (m : Int) := by omega
      have k0 : (0 : Int) ≤ (k : Int) := by omega
      have HTK := Lib.hid (show ids.take (k + 1) = ids.take k ++ [x] by rw [List.take_add_one, hx]; rfl)
      clear hx hcl
      by_cases hx1 : x = 1
      · have d1 : (x != 1) = false := by simp [hx1]
        have HX1 := Lib.hid hx1
        clear hx1
        go_wp2_with fail
        go_roundw
        case rel => exact ⟨k + 1, n2, by go_num, by omega, hn2, by rw [HTK.out, dropBs_snoc, if_pos HX1.out]; exact HMR.out, HGR.out⟩
        case measure => simp [intOf]; omega
      · have d1 : (x != 1) = true := by simp [hx1]
        have HX1 := Lib.hid hx1
        clear hx1
        go_wp2_with (at_delete; refine opt_del rfl _ _ 36 27 rfl 46 .u32 Tryz.underlying27 Tryz.underlying36 mb' n2 _ rfl HMR.out x rfl HWF.out ?_; intro w5 n3 hn3 hm5 hg5; have HM5 := Lib.hid hm5; have HG5 := Lib.hid hg5; clear hm5 hg5)
        go_roundw
        case rel => exact ⟨k + 1, n3, by go_num, by omega, by omega, by rw [HTK.out, dropBs_snoc, if_neg HX1.out]; exact HM5.out, HGR.out.andThen HG5.out (fun j hj => .inr hj)⟩
        case measure => simp [intOf]; omega
    · obtain rfl : k = m := by omega
      have k1 : ¬ (k : Int) < (k : Int) := by omega
      have ht : ids.take k = ids := List.take_of_length_le (by have := HR.out.1; simp [U32] at this; omega)
      have HT := Lib.hid ht
      clear ht
      go_wp2_with fail
      have hb9 := B4.out.set_ 0 (.map mb')
      have r0 := hb9.cellV (i := 0) (v := .map mb') rfl
      refine bodyPost_ret (v := .agg #[.map mb']) (by simp [results, Tryz.results27, go_sem, r0]) rfl ⟨.agg #[.map mb'], rfl, n2, ⟨mb', rfl, ?_⟩, hn2, bset (p := ⟨w.heap.size + 1, 0, none⟩) HBW.out (by show w.heap.size ≤ w.heap.size + 1; omega) _⟩
      have := HMR.out
      rw [HT.out] at this
      exact this.kept (grown_setCell _ ⟨w.heap.size + 1, 0, none⟩ _) (fun b e => by have := HFR.out _ e; simp at this; intro e'; have e2 := Option.some.inj e'; dsimp only at e2; omega)

end Go.Proofs.YtbfefkhejknmoaaGreatDoor

namespace Go.Proofs.YtbfefkhejknmoaaGreatDoor

/-- the list without a window's box, but the root's. -/
def dropD (l : List DB) (id : Int) : List DB := l.filter fun d => decide (d.id ≠ id ∨ id = 1)
def dropsD (l : List DB) (ids : List Int) : List DB := ids.foldl dropD l
theorem mem_dropD {l : List DB} {id : Int} {d : DB} : d ∈ dropD l id ↔ d ∈ l ∧ (d.id ≠ id ∨ id = 1) := by
  unfold dropD
  rw [List.mem_filter, decide_eq_true_eq]
theorem mem_dropsD : ∀ (ids : List Int) (l : List DB) (d : DB), d ∈ dropsD l ids ↔ d ∈ l ∧ ∀ i ∈ ids, d.id ≠ i ∨ i = 1
  | [], l, d => by simp [dropsD]
  | i :: ids, l, d => by
    show d ∈ dropsD (dropD l i) ids ↔ _
    rw [mem_dropsD ids, mem_dropD]
    constructor
    · rintro ⟨⟨h1, h2⟩, h3⟩
      exact ⟨h1, fun j hj => by
        rcases List.mem_cons.1 hj with rfl | hj
        · exact h2
        · exact h3 j hj⟩
    · rintro ⟨h1, h2⟩
      exact ⟨⟨h1, h2 i (by simp)⟩, fun j hj => h2 j (List.mem_cons_of_mem _ hj)⟩
theorem dropD_len (l : List DB) (id : Int) : (dropD l id).length ≤ l.length := List.length_filter_le _ _
theorem dropsD_len : ∀ (ids : List Int) (l : List DB), (dropsD l ids).length ≤ l.length
  | [], _ => Nat.le_refl _
  | i :: ids, l => Nat.le_trans (dropsD_len ids (dropD l i)) (dropD_len l i)
theorem dropsD_snoc (l : List DB) (ids : List Int) (i : Int) : dropsD l (ids ++ [i]) = dropD (dropsD l ids) i := by simp [dropsD]
theorem dropD_take (l : List DB) (id : Int) {k : Nat} {d : DB} (h : l[k]? = some d) : dropD (l.take (k + 1)) id = if d.id ≠ id ∨ id = 1 then dropD (l.take k) id ++ [d] else dropD (l.take k) id := by
  unfold dropD
  rw [List.take_add_one, h, Option.toList_some, List.filter_append]
  by_cases e : d.id ≠ id ∨ id = 1
  · rw [if_pos e]; simp [e]
  · rw [if_neg e]; simp [e]
theorem mem_setL {l : List DB} {d x : DB} (h : x ∈ setL l d) : x ∈ l ∨ x = d := by
  unfold setL at h
  split at h
  · split at h
    · exact List.mem_or_eq_of_mem_set h
    · rcases List.mem_append.1 h with h | h
      · exact .inl h
      · exact .inr (by simpa using h)
  · exact .inl h
theorem mem_foldL {x : DB} : ∀ (L l : List DB), x ∈ L.foldl setL l → x ∈ l ∨ x ∈ L
  | [], _, h => .inl h
  | d :: L, l, h => by
    rcases mem_foldL L (setL l d) h with h | h
    · rcases mem_setL h with h | h
      · exact .inl h
      · exact .inr (by rw [h]; simp)
    · exact .inr (List.mem_cons_of_mem _ h)
/-- boxes and a list that have the same. -/
structure RelI (sm : BX → DB → Prop) (bs : Bxs) (l : List DB) : Prop where
  has : ∀ d ∈ l, ∃ b, bs d.id = some b ∧ sm b d
  non : ∀ i, (∀ d ∈ l, d.id ≠ i) → bs i = none
section
variable {sm sm' : BX → DB → Prop} {bs : Bxs} {n : Nat} {l : List DB}
theorem RelB.toI (h : RelB sm bs n l) : RelI sm bs l := ⟨h.has, h.non⟩
theorem RelI.mono (h : RelI sm bs l) (hs : ∀ b d, sm b d → sm' b d) : RelI sm' bs l :=
  ⟨fun d hd => by
    obtain ⟨b, hb, hsm⟩ := h.has d hd
    exact ⟨b, hb, hs b d hsm⟩, h.non⟩
theorem RelI.find (h : RelI sm bs l) (i : Int) : ((findD l i 0 < 0) ∧ (bs i).isSome = false) ∨ ((0 ≤ findD l i 0) ∧ (bs i).isSome = true) := by
  by_cases e : ∃ d ∈ l, d.id = i
  · right
    obtain ⟨m, h1, d, h2, h3⟩ := findD_yes (k := 0) e
    obtain ⟨d0, hd0, e0⟩ := e
    obtain ⟨b, hb, _⟩ := h.has d0 hd0
    rw [e0] at hb
    exact ⟨by omega, by rw [hb]; rfl⟩
  · left
    have e' : ∀ d ∈ l, d.id ≠ i := fun d hd he => e ⟨d, hd, he⟩
    exact ⟨by rw [findD_no (by omega) e']; decide, by rw [h.non i e']; rfl⟩
theorem RelI.drops (h : RelI sm bs l) (ids : List Int) : RelI sm (dropBs bs ids) (dropsD l ids) := by
  refine ⟨fun d hd => ?_, fun i hi => ?_⟩
  · obtain ⟨h1, h2⟩ := (mem_dropsD ids l d).1 hd
    obtain ⟨b, hb, hs⟩ := h.has d h1
    refine ⟨b, ?_, hs⟩
    unfold dropBs
    rw [if_neg (fun e => ?_)]
    · exact hb
    · rcases h2 d.id e.1 with e' | e'
      · exact e' rfl
      · exact e.2 e'
  · unfold dropBs
    by_cases e : i ∈ ids ∧ i ≠ 1
    · rw [if_pos e]
    · rw [if_neg e]
      refine h.non i (fun d hd he => hi d ((mem_dropsD ids l d).2 ⟨hd, fun j hj => ?_⟩) he)
      by_cases e1 : d.id = j
      · right
        refine Classical.byContradiction fun e2 => e ⟨?_, ?_⟩
        · rw [← he, e1]; exact hj
        · rw [← he, e1]; exact e2
      · exact .inl e1
end

end Go.Proofs.YtbfefkhejknmoaaGreatDoor

namespace Go.Proofs.YtbfefkhejknmoaaGreatDoor
open Go.RowKit Go.Maps Go.Shelf

theorem run_neq_rcE (w : World) (a b c d a' b' c' d' : Int) : (binOp .neq 29 (.agg #[.int .i64 a, .int .i64 b, .int .i64 c, .int .i64 d]) (.agg #[.int .i64 a', .int .i64 b', .int .i64 c', .int .i64 d'])).run Tryz.prog w = .ok (.bool (!(a == a' && b == b' && c == c' && d == d'))) w := by
  cases h1 : (a == a') <;> cases h2 : (b == b') <;> cases h3 : (c == c') <;> cases h4 : (d == d') <;> simp [go_sem, h1, h2, h3, h4]
attribute [local go_sem ↓] run_neq_rcE

set_option maxRecDepth 100000 in
set_option maxHeartbeats 2000000 in
theorem equalR_eq (A A' : Option Addr) (n c c' : Nat) (rs : List RC) (w : World) (hn : n ≤ 1000000000000) (hr : RdR w A n rs) (hq : RdR w A' n rs) :
    Calls Tryz.prog 95 #[.slice A n c, .slice A' n c'] w fun e w' => e = .returned (.bool true) ∧ Below w.heap.size w w' := by
  have HR := Lib.hid hr
  have HQ := Lib.hid hq
  have HL := Lib.hid hr.1
  have e0 : ((n : Int) != (n : Int)) = false := by simp
  clear hr hq
  go_enter Tryz.func95, Tryz.ntmps95
  go_wp2_with fail
  go_loopw [13, 5] (fun i _ wr => ∃ k : Nat, i = .int .i64 k ∧ k ≤ n ∧ Below w.heap.size w wr) (fun i _ _ => n - (intOf i).toNat)
  case atStart => exact ⟨0, rfl, by omega, bre w⟩
  case round =>
    obtain ⟨k, rfl, hk, hB⟩ := hrel
    have HB := Lib.hid hB
    by_cases hlt : k < n
    · obtain ⟨r, hr⟩ : ∃ r, rs[k]? = some r := ⟨_, List.getElem?_eq_getElem (by have := HL.out; omega)⟩
      obtain ⟨b, off, rfl, hb, hcl⟩ := (HR.out.below hB).2 (by omega)
      obtain ⟨b', off', rfl, hb', hcl'⟩ := (HQ.out.below hB).2 (by omega)
      obtain ⟨c0, c1, c2, c3⟩ := hcl k r hr
      obtain ⟨d0, d1, d2, d3⟩ := hcl' k r hr
      have k1 : (k : Int) < (n : Int) := by omega
      have k0 : (0 : Int) ≤ (k : Int) := by omega
      clear hB hr hcl hcl'
      go_wp2_with fail
      go_quiet (fail)
      go_wp2_with fail
      go_roundw
      case rel => exact ⟨k + 1, by go_num, by omega, below_drewN HB.out _⟩
      case measure => simp [intOf]; omega
    · obtain rfl : k = n := by omega
      clear hB
      go_wp2_with fail
      go_ret
      exact ⟨rfl, HB.out⟩

set_option maxRecDepth 100000 in
set_option maxHeartbeats 2000000 in
theorem bandSame_eq (A A' : Option Addr) (n c c' : Nat) (rs : List RC) (w : World) (hn : n ≤ 1000000000000) (hr : RdR w A n rs) (hq : RdR w A' n rs) :
    Calls Tryz.prog 76 #[.agg #[.slice A n c], .agg #[.slice A' n c']] w fun e w' => e = .returned (.bool true) ∧ Below w.heap.size w w' := by
  have HR := Lib.hid hr
  have HQ := Lib.hid hq
  clear hr hq
  go_enter Tryz.func76, Tryz.ntmps76
  have HB := Lib.hid (bal (bal (bre w) (.cells #[.slice A n c] 44)) (.cells #[.slice A' n c'] 44))
  go_wp2_with (go_at_call 95; refine (equalR_eq A A' n _ _ rs _ hn (HR.out.below HB.out) (HQ.out.below HB.out)).mono ?_; rintro e w1 ⟨rfl, hb⟩; have HB1 := Lib.hid (bstep HB.out hb); clear hb)
  go_ret
  exact ⟨rfl, HB1.out⟩

set_option maxRecDepth 100000 in
set_option maxHeartbeats 2000000 in
theorem ddrop_any (A : Option Addr) (n c : Nat) (l : List DB) (id : Int) (w : World) (hn : n ≤ 1000) (hr : RdD w A n l) :
    Calls Tryz.prog 26 #[.slice A n c, .int .u32 id] w fun e w' => ∃ A' c', e = .returned (.slice A' (dropD l id).length c') ∧ RdD w' A' (dropD l id).length (dropD l id) ∧ Below w.heap.size w w' := by
  obtain ⟨i0, hi0, hz0, hz1, hz2⟩ := info_parts Tryz.infoDb
  have HR := Lib.hid hr
  have HL := Lib.hid hr.1
  clear hr
  go_enter Tryz.func26, Tryz.ntmps26
  go_wp2_with fail
  go_loopw [5, 6] (fun v i wr => ∃ k : Nat, i = .int .i64 k ∧ k ≤ n ∧ wr.ownsRow w.heap.size 79 10 v (dropD (l.take k) id).length ((dropD (l.take k) id).flatMap DB.cells) ∧ Below w.heap.size w wr) (fun _ i _ => n - (intOf i).toNat)
  case atStart => exact ⟨0, rfl, by omega, by simpa [dropD] using World.ownsRow_nil w w.heap.size 79 10, bre w⟩
  case round =>
    obtain ⟨k, rfl, hk, ho, hB⟩ := hrel
    have HO := Lib.hid ho
    have HB := Lib.hid hB
    have hlen := dropD_len (l.take k) id
    rw [List.length_take] at hlen
    clear ho hB
    obtain ⟨Ao, co, rfl, hco⟩ := own_form HO.out
    by_cases hlt : k < n
    · obtain ⟨d, hd⟩ : ∃ d, l[k]? = some d := ⟨_, List.getElem?_eq_getElem (by have := HL.out; omega)⟩
      obtain ⟨b, off, rfl, hb, hcl⟩ := (HR.out.below HB.out).2 (by omega)
      have c0 : wr.cell? ⟨b, off + k * 10, none⟩ = some (.int .u32 d.id) := hcl k d hd 0 _ rfl
      have c1 := hcl k d hd 1 _ rfl
      have c2 := hcl k d hd 2 _ rfl
      have c3 := hcl k d hd 3 _ rfl
      have c4 := hcl k d hd 4 _ rfl
      have c5 := hcl k d hd 5 _ rfl
      have c6 := hcl k d hd 6 _ rfl
      have c7 := hcl k d hd 7 _ rfl
      have c8 := hcl k d hd 8 _ rfl
      have c9 := hcl k d hd 9 _ rfl
      have k1 : (k : Int) < (n : Int) := by omega
      have k0 : (0 : Int) ≤ (k : Int) := by omega
      have HS := Lib.hid (show w.heap.size ≤ (wr.alloc (.cells d.cells.toArray 79)).heap.size by rw [World.size_alloc]; have := HB.out.size; omega)
      have HT := Lib.hid (dropD_take l id hd)
      clear hcl hd
      have yes : (d.id ≠ id ∨ id = 1) → ∀ (w4 : World) (v4 : Value), w4.ownsRow w.heap.size 79 10 v4 ((dropD (l.take k) id).length + 1) ((dropD (l.take k) id).flatMap DB.cells ++ d.cells) → w4.ownsRow w.heap.size 79 10 v4 (dropD (l.take (k + 1)) id).length ((dropD (l.take (k + 1)) id).flatMap DB.cells) := fun h w4 v4 h4 => by
        rw [HT.out, if_pos h, List.length_append, List.flatMap_append]
        simpa using h4
      have YES := Lib.hid yes
      clear yes
      by_cases he : d.id = id
      · by_cases h1 : id = 1
        · have d1 : (d.id != id) = false := by simp [he]
          have d2 : (id == 1) = true := by simp [h1]
          have HH := Lib.hid (show d.id ≠ id ∨ id = 1 from .inr h1)
          clear he h1
          go_wp2_with (at_builtin; refine wpList_append_opt rfl _ _ 23 rfl w.heap.size 79 i0 _ 10 96 Tryz.underlying23 hi0 hz0 hz1 hz2 rfl (by decide) _ _ _ rfl (HO.out.alloc _) (some ⟨wr.heap.size, 0, none⟩) 1 1 d.cells rfl rfl (fun _ => rfl) (fun ad e => by cases e; exact ten_new _ _ _) (by simp [DB.cells, Value.oneCell']) (by simp only [maxLen]; omega) (by omega) HS.out ?_; intro v6 w6 hown6 hg6; obtain ⟨A6, c6, rfl, hc6⟩ := own_form hown6; have HO6 := Lib.hid hown6; have HG6 := Lib.hid hg6; clear hown6 hg6; go_frame)
          have hB2 := (bal HB.out (.cells d.cells.toArray 79)).grown HG6.out HS.out (fun g e => own_ge HO.out _ e)
          go_roundw
          case rel => exact ⟨k + 1, by go_num, by omega, YES.out HH.out _ _ HO6.out, hB2⟩
          case measure => simp [intOf]; omega
        · have d1 : (d.id != id) = false := by simp [he]
          have d2 : (id == 1) = false := by simp [h1]
          have HN := Lib.hid (show ¬ (d.id ≠ id ∨ id = 1) from fun e => e.elim (fun e => e he) h1)
          clear he h1
          go_wp2_with fail
          go_roundw
          case rel => exact ⟨k + 1, by go_num, by omega, by rw [HT.out, if_neg HN.out]; exact HO.out, HB.out⟩
          case measure => simp [intOf]; omega
      · have d1 : (d.id != id) = true := by simp [he]
        have HH := Lib.hid (show d.id ≠ id ∨ id = 1 from .inl he)
        clear he
        go_wp2_with (at_builtin; refine wpList_append_opt rfl _ _ 23 rfl w.heap.size 79 i0 _ 10 96 Tryz.underlying23 hi0 hz0 hz1 hz2 rfl (by decide) _ _ _ rfl (HO.out.alloc _) (some ⟨wr.heap.size, 0, none⟩) 1 1 d.cells rfl rfl (fun _ => rfl) (fun ad e => by cases e; exact ten_new _ _ _) (by simp [DB.cells, Value.oneCell']) (by simp only [maxLen]; omega) (by omega) HS.out ?_; intro v6 w6 hown6 hg6; obtain ⟨A6, c6, rfl, hc6⟩ := own_form hown6; have HO6 := Lib.hid hown6; have HG6 := Lib.hid hg6; clear hown6 hg6; go_frame)
        have hB2 := (bal HB.out (.cells d.cells.toArray 79)).grown HG6.out HS.out (fun g e => own_ge HO.out _ e)
        go_roundw
        case rel => exact ⟨k + 1, by go_num, by omega, YES.out HH.out _ _ HO6.out, hB2⟩
        case measure => simp [intOf]; omega
    · obtain rfl : k = n := by omega
      have ht : l.take k = l := List.take_of_length_le (by rw [HL.out]; exact Nat.le_refl _)
      have ho := HO.out
      rw [ht] at ho ⊢
      have HO2 := Lib.hid ho
      clear HO ho ht
      go_wp2_with fail
      go_ret
      exact ⟨Ao, co, rfl, RdF.of_own DB.cells_len HO2.out rfl, HB.out⟩

end Go.Proofs.YtbfefkhejknmoaaGreatDoor
