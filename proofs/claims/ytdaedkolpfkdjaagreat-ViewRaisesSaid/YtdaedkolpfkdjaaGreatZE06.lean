/-
  The walks of tree.New and Add.
  Plain facts on rows' edges: sorted numbers, each once.
  The walks of slices.IndexFunc and slices.DeleteFunc at rectangles, with band's predicate 'it ends ahead of a row'.
-/
import Derived.Test.YtdaedkolpfkdjaaGreatZE05
import Derived.Lib.SlicesCompact
import Derived.Test.YtdaedkolpfkdjaaGreatZE01
section
namespace Go.Proofs.YtdaedkolpfkdjaaGreat
open Go.RowKit Go.Maps Go.Shelf

set_option maxRecDepth 100000 in
theorem tnew_any (w : World) : Calls Tryz.prog 78 #[] w fun e w' => e = .returned (.agg #[.map none, .map none]) ∧ Below w.heap.size w w' := by
  go_enter Tryz.func78, Tryz.ntmps78
  go_wp2_with fail
  exact bodyPost_ret (v := .agg #[.map none, .map none]) (by simp [results, Tryz.results78, go_sem]) rfl ⟨rfl, (by repeat (first | exact bre _ | refine bal ?_ _ | refine bset ?_ (by simp) _ | refine bset ?_ (by simp; omega) _))⟩
theorem tree_new (w : World) : TreeIs w (.agg #[.map none, .map none]) [] none none 0 (fun _ => none) :=
  ⟨rfl, .inl ⟨rfl, rfl, fun _ => rfl⟩, .inl ⟨rfl, rfl, fun _ => rfl⟩, fun _ => ⟨none, 0, rfl, Nat.le_refl _, Rd.nil _ _⟩, Nat.zero_le _, Nat.zero_le _, (fun p hp => by cases hp), (fun i hi => by cases hi)⟩

/-- what Add answers. -/
def addC (ns : Nodes) (id p : Int) : Int := if idC id ≠ 0 then idC id else if hasN ns id then 7 else if hasN ns p = false then 6 else if 64 ≤ ns.length + 1 then 5 else 0
/-- the windows behind it. -/
def addN (ns : Nodes) (id p : Int) : Nodes := if addC ns id p = 0 then ns ++ [(id, p)] else ns

set_option maxRecDepth 100000 in
set_option maxHeartbeats 4000000 in
theorem tadd_err (v : Value) (ns : Nodes) (mk mu : Option Nat) (nk : Nat) (fk : Int → Option Value) (id p code : Int) (w : World) (hid : 0 ≤ id ∧ id ≤ 4294967295) (hp : 0 ≤ p ∧ p ≤ 4294967295) (h : TreeIs w v ns mk mu nk fk)
    (hc : (idC id = code ∧ (code != 0) = true) ∨ (idC id = 0 ∧ ((hasN ns id = true ∧ code = 7) ∨ (hasN ns id = false ∧ ((hasN ns p = false ∧ code = 6) ∨ (hasN ns p = true ∧ decide ((64 : Int) ≤ (ns.length : Int) + 1) = true ∧ code = 5)))))) :
    Calls Tryz.prog 80 #[v, .int .u32 id, .int .u32 p] w fun e w' => e = .returned (.tuple #[v, .int .i64 code]) ∧ Below w.heap.size w w' := by
  have hv := h.shape
  subst hv
  have HT := Lib.hid h
  have HBE := Lib.hid (bal (bal (bre w) (.cells #[.map mk, .map mu] 37)) (.cells #[.map none, .map none] 37))
  have H0 := Lib.hid ((Blk.new w 37 #[.map mk, .map mu]).alloc (.cells #[.map none, .map none] 37))
  have H1 := Lib.hid (blk_new2 w (.cells #[.map mk, .map mu] 37) 37 #[.map none, .map none])
  have wl : IntKind.i64.wrap ((ns.length : Int) + 1) = (ns.length : Int) + 1 := IntWalk.i64_in _ (by have := h.few; omega)
  clear h
  rcases hc with ⟨hck, d1⟩ | ⟨hck, ⟨h1, rfl⟩ | ⟨h1, ⟨h2, rfl⟩ | ⟨h2, d2, rfl⟩⟩⟩
  · have HCK := Lib.hid hck
    clear hck
    go_enter Tryz.func80, Tryz.ntmps80
    go_wp2_with (go_at_call 64; refine (check_any _ _ hid).mono ?_; rintro e w' ⟨rfl, rfl⟩; rw [HCK.out])
    exact bodyPost_ret (v := .tuple #[.agg #[.map mk, .map mu], .int .i64 code]) (by simp [results, Tryz.results80, go_sem]) rfl ⟨rfl, (by repeat (first | exact HBE.out | exact bre _ | refine bal ?_ _ | refine bset ?_ (by simp) _ | refine bset ?_ (by simp; omega) _))⟩
  · have HCK := Lib.hid hck
    have HH1 := Lib.hid h1
    skip
    clear hck h1
    go_enter Tryz.func80, Tryz.ntmps80
    go_wp2_with (go_at_call 64; refine (check_any _ _ hid).mono ?_; rintro e w' ⟨rfl, rfl⟩; rw [HCK.out])
    with_reducible refine (has_any _ ns mk mu nk fk _ _ hid (HT.out.below HBE.out)).mono ?_
    rintro e w1 ⟨rfl, hb9⟩
    rw [HH1.out]
    have b0 := H0.out.belowS hb9
    have b1 := H1.out.belowS hb9
    have hb := bstep HBE.out hb9
    have p0 := b0.cellV (i := 0) (v := .map mk) rfl; have p1 := b0.cellV (i := 1) (v := .map mu) rfl; have r0 := b1.cellV (i := 0) (v := .map none) rfl; have r1 := b1.cellV (i := 1) (v := .map none) rfl; have rf0 := b1.frozen 0; have rf1 := b1.frozen 1; have rl := b1.lt; have HBE := Lib.hid hb; have H0 := Lib.hid b0; have H1 := Lib.hid b1
    clear b0 b1 hb hb9
    go_wp2_with fail
    have hr0 := ((H1.out.set_ 0 (.map mk)).set_ 1 (.map mu)).cellV (i := 0) (v := .map mk) rfl
    have hr1 := ((H1.out.set_ 0 (.map mk)).set_ 1 (.map mu)).cellV (i := 1) (v := .map mu) rfl
    exact bodyPost_ret (v := .tuple #[.agg #[.map mk, .map mu], .int .i64 7]) (by simp [results, Tryz.results80, go_sem, hr0, hr1]) rfl ⟨rfl, bset (bset HBE.out (by show w.heap.size ≤ w.heap.size + 1; omega) _) (by show w.heap.size ≤ w.heap.size + 1; omega) _⟩
  · have HCK := Lib.hid hck
    have HH1 := Lib.hid h1
    have HH2 := Lib.hid h2
    clear hck h1
    go_enter Tryz.func80, Tryz.ntmps80
    go_wp2_with (go_at_call 64; refine (check_any _ _ hid).mono ?_; rintro e w' ⟨rfl, rfl⟩; rw [HCK.out])
    with_reducible refine (has_any _ ns mk mu nk fk _ _ hid (HT.out.below HBE.out)).mono ?_
    rintro e w1 ⟨rfl, hb9⟩
    rw [HH1.out]
    have b0 := H0.out.belowS hb9
    have b1 := H1.out.belowS hb9
    have hb := bstep HBE.out hb9
    have p0 := b0.cellV (i := 0) (v := .map mk) rfl; have p1 := b0.cellV (i := 1) (v := .map mu) rfl; have r0 := b1.cellV (i := 0) (v := .map none) rfl; have r1 := b1.cellV (i := 1) (v := .map none) rfl; have rf0 := b1.frozen 0; have rf1 := b1.frozen 1; have rl := b1.lt; have HBE := Lib.hid hb; have H0 := Lib.hid b0; have H1 := Lib.hid b1
    clear b0 b1 hb hb9
    go_wp2_with fail
    with_reducible refine (has_any _ ns mk mu nk fk _ _ hp (HT.out.below HBE.out)).mono ?_
    rintro e w2 ⟨rfl, hb9⟩
    rw [HH2.out]
    have b0 := H0.out.belowS hb9
    have b1 := H1.out.belowS hb9
    have hb := bstep HBE.out hb9
    have p0 := b0.cellV (i := 0) (v := .map mk) rfl; have p1 := b0.cellV (i := 1) (v := .map mu) rfl; have r0 := b1.cellV (i := 0) (v := .map none) rfl; have r1 := b1.cellV (i := 1) (v := .map none) rfl; have rf0 := b1.frozen 0; have rf1 := b1.frozen 1; have rl := b1.lt; have HBE := Lib.hid hb; have H0 := Lib.hid b0; have H1 := Lib.hid b1
    clear b0 b1 hb hb9
    go_wp2_with fail
    have hr0 := ((H1.out.set_ 0 (.map mk)).set_ 1 (.map mu)).cellV (i := 0) (v := .map mk) rfl
    have hr1 := ((H1.out.set_ 0 (.map mk)).set_ 1 (.map mu)).cellV (i := 1) (v := .map mu) rfl
    exact bodyPost_ret (v := .tuple #[.agg #[.map mk, .map mu], .int .i64 6]) (by simp [results, Tryz.results80, go_sem, hr0, hr1]) rfl ⟨rfl, bset (bset HBE.out (by show w.heap.size ≤ w.heap.size + 1; omega) _) (by show w.heap.size ≤ w.heap.size + 1; omega) _⟩
  · have HCK := Lib.hid hck
    have HH1 := Lib.hid h1
    have HH2 := Lib.hid h2
    clear hck h1
    go_enter Tryz.func80, Tryz.ntmps80
    go_wp2_with (go_at_call 64; refine (check_any _ _ hid).mono ?_; rintro e w' ⟨rfl, rfl⟩; rw [HCK.out])
    with_reducible refine (has_any _ ns mk mu nk fk _ _ hid (HT.out.below HBE.out)).mono ?_
    rintro e w1 ⟨rfl, hb9⟩
    rw [HH1.out]
    have b0 := H0.out.belowS hb9
    have b1 := H1.out.belowS hb9
    have hb := bstep HBE.out hb9
    have p0 := b0.cellV (i := 0) (v := .map mk) rfl; have p1 := b0.cellV (i := 1) (v := .map mu) rfl; have r0 := b1.cellV (i := 0) (v := .map none) rfl; have r1 := b1.cellV (i := 1) (v := .map none) rfl; have rf0 := b1.frozen 0; have rf1 := b1.frozen 1; have rl := b1.lt; have HBE := Lib.hid hb; have H0 := Lib.hid b0; have H1 := Lib.hid b1
    clear b0 b1 hb hb9
    go_wp2_with fail
    with_reducible refine (has_any _ ns mk mu nk fk _ _ hp (HT.out.below HBE.out)).mono ?_
    rintro e w2 ⟨rfl, hb9⟩
    rw [HH2.out]
    have b0 := H0.out.belowS hb9
    have b1 := H1.out.belowS hb9
    have hb := bstep HBE.out hb9
    have p0 := b0.cellV (i := 0) (v := .map mk) rfl; have p1 := b0.cellV (i := 1) (v := .map mu) rfl; have r0 := b1.cellV (i := 0) (v := .map none) rfl; have r1 := b1.cellV (i := 1) (v := .map none) rfl; have rf0 := b1.frozen 0; have rf1 := b1.frozen 1; have rl := b1.lt; have HBE := Lib.hid hb; have H0 := Lib.hid b0; have H1 := Lib.hid b1
    clear b0 b1 hb hb9
    go_wp2_with (at_len; refine opt_len rfl _ 35 rfl 48 48 .u32 Tryz.underlying35 mu ns.length (fun i => (upOf ns i).map (Value.int .u32)) rfl (HT.out.up.below HBE.out) ?_)
    have hr0 := ((H1.out.set_ 0 (.map mk)).set_ 1 (.map mu)).cellV (i := 0) (v := .map mk) rfl
    have hr1 := ((H1.out.set_ 0 (.map mk)).set_ 1 (.map mu)).cellV (i := 1) (v := .map mu) rfl
    exact bodyPost_ret (v := .tuple #[.agg #[.map mk, .map mu], .int .i64 5]) (by simp [results, Tryz.results80, go_sem, hr0, hr1]) rfl ⟨rfl, bset (bset HBE.out (by show w.heap.size ≤ w.heap.size + 1; omega) _) (by show w.heap.size ≤ w.heap.size + 1; omega) _⟩

/-- lying in memory from base on, it lies in memory from any lower base on. -/
theorem TreeOwn.lower {w : World} {base base' : Nat} {ns : Nodes} {kb ub nk : Nat} {fk : Int → Option Value} (h : TreeOwn w base ns kb ub nk fk) (hb : base' ≤ base) : TreeOwn w base' ns kb ub nk fk :=
  ⟨h.kids, h.up, fun i v hv => own_lower (h.own i v hv) hb, h.nil, Nat.le_trans hb h.lok, Nat.le_trans hb h.lou, h.room, h.few, h.ok, h.keys⟩
set_option maxRecDepth 100000 in
set_option maxHeartbeats 4000000 in
theorem tadd_own (v : Value) (ns : Nodes) (mk mu : Option Nat) (nk : Nat) (fk : Int → Option Value) (id p : Int) (w : World) (hid : 0 ≤ id ∧ id ≤ 4294967295) (hp : 0 ≤ p ∧ p ≤ 4294967295) (h : TreeIs w v ns mk mu nk fk)
    (hck : idC id = 0) (h1 : hasN ns id = false) (h2 : hasN ns p = true) (d2 : decide ((64 : Int) ≤ (ns.length : Int) + 1) = false) :
    Calls Tryz.prog 80 #[v, .int .u32 id, .int .u32 p] w fun e w' => (∃ kb ub nk' fk', e = .returned (.tuple #[.agg #[.map (some kb), .map (some ub)], .int .i64 0]) ∧ TreeOwn w' w.heap.size (ns ++ [(id, p)]) kb ub nk' fk') ∧ Below w.heap.size w w' := by
  have hv := h.shape
  subst hv
  have HT := Lib.hid h
  have HBE := Lib.hid (bal (bal (bre w) (.cells #[.map mk, .map mu] 37)) (.cells #[.map none, .map none] 37))
  have H0 := Lib.hid ((Blk.new w 37 #[.map mk, .map mu]).alloc (.cells #[.map none, .map none] 37))
  have H1 := Lib.hid (blk_new2 w (.cells #[.map mk, .map mu] 37) 37 #[.map none, .map none])
  have wl : IntKind.i64.wrap ((ns.length : Int) + 1) = (ns.length : Int) + 1 := IntWalk.i64_in _ (by have := h.few; omega)
  have HN1 := Lib.hid (show ns.length + 1 ≤ 1000 by have := of_decide_eq_false d2; omega)
  have HUN := Lib.hid (show upOf ns id = none by
    unfold hasN at h1
    cases hq : upOf ns id with
    | none => rfl
    | some x => rw [hq] at h1; simp at h1)
  have HCK := Lib.hid hck
  have HH1 := Lib.hid h1
  have HH2 := Lib.hid h2
  clear h hck h1 h2
  go_enter Tryz.func80, Tryz.ntmps80
  go_wp2_with (go_at_call 64; refine (check_any _ _ hid).mono ?_; rintro e w' ⟨rfl, rfl⟩; rw [HCK.out])
  with_reducible refine (has_any _ ns mk mu nk fk _ _ hid (HT.out.below HBE.out)).mono ?_
  rintro e w1 ⟨rfl, hb9⟩
  rw [HH1.out]
  have b0 := H0.out.belowS hb9
  have b1 := H1.out.belowS hb9
  have hb := bstep HBE.out hb9
  have p0 := b0.cellV (i := 0) (v := .map mk) rfl; have p1 := b0.cellV (i := 1) (v := .map mu) rfl; have r0 := b1.cellV (i := 0) (v := .map none) rfl; have r1 := b1.cellV (i := 1) (v := .map none) rfl; have rf0 := b1.frozen 0; have rf1 := b1.frozen 1; have rl := b1.lt; have HBE := Lib.hid hb; have H0 := Lib.hid b0; have H1 := Lib.hid b1
  clear b0 b1 hb hb9
  go_wp2_with fail
  with_reducible refine (has_any _ ns mk mu nk fk _ _ hp (HT.out.below HBE.out)).mono ?_
  rintro e w2 ⟨rfl, hb9⟩
  rw [HH2.out]
  have b0 := H0.out.belowS hb9
  have b1 := H1.out.belowS hb9
  have hb := bstep HBE.out hb9
  have p0 := b0.cellV (i := 0) (v := .map mk) rfl; have p1 := b0.cellV (i := 1) (v := .map mu) rfl; have r0 := b1.cellV (i := 0) (v := .map none) rfl; have r1 := b1.cellV (i := 1) (v := .map none) rfl; have rf0 := b1.frozen 0; have rf1 := b1.frozen 1; have rl := b1.lt; have HBE := Lib.hid hb; have H0 := Lib.hid b0; have H1 := Lib.hid b1
  clear b0 b1 hb hb9
  go_wp2_with (at_len; refine opt_len rfl _ 35 rfl 48 48 .u32 Tryz.underlying35 mu ns.length (fun i => (upOf ns i).map (Value.int .u32)) rfl (HT.out.up.below HBE.out) ?_)
  with_reducible refine (twin_any _ ns mk mu nk fk _ (HT.out.below HBE.out)).mono ?_
  rintro e w3 ⟨kb, ub, nk', fo, rfl, ht3, hb3⟩
  have hs3 := H1.out.lt
  have hw3 := hb3.size
  have HW3 := Lib.hid hw3
  have HBW := Lib.hid HBE.out.size
  have HS3 := Lib.hid hs3
  have b1 := H1.out.belowS hb3
  have HBE := Lib.hid (bstep HBE.out hb3)
  have H1 := Lib.hid b1
  have HT3 := Lib.hid ht3
  clear b1 hb3 ht3 hs3 hw3
  go_wp2_with fail
  with_reducible refine (put_any _ ns kb ub nk' fo id p _ hid hp (HT3.out.alloc (.cells #[.map (some kb), .map (some ub)] 37)) HN1.out HUN.out HH2.out (by have := HW3.out; rw [World.size_alloc]; omega)).mono ?_
  rintro e w4 ⟨rfl, ⟨nk4, fk4, ht4⟩, hb4, hbl4⟩
  have b9 := hbl4 _ _ (Blk.new w3 37 #[.map (some kb), .map (some ub)])
  have b1 := hbl4 _ _ (H1.out.alloc (.cells #[.map (some kb), .map (some ub)] 37))
  have s0 := b9.cellV (i := 0) (v := .map (some kb)) rfl
  have s1 := b9.cellV (i := 1) (v := .map (some ub)) rfl
  have r0 := b1.cellV (i := 0) (v := .map none) rfl
  have r1 := b1.cellV (i := 1) (v := .map none) rfl
  have rf0 := b1.frozen 0
  have rf1 := b1.frozen 1
  have rl := b1.lt
  have HBE := Lib.hid ((bal HBE.out (.cells #[.map (some kb), .map (some ub)] 37)).trans (hb4.mono HBW.out))
  have H1 := Lib.hid b1
  have HT4 := Lib.hid ht4
  clear b1 b9 hb4 hbl4 ht4
  go_wp2_with fail
  have hr0 := ((H1.out.set_ 0 (.map (some kb))).set_ 1 (.map (some ub))).cellV (i := 0) (v := .map (some kb)) rfl
  have hr1 := ((H1.out.set_ 0 (.map (some kb))).set_ 1 (.map (some ub))).cellV (i := 1) (v := .map (some ub)) rfl
  refine bodyPost_ret (v := .tuple #[.agg #[.map (some kb), .map (some ub)], .int .i64 0]) (by simp [results, Tryz.results80, go_sem, hr0, hr1]) rfl ⟨⟨_, _, nk4, fk4, rfl, ((HT4.out.far (p := ⟨w.heap.size + 1, 0, none⟩) HS3.out _).far (p := ⟨w.heap.size + 1, 1, none⟩) HS3.out _).lower HBW.out⟩, bset (bset HBE.out (by show w.heap.size ≤ w.heap.size + 1; omega) _) (by show w.heap.size ≤ w.heap.size + 1; omega) _⟩
theorem tadd_ok (v : Value) (ns : Nodes) (mk mu : Option Nat) (nk : Nat) (fk : Int → Option Value) (id p : Int) (w : World) (hid : 0 ≤ id ∧ id ≤ 4294967295) (hp : 0 ≤ p ∧ p ≤ 4294967295) (h : TreeIs w v ns mk mu nk fk)
    (hck : idC id = 0) (h1 : hasN ns id = false) (h2 : hasN ns p = true) (d2 : decide ((64 : Int) ≤ (ns.length : Int) + 1) = false) :
    Calls Tryz.prog 80 #[v, .int .u32 id, .int .u32 p] w fun e w' => (∃ v' mk' mu' nk' fk', e = .returned (.tuple #[v', .int .i64 0]) ∧ TreeIs w' v' (ns ++ [(id, p)]) mk' mu' nk' fk') ∧ Below w.heap.size w w' := by
  refine (tadd_own v ns mk mu nk fk id p w hid hp h hck h1 h2 d2).mono ?_
  rintro e w' ⟨⟨kb, ub, nk', fk', rfl, ht⟩, hb⟩
  exact ⟨⟨_, _, _, nk', fk', rfl, ht.tree⟩, hb⟩


end Go.Proofs.YtdaedkolpfkdjaaGreat
end

section
namespace Go.Proofs.YtdaedkolpfkdjaaGreat

/-- of numbers that rise, each once: they rise strictly, and are the same. -/
theorem compact_rises {zs : List Int} (h : zs.Pairwise (· ≤ ·)) : (Lib.compact zs).Pairwise (· < ·) ∧ ∀ y, y ∈ Lib.compact zs ↔ y ∈ zs := by
  have hg : ∀ i j (_ : i < zs.length) (_ : j < zs.length), i ≤ j → zs[i] ≤ zs[j] := fun i j hi hj hij => by
    rcases Nat.lt_or_ge i j with h1 | h1
    · exact List.pairwise_iff_getElem.1 h i j hi hj h1
    · obtain rfl : i = j := by omega
      exact Int.le_refl _
  unfold Lib.compact Lib.compactUpTo
  constructor
  · rw [List.pairwise_map]
    have hr : ((List.range zs.length).filter (Lib.keeps zs.toArray)).Pairwise (· < ·) := List.Pairwise.filter _ List.pairwise_lt_range
    refine List.Pairwise.imp_of_mem (fun {i j} hi hj hij => ?_) hr
    simp only [List.mem_filter, List.mem_range] at hi hj
    have hk := hj.2
    simp only [Lib.keeps, decide_eq_true_eq] at hk
    have e1 : zs.toArray[i]! = zs[i] := by rw [getElem!_pos _ i (by simpa using hi.1)]; simp
    have e2 : zs.toArray[j]! = zs[j] := by rw [getElem!_pos _ j (by simpa using hj.1)]; simp
    have e3 : zs.toArray[j - 1]! = zs[j - 1]'(by omega) := by rw [getElem!_pos _ (j - 1) (by simp; omega)]; simp
    rw [e1, e2]
    rw [e2, e3] at hk
    have h1 := hg i (j - 1) hi.1 (by omega) (by omega)
    have h2 := hg (j - 1) j (by omega) hj.1 (by omega)
    rcases hk with hk | hk
    · omega
    · have : zs[j] ≠ zs[j - 1]'(by omega) := hk
      omega
  · intro y
    simp only [List.mem_map, List.mem_filter, List.mem_range]
    constructor
    · rintro ⟨i, ⟨hi, _⟩, rfl⟩
      rw [getElem!_pos _ i (by simpa using hi)]
      simp
    · intro hy
      obtain ⟨i, hi, rfl⟩ := List.getElem_of_mem hy
      have key : ∀ k, ∀ hk : k < zs.length, ∃ q, (q < zs.length ∧ Lib.keeps zs.toArray q = true) ∧ zs.toArray[q]! = zs[k] := by
        intro k
        induction k with
        | zero =>
          intro hk
          exact ⟨0, ⟨hk, by simp [Lib.keeps]⟩, by rw [getElem!_pos _ 0 (by simpa using hk)]; simp⟩
        | succ k ih =>
          intro hk
          by_cases hne : zs[k + 1] = zs[k]
          · obtain ⟨q, h1, h2⟩ := ih (by omega)
            exact ⟨q, h1, h2.trans hne.symm⟩
          · refine ⟨k + 1, ⟨hk, ?_⟩, by rw [getElem!_pos _ (k + 1) (by simpa using hk)]; simp⟩
            simp only [Lib.keeps, decide_eq_true_eq]
            right
            rw [getElem!_pos _ (k + 1) (by simpa using hk), getElem!_pos _ (k + 1 - 1) (by simp; omega)]
            simpa using hne
      exact key i hi

end Go.Proofs.YtdaedkolpfkdjaaGreat
end

section
namespace Go.Proofs.YtdaedkolpfkdjaaGreat
open Go.RowKit

/-- the cells of rectangles. -/
def rcs (l : List RC) : List Value := l.flatMap RC.cells
theorem rcs_len (l : List RC) : (rcs l).length = l.length * 4 := by
  induction l with
  | nil => rfl
  | cons r l ih => simp [rcs, RC.cells] at ih ⊢; omega
theorem rcs_append (a b : List RC) : rcs (a ++ b) = rcs a ++ rcs b := by simp [rcs]
theorem rcs_at (l : List RC) (rest : List Value) (k : Nat) (r : RC) (h : l[k]? = some r) :
    (rcs l ++ rest)[k * 4]? = some (.int .i64 r.X) ∧ (rcs l ++ rest)[k * 4 + 1]? = some (.int .i64 r.Y) ∧ (rcs l ++ rest)[k * 4 + 1 + 1]? = some (.int .i64 r.W) ∧ (rcs l ++ rest)[k * 4 + 1 + 1 + 1]? = some (.int .i64 r.H) := by
  induction l generalizing k with
  | nil => simp at h
  | cons q l ih =>
    cases k with
    | zero => simp at h; subst h; simp [rcs, RC.cells]
    | succ k =>
      simp at h
      have := ih k h
      rw [show (k + 1) * 4 = k * 4 + 4 from by omega, show k * 4 + 4 + 1 = (k * 4 + 1) + 4 from by omega, show k * 4 + 1 + 4 + 1 = (k * 4 + 1 + 1) + 4 from by omega, show k * 4 + 1 + 1 + 4 + 1 = (k * 4 + 1 + 1 + 1) + 4 from by omega]
      simpa [rcs, RC.cells] using this
theorem rcs_set (l : List RC) (rest : List Value) (k : Nat) (r : RC) (h : k < l.length) :
    ((((rcs l ++ rest).set (k * 4) (.int .i64 r.X)).set (k * 4 + 1) (.int .i64 r.Y)).set (k * 4 + 1 + 1) (.int .i64 r.W)).set (k * 4 + 1 + 1 + 1) (.int .i64 r.H) = rcs (l.set k r) ++ rest := by
  induction l generalizing k with
  | nil => simp at h
  | cons q l ih =>
    cases k with
    | zero => simp [rcs, RC.cells]
    | succ k =>
      have := ih k (by simpa using h)
      rw [show (k + 1) * 4 = k * 4 + 4 from by omega, show k * 4 + 4 + 1 = (k * 4 + 1) + 4 from by omega, show k * 4 + 1 + 4 + 1 = (k * 4 + 1 + 1) + 4 from by omega, show k * 4 + 1 + 1 + 4 + 1 = (k * 4 + 1 + 1 + 1) + 4 from by omega]
      simpa [rcs, RC.cells] using this
theorem blk_at {w : World} {g : Nat} {t : TypeId} {l : List RC} {rest : List Value} (h : Blk w g t (rcs l ++ rest).toArray) {k : Nat} {r : RC} (hk : l[k]? = some r) : RcAt w g (k * 4) r := by
  obtain ⟨a, b, c, d⟩ := rcs_at l rest k r hk
  exact ⟨h.cellV (by simpa using a), h.cellV (by simpa using b), h.cellV (by simpa using c), h.cellV (by simpa using d)⟩
theorem blk_set {w : World} {g : Nat} {t : TypeId} {l : List RC} {rest : List Value} (h : Blk w g t (rcs l ++ rest).toArray) {k : Nat} {r : RC} (hk : k < l.length) :
    Blk ((((w.setCell ⟨g, k * 4, none⟩ (.int .i64 r.X)).setCell ⟨g, k * 4 + 1, none⟩ (.int .i64 r.Y)).setCell ⟨g, k * 4 + 1 + 1, none⟩ (.int .i64 r.W)).setCell ⟨g, k * 4 + 1 + 1 + 1, none⟩ (.int .i64 r.H)) g t (rcs (l.set k r) ++ rest).toArray := by
  have := (((h.set_ (k * 4) (.int .i64 r.X)).set_ (k * 4 + 1) (.int .i64 r.Y)).set_ (k * 4 + 1 + 1) (.int .i64 r.W)).set_ (k * 4 + 1 + 1 + 1) (.int .i64 r.H)
  simp only [List.setIfInBounds_toArray] at this
  rw [rcs_set l rest k r hk] at this
  exact this

def endsB (y : Int) (r : RC) : Bool := decide (r.Y + r.H ≤ y)
set_option maxHeartbeats 1000000 in
theorem of2_any (x : RC) (y : Int) (by' : Nat) (w : World) (hx : x.ok) (hy : w.cell? ⟨by', 0, none⟩ = some (.int .i64 y)) :
    Calls Tryz.prog 131 #[.agg #[.int .i64 x.X, .int .i64 x.Y, .int .i64 x.W, .int .i64 x.H], .pointer (some ⟨by', 0, none⟩)] w fun e w' => e = .returned (.bool (endsB y x)) ∧ w' = w.alloc (.cells #[.int .i64 x.X, .int .i64 x.Y, .int .i64 x.W, .int .i64 x.H] 103) := by
  obtain ⟨_, _, h3, h4, _, _, h7, h8⟩ := hx
  have hl := block_lt_of_cell hy
  go_enter Tryz.func131, Tryz.ntmps131
  go_wp2_with fail
  go_ret
  exact ⟨rfl, rfl⟩

/-- the first that a predicate tells; -1: there is none. -/
def idxI (p : RC → Bool) (l : List RC) : Int := match l.findIdx? p with
  | some i => (i : Int)
  | none => -1
theorem idxI_none {p : RC → Bool} {l : List RC} (h : ∀ (j : Nat) x, l[j]? = some x → p x = false) : idxI p l = -1 := by
  have : l.findIdx? p = none := by
    rw [List.findIdx?_eq_none_iff]
    intro x hx
    obtain ⟨j, hj⟩ := List.getElem?_of_mem hx
    exact h j x hj
  simp [idxI, this]
theorem idxI_some {p : RC → Bool} {l : List RC} {k : Nat} {x : RC} (hx : l[k]? = some x) (hp : p x = true) (h : ∀ (j : Nat) y, j < k → l[j]? = some y → p y = false) : idxI p l = k := by
  obtain ⟨hkl, hkv⟩ := List.getElem?_eq_some_iff.1 hx
  have : l.findIdx? p = some k := by
    rw [List.findIdx?_eq_some_iff_getElem]
    refine ⟨hkl, by rw [hkv]; exact hp, fun j hj => ?_⟩
    have hjl : j < l.length := by omega
    have := h j l[j] hj (List.getElem?_eq_getElem hjl)
    simp [this]
  simp [idxI, this]

set_option maxRecDepth 100000 in
set_option maxHeartbeats 2000000 in
theorem indexF_any (A : Option Addr) (n c : Nat) (rs : List RC) (y : Int) (by' : Nat) (w : World) (hn : n ≤ 9223372036854775806) (hr : RdR w A n rs) (hok : ∀ r ∈ rs, r.ok) (hy : w.cell? ⟨by', 0, none⟩ = some (.int .i64 y)) :
    Calls Tryz.prog 175 #[.slice A n c, .func (.func 131) #[] #[.pointer (some ⟨by', 0, none⟩)]] w fun e w' => e = .returned (.int .i64 (idxI (endsB y) rs)) ∧ Below w.heap.size w w' := by
  have HR := Lib.hid hr
  have HOK := Lib.hid hok
  have HYC := Lib.hid hy
  clear hr hok hy
  go_enter Tryz.func175, Tryz.ntmps175
  go_wp2_with fail
  go_loopw [8] (fun i wr => ∃ k : Nat, i = .int .i64 k ∧ k ≤ n ∧ (∀ (j : Nat) x, j < k → rs[j]? = some x → endsB y x = false) ∧ Below w.heap.size w wr) (fun i _ => n - (intOf i).toNat)
  case atStart => exact ⟨0, rfl, by omega, fun j _ hj => absurd hj (by omega), bre w⟩
  case round =>
    obtain ⟨k, rfl, hk, hall, hB⟩ := hrel
    have HA := Lib.hid hall
    have HB := Lib.hid hB
    clear hall hB
    by_cases hlt : k < n
    · obtain ⟨x, hx⟩ : ∃ x, rs[k]? = some x := ⟨_, List.getElem?_eq_getElem (by have := HR.out.1; omega)⟩
      obtain ⟨b, off, rfl, hbl, hc⟩ := (HR.out.below HB.out).2 (by omega)
      obtain ⟨x0, x1, x2, x3⟩ := hc k x hx
      have k0 : (0 : Int) ≤ (k : Int) := by omega
      have k1 : (k : Int) < (n : Int) := by omega
      have hcy : Hid (wr.cell? ⟨by', 0, none⟩ = some (.int .i64 y)) := Lib.hid ((HB.out.cell (p := ⟨by', 0, none⟩) (block_lt_of_cell HYC.out)).trans HYC.out)
      have HX := Lib.hid hx
      clear hc hx
      cases hon : endsB y x
      · have HON := Lib.hid hon
        clear hon
        go_wp2_with fail
        refine (of2_any x y by' _ (HOK.out x (List.mem_of_getElem? HX.out)) hcy.out).mono ?_
        rintro e w' ⟨rfl, rfl⟩
        rw [HON.out]
        go_wp2_with fail
        go_roundw
        case rel =>
          refine ⟨k + 1, by go_num, by omega, fun j u hj hu => ?_, bstep HB.out (bal (bre wr) _)⟩
          by_cases hjk : j = k
          · subst hjk
            cases HX.out.symm.trans hu
            exact HON.out
          · exact HA.out j u (by omega) hu
        case measure => simp [intOf]; omega
      · have hv : idxI (endsB y) rs = k := idxI_some HX.out hon HA.out
        have HV := Lib.hid hv
        have HON := Lib.hid hon
        clear hv hon
        go_wp2_with fail
        refine (of2_any x y by' _ (HOK.out x (List.mem_of_getElem? HX.out)) hcy.out).mono ?_
        rintro e w' ⟨rfl, rfl⟩
        rw [HON.out]
        go_wp2_with fail
        go_ret
        exact ⟨ret_int HV.out.symm, bstep HB.out (bal (bre wr) _)⟩
    · obtain rfl : k = n := by omega
      have hv : idxI (endsB y) rs = -1 := idxI_none (fun j u hu => HA.out j u (by have := (List.getElem?_eq_some_iff.1 hu).1; have := HR.out.1; omega) hu)
      have HV := Lib.hid hv
      clear hv
      go_wp2_with fail
      go_ret
      exact ⟨ret_int HV.out.symm, HB.out⟩

end Go.Proofs.YtdaedkolpfkdjaaGreat
end
