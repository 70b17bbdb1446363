/-
  The walks of tree.New and Add.
-/
import Derived.Test.YtbfefkhejknmoaaGreatDoorCh12
namespace Go.Proofs.YtbfefkhejknmoaaGreatDoor
open Go.RowKit Go.Maps Go.Shelf

set_option maxRecDepth 100000 in
theorem tnew_any (w : World) : Calls Tryz.prog 28 #[] w fun e w' => e = .returned (.agg #[.map none, .map none]) ∧ Below w.heap.size w w' := by
  go_enter Tryz.func28, Tryz.ntmps28
  go_wp2_with fail
  exact bodyPost_ret (v := .agg #[.map none, .map none]) (by simp [results, Tryz.results28, go_sem]) rfl ⟨rfl, (by repeat (first | exact bre _ | refine bal ?_ _ | refine bset ?_ (by simp) _ | refine bset ?_ (by simp; omega) _))⟩
theorem tree_new (w : World) : TreeIs w (.agg #[.map none, .map none]) [] none none 0 (fun _ => none) :=
  ⟨rfl, .inl ⟨rfl, rfl, fun _ => rfl⟩, .inl ⟨rfl, rfl, fun _ => rfl⟩, fun _ => ⟨none, 0, rfl, Nat.le_refl _, Rd.nil _ _⟩, Nat.zero_le _, Nat.zero_le _, fun p hp => by cases hp⟩

/-- what Add answers. -/
def addC (ns : Nodes) (id p : Int) : Int := if idC id ≠ 0 then idC id else if hasN ns id then 7 else if hasN ns p = false then 6 else if 64 ≤ ns.length + 1 then 5 else 0
/-- the windows behind it. -/
def addN (ns : Nodes) (id p : Int) : Nodes := if addC ns id p = 0 then ns ++ [(id, p)] else ns

set_option maxRecDepth 100000 in
set_option maxHeartbeats 4000000 in
theorem tadd_err (v : Value) (ns : Nodes) (mk mu : Option Nat) (nk : Nat) (fk : Int → Option Value) (id p code : Int) (w : World) (hid : 0 ≤ id ∧ id ≤ 4294967295) (hp : 0 ≤ p ∧ p ≤ 4294967295) (h : TreeIs w v ns mk mu nk fk)
    (hc : (idC id = code ∧ (code != 0) = true) ∨ (idC id = 0 ∧ ((hasN ns id = true ∧ code = 7) ∨ (hasN ns id = false ∧ ((hasN ns p = false ∧ code = 6) ∨ (hasN ns p = true ∧ decide ((64 : Int) ≤ (ns.length : Int) + 1) = true ∧ code = 5)))))) :
    Calls Tryz.prog 29 #[v, .int .u32 id, .int .u32 p] w fun e w' => e = .returned (.tuple #[v, .int .i64 code]) ∧ Below w.heap.size w w' := by
  have hv := h.shape
  subst hv
  have HT := Lib.hid h
  have HBE := Lib.hid (bal (bal (bre w) (.cells #[.map mk, .map mu] 35)) (.cells #[.map none, .map none] 35))
  have H0 := Lib.hid ((Blk.new w 35 #[.map mk, .map mu]).alloc (.cells #[.map none, .map none] 35))
  have H1 := Lib.hid (blk_new2 w (.cells #[.map mk, .map mu] 35) 35 #[.map none, .map none])
  have wl : IntKind.i64.wrap ((ns.length : Int) + 1) = (ns.length : Int) + 1 := IntWalk.i64_in _ (by have := h.few; omega)
  clear h
  rcases hc with ⟨hck, d1⟩ | ⟨hck, ⟨h1, rfl⟩ | ⟨h1, ⟨h2, rfl⟩ | ⟨h2, d2, rfl⟩⟩⟩
  · have HCK := Lib.hid hck
    clear hck
    go_enter Tryz.func29, Tryz.ntmps29
    go_wp2_with (go_at_call 35; refine (check_any _ _ hid).mono ?_; rintro e w' ⟨rfl, rfl⟩; rw [HCK.out])
    exact bodyPost_ret (v := .tuple #[.agg #[.map mk, .map mu], .int .i64 code]) (by simp [results, Tryz.results29, go_sem]) rfl ⟨rfl, (by repeat (first | exact HBE.out | exact bre _ | refine bal ?_ _ | refine bset ?_ (by simp) _ | refine bset ?_ (by simp; omega) _))⟩
  · have HCK := Lib.hid hck
    have HH1 := Lib.hid h1
    skip
    clear hck h1
    go_enter Tryz.func29, Tryz.ntmps29
    go_wp2_with (go_at_call 35; refine (check_any _ _ hid).mono ?_; rintro e w' ⟨rfl, rfl⟩; rw [HCK.out])
    with_reducible refine (has_any _ ns mk mu nk fk _ _ hid (HT.out.below HBE.out)).mono ?_
    rintro e w1 ⟨rfl, hb9⟩
    rw [HH1.out]
    have b0 := H0.out.belowS hb9
    have b1 := H1.out.belowS hb9
    have hb := bstep HBE.out hb9
    have p0 := b0.cellV (i := 0) (v := .map mk) rfl; have p1 := b0.cellV (i := 1) (v := .map mu) rfl; have r0 := b1.cellV (i := 0) (v := .map none) rfl; have r1 := b1.cellV (i := 1) (v := .map none) rfl; have rf0 := b1.frozen 0; have rf1 := b1.frozen 1; have rl := b1.lt; have HBE := Lib.hid hb; have H0 := Lib.hid b0; have H1 := Lib.hid b1
    clear b0 b1 hb hb9
    go_wp2_with fail
    have hr0 := ((H1.out.set_ 0 (.map mk)).set_ 1 (.map mu)).cellV (i := 0) (v := .map mk) rfl
    have hr1 := ((H1.out.set_ 0 (.map mk)).set_ 1 (.map mu)).cellV (i := 1) (v := .map mu) rfl
    exact bodyPost_ret (v := .tuple #[.agg #[.map mk, .map mu], .int .i64 7]) (by simp [results, Tryz.results29, go_sem, hr0, hr1]) rfl ⟨rfl, bset (bset HBE.out (by show w.heap.size ≤ w.heap.size + 1; omega) _) (by show w.heap.size ≤ w.heap.size + 1; omega) _⟩
  · have HCK := Lib.hid hck
    have HH1 := Lib.hid h1
    have HH2 := Lib.hid h2
    clear hck h1
    go_enter Tryz.func29, Tryz.ntmps29
    go_wp2_with (go_at_call 35; refine (check_any _ _ hid).mono ?_; rintro e w' ⟨rfl, rfl⟩; rw [HCK.out])
    with_reducible refine (has_any _ ns mk mu nk fk _ _ hid (HT.out.below HBE.out)).mono ?_
    rintro e w1 ⟨rfl, hb9⟩
    rw [HH1.out]
    have b0 := H0.out.belowS hb9
    have b1 := H1.out.belowS hb9
    have hb := bstep HBE.out hb9
    have p0 := b0.cellV (i := 0) (v := .map mk) rfl; have p1 := b0.cellV (i := 1) (v := .map mu) rfl; have r0 := b1.cellV (i := 0) (v := .map none) rfl; have r1 := b1.cellV (i := 1) (v := .map none) rfl; have rf0 := b1.frozen 0; have rf1 := b1.frozen 1; have rl := b1.lt; have HBE := Lib.hid hb; have H0 := Lib.hid b0; have H1 := Lib.hid b1
    clear b0 b1 hb hb9
    go_wp2_with fail
    with_reducible refine (has_any _ ns mk mu nk fk _ _ hp (HT.out.below HBE.out)).mono ?_
    rintro e w2 ⟨rfl, hb9⟩
    rw [HH2.out]
    have b0 := H0.out.belowS hb9
    have b1 := H1.out.belowS hb9
    have hb := bstep HBE.out hb9
    have p0 := b0.cellV (i := 0) (v := .map mk) rfl; have p1 := b0.cellV (i := 1) (v := .map mu) rfl; have r0 := b1.cellV (i := 0) (v := .map none) rfl; have r1 := b1.cellV (i := 1) (v := .map none) rfl; have rf0 := b1.frozen 0; have rf1 := b1.frozen 1; have rl := b1.lt; have HBE := Lib.hid hb; have H0 := Lib.hid b0; have H1 := Lib.hid b1
    clear b0 b1 hb hb9
    go_wp2_with fail
    have hr0 := ((H1.out.set_ 0 (.map mk)).set_ 1 (.map mu)).cellV (i := 0) (v := .map mk) rfl
    have hr1 := ((H1.out.set_ 0 (.map mk)).set_ 1 (.map mu)).cellV (i := 1) (v := .map mu) rfl
    exact bodyPost_ret (v := .tuple #[.agg #[.map mk, .map mu], .int .i64 6]) (by simp [results, Tryz.results29, go_sem, hr0, hr1]) rfl ⟨rfl, bset (bset HBE.out (by show w.heap.size ≤ w.heap.size + 1; omega) _) (by show w.heap.size ≤ w.heap.size + 1; omega) _⟩
  · have HCK := Lib.hid hck
    have HH1 := Lib.hid h1
    have HH2 := Lib.hid h2
    clear hck h1
    go_enter Tryz.func29, Tryz.ntmps29
    go_wp2_with (go_at_call 35; refine (check_any _ _ hid).mono ?_; rintro e w' ⟨rfl, rfl⟩; rw [HCK.out])
    with_reducible refine (has_any _ ns mk mu nk fk _ _ hid (HT.out.below HBE.out)).mono ?_
    rintro e w1 ⟨rfl, hb9⟩
    rw [HH1.out]
    have b0 := H0.out.belowS hb9
    have b1 := H1.out.belowS hb9
    have hb := bstep HBE.out hb9
    have p0 := b0.cellV (i := 0) (v := .map mk) rfl; have p1 := b0.cellV (i := 1) (v := .map mu) rfl; have r0 := b1.cellV (i := 0) (v := .map none) rfl; have r1 := b1.cellV (i := 1) (v := .map none) rfl; have rf0 := b1.frozen 0; have rf1 := b1.frozen 1; have rl := b1.lt; have HBE := Lib.hid hb; have H0 := Lib.hid b0; have H1 := Lib.hid b1
    clear b0 b1 hb hb9
    go_wp2_with fail
    with_reducible refine (has_any _ ns mk mu nk fk _ _ hp (HT.out.below HBE.out)).mono ?_
    rintro e w2 ⟨rfl, hb9⟩
    rw [HH2.out]
    have b0 := H0.out.belowS hb9
    have b1 := H1.out.belowS hb9
    have hb := bstep HBE.out hb9
    have p0 := b0.cellV (i := 0) (v := .map mk) rfl; have p1 := b0.cellV (i := 1) (v := .map mu) rfl; have r0 := b1.cellV (i := 0) (v := .map none) rfl; have r1 := b1.cellV (i := 1) (v := .map none) rfl; have rf0 := b1.frozen 0; have rf1 := b1.frozen 1; have rl := b1.lt; have HBE := Lib.hid hb; have H0 := Lib.hid b0; have H1 := Lib.hid b1
    clear b0 b1 hb hb9
    go_wp2_with (at_len; refine opt_len rfl _ 33 rfl 27 27 .u32 Tryz.underlying33 mu ns.length (fun i => (upOf ns i).map (Value.int .u32)) rfl (HT.out.up.below HBE.out) ?_)
    have hr0 := ((H1.out.set_ 0 (.map mk)).set_ 1 (.map mu)).cellV (i := 0) (v := .map mk) rfl
    have hr1 := ((H1.out.set_ 0 (.map mk)).set_ 1 (.map mu)).cellV (i := 1) (v := .map mu) rfl
    exact bodyPost_ret (v := .tuple #[.agg #[.map mk, .map mu], .int .i64 5]) (by simp [results, Tryz.results29, go_sem, hr0, hr1]) rfl ⟨rfl, bset (bset HBE.out (by show w.heap.size ≤ w.heap.size + 1; omega) _) (by show w.heap.size ≤ w.heap.size + 1; omega) _⟩

set_option maxRecDepth 100000 in
set_option maxHeartbeats 4000000 in
theorem tadd_ok (v : Value) (ns : Nodes) (mk mu : Option Nat) (nk : Nat) (fk : Int → Option Value) (id p : Int) (w : World) (hid : 0 ≤ id ∧ id ≤ 4294967295) (hp : 0 ≤ p ∧ p ≤ 4294967295) (h : TreeIs w v ns mk mu nk fk)
    (hck : idC id = 0) (h1 : hasN ns id = false) (h2 : hasN ns p = true) (d2 : decide ((64 : Int) ≤ (ns.length : Int) + 1) = false) :
    Calls Tryz.prog 29 #[v, .int .u32 id, .int .u32 p] w fun e w' => (∃ v' mk' mu' nk' fk', e = .returned (.tuple #[v', .int .i64 0]) ∧ TreeIs w' v' (ns ++ [(id, p)]) mk' mu' nk' fk') ∧ Below w.heap.size w w' := by
  have hv := h.shape
  subst hv
  have HT := Lib.hid h
  have HBE := Lib.hid (bal (bal (bre w) (.cells #[.map mk, .map mu] 35)) (.cells #[.map none, .map none] 35))
  have H0 := Lib.hid ((Blk.new w 35 #[.map mk, .map mu]).alloc (.cells #[.map none, .map none] 35))
  have H1 := Lib.hid (blk_new2 w (.cells #[.map mk, .map mu] 35) 35 #[.map none, .map none])
  have wl : IntKind.i64.wrap ((ns.length : Int) + 1) = (ns.length : Int) + 1 := IntWalk.i64_in _ (by have := h.few; omega)
  have HN1 := Lib.hid (show ns.length + 1 ≤ 1000 by have := of_decide_eq_false d2; omega)
  have HUN := Lib.hid (show upOf ns id = none by
    unfold hasN at h1
    cases hq : upOf ns id with
    | none => rfl
    | some x => rw [hq] at h1; simp at h1)
  have HCK := Lib.hid hck
  have HH1 := Lib.hid h1
  have HH2 := Lib.hid h2
  clear h hck h1 h2
  go_enter Tryz.func29, Tryz.ntmps29
  go_wp2_with (go_at_call 35; refine (check_any _ _ hid).mono ?_; rintro e w' ⟨rfl, rfl⟩; rw [HCK.out])
  with_reducible refine (has_any _ ns mk mu nk fk _ _ hid (HT.out.below HBE.out)).mono ?_
  rintro e w1 ⟨rfl, hb9⟩
  rw [HH1.out]
  have b0 := H0.out.belowS hb9
  have b1 := H1.out.belowS hb9
  have hb := bstep HBE.out hb9
  have p0 := b0.cellV (i := 0) (v := .map mk) rfl; have p1 := b0.cellV (i := 1) (v := .map mu) rfl; have r0 := b1.cellV (i := 0) (v := .map none) rfl; have r1 := b1.cellV (i := 1) (v := .map none) rfl; have rf0 := b1.frozen 0; have rf1 := b1.frozen 1; have rl := b1.lt; have HBE := Lib.hid hb; have H0 := Lib.hid b0; have H1 := Lib.hid b1
  clear b0 b1 hb hb9
  go_wp2_with fail
  with_reducible refine (has_any _ ns mk mu nk fk _ _ hp (HT.out.below HBE.out)).mono ?_
  rintro e w2 ⟨rfl, hb9⟩
  rw [HH2.out]
  have b0 := H0.out.belowS hb9
  have b1 := H1.out.belowS hb9
  have hb := bstep HBE.out hb9
  have p0 := b0.cellV (i := 0) (v := .map mk) rfl; have p1 := b0.cellV (i := 1) (v := .map mu) rfl; have r0 := b1.cellV (i := 0) (v := .map none) rfl; have r1 := b1.cellV (i := 1) (v := .map none) rfl; have rf0 := b1.frozen 0; have rf1 := b1.frozen 1; have rl := b1.lt; have HBE := Lib.hid hb; have H0 := Lib.hid b0; have H1 := Lib.hid b1
  clear b0 b1 hb hb9
  go_wp2_with (at_len; refine opt_len rfl _ 33 rfl 27 27 .u32 Tryz.underlying33 mu ns.length (fun i => (upOf ns i).map (Value.int .u32)) rfl (HT.out.up.below HBE.out) ?_)
  with_reducible refine (twin_any _ ns mk mu nk fk _ (HT.out.below HBE.out)).mono ?_
  rintro e w3 ⟨kb, ub, nk', fo, rfl, ht3, hb3⟩
  have hs3 := H1.out.lt
  have hw3 := hb3.size
  have HW3 := Lib.hid hw3
  have HBW := Lib.hid HBE.out.size
  have HS3 := Lib.hid hs3
  have b1 := H1.out.belowS hb3
  have HBE := Lib.hid (bstep HBE.out hb3)
  have H1 := Lib.hid b1
  have HT3 := Lib.hid ht3
  clear b1 hb3 ht3 hs3 hw3
  go_wp2_with fail
  with_reducible refine (put_any _ ns kb ub nk' fo id p _ hid hp (HT3.out.alloc (.cells #[.map (some kb), .map (some ub)] 35)) HN1.out HUN.out (by have := HW3.out; rw [World.size_alloc]; omega)).mono ?_
  rintro e w4 ⟨rfl, ⟨nk4, fk4, ht4⟩, hb4, hbl4⟩
  have b9 := hbl4 _ _ (Blk.new w3 35 #[.map (some kb), .map (some ub)])
  have b1 := hbl4 _ _ (H1.out.alloc (.cells #[.map (some kb), .map (some ub)] 35))
  have s0 := b9.cellV (i := 0) (v := .map (some kb)) rfl
  have s1 := b9.cellV (i := 1) (v := .map (some ub)) rfl
  have r0 := b1.cellV (i := 0) (v := .map none) rfl
  have r1 := b1.cellV (i := 1) (v := .map none) rfl
  have rf0 := b1.frozen 0
  have rf1 := b1.frozen 1
  have rl := b1.lt
  have HBE := Lib.hid ((bal HBE.out (.cells #[.map (some kb), .map (some ub)] 35)).trans (hb4.mono HBW.out))
  have H1 := Lib.hid b1
  have HT4 := Lib.hid ht4
  clear b1 b9 hb4 hbl4 ht4
  go_wp2_with fail
  have hr0 := ((H1.out.set_ 0 (.map (some kb))).set_ 1 (.map (some ub))).cellV (i := 0) (v := .map (some kb)) rfl
  have hr1 := ((H1.out.set_ 0 (.map (some kb))).set_ 1 (.map (some ub))).cellV (i := 1) (v := .map (some ub)) rfl
  refine bodyPost_ret (v := .tuple #[.agg #[.map (some kb), .map (some ub)], .int .i64 0]) (by simp [results, Tryz.results29, go_sem, hr0, hr1]) rfl ⟨⟨_, _, _, nk4, fk4, rfl, ((HT4.out.far (p := ⟨w.heap.size + 1, 0, none⟩) HS3.out _).far (p := ⟨w.heap.size + 1, 1, none⟩) HS3.out _).tree⟩, bset (bset HBE.out (by show w.heap.size ≤ w.heap.size + 1; omega) _) (by show w.heap.size ≤ w.heap.size + 1; omega) _⟩

end Go.Proofs.YtbfefkhejknmoaaGreatDoor
