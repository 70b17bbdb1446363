/-
  The walk of the document's Set.
-/
import Derived.Test.YtbfefkhejknmoaaGreatDoorCh26
namespace Go.Proofs.YtbfefkhejknmoaaGreatDoor
open Go.RowKit Go.Maps Go.Shelf

/-- what the document's Set answers. -/
def setD (l : List DB) (d : DB) : Int :=
  if d.id = 1 then 23 else if idC d.id ≠ 0 then -1 else if (coordB d.b.X && coordB d.b.Y) = false then 1 else if (sideB d.b.W && sideB d.b.H) = false then 17 else if gravC d.b.G = 10 ∨ gravC d.b.B = 10 then 10 else if d.b.S = false ∧ emptyD d.sh = false then 14 else if findD l d.id 0 < 0 ∧ 64 ≤ l.length then 5 else if l.length = 0 then 9 else 0
/-- the list behind it. -/
def setL (l : List DB) (d : DB) : List DB := if setD l d = 0 then (if 0 ≤ findD l d.id 0 then l.set (findD l d.id 0).toNat d else l ++ [d]) else l
theorem setL_keep {l : List DB} {d : DB} {code : Int} (h : setD l d = code) (h0 : code ≠ 0) : setL l d = l := by
  unfold setL
  rw [h, if_neg h0]
theorem gravC_in {g : Int} (h : gravC g = 0) : decide (g < 0) = false ∧ decide (10 < g) = false := by
  unfold gravC at h
  split at h
  · exact ⟨decide_eq_false (by omega), decide_eq_false (by omega)⟩
  · cases h
theorem gravC_out {g : Int} (h : gravC g = 10) : decide (g < 0) = true ∨ (decide (g < 0) = false ∧ decide (10 < g) = true) := by
  unfold gravC at h
  split at h
  · cases h
  · by_cases h1 : g < 0
    · exact .inl (decide_eq_true h1)
    · exact .inr ⟨decide_eq_false h1, decide_eq_true (by omega)⟩
theorem Tryz.infoDb : (Tryz.prog.info? 79).map (fun i => (i.zero, i.size, i.bytes)) = some (some (.agg #[.int .u32 0, .int .i64 0, .int .i64 0, .int .i64 0, .int .i64 0, .bool false, .int .i64 0, .int .i64 0, .bool false, .slice none 0 0]), 10, 96) := by kernel_rfl
theorem ten_new (w : World) (l : List Value) (t : TypeId) : ∀ j u, l[j]? = some u → (w.alloc (.cells l.toArray t)).cell? ((⟨w.heap.size, 0, none⟩ : Addr).add j) = some u := by
  intro j u hu
  have hb := Blk.new w t l.toArray
  unfold Addr.add
  split
  · rename_i e; subst e; exact hb.cellV (i := 0) (by simpa using hu)
  · have := hb.cellV (i := j) (v := u) (by simpa using hu)
    simpa using this

theorem dset_err {w w' : World} {A : Option Addr} {n c : Nat} {l : List DB} {d : DB} {code : Int} (h : setD l d = code) (h0 : code ≠ 0) (hr : RdD w' A n l) (hb : Below w.heap.size w w') :
    ∃ A' n' c', Ending.returned (.tuple #[.slice A n c, .int .i64 code]) = .returned (.tuple #[.slice A' n' c', .int .i64 (setD l d)]) ∧ RdD w' A' n' (setL l d) ∧ Below w.heap.size w w' :=
  ⟨A, n, c, by rw [h], by rw [setL_keep h h0]; exact hr, hb⟩

set_option maxRecDepth 100000 in
set_option maxHeartbeats 4000000 in
theorem dset_bad (A : Option Addr) (n c : Nat) (l : List DB) (id X Y W H : Int) (M : Bool) (G B : Int) (S : Bool) (As : Option Addr) (ns cs : Nat) (sh : List RC) (w : World) (hid : 0 ≤ id ∧ id ≤ 4294967295) (hr : RdD w A n l) (hs : RdR w As ns sh) (hsn : ns ≤ 1000000)
    (hc : id = 1 ∨ (id ≠ 1 ∧ (idC id ≠ 0 ∨ (idC id = 0 ∧ (coordB X = false ∨ (coordB X = true ∧ (coordB Y = false ∨ (coordB Y = true ∧ (sideB W = false ∨ (sideB W = true ∧ (sideB H = false ∨ (sideB H = true ∧ (gravC G = 10 ∨ (gravC G = 0 ∧ (gravC B = 10 ∨ (gravC B = 0 ∧ S = false ∧ emptyD sh = false)))))))))))))))) :
    Calls Tryz.prog 34 #[.slice A n c, .agg #[.int .u32 id, .int .i64 X, .int .i64 Y, .int .i64 W, .int .i64 H, .bool M, .int .i64 G, .int .i64 B, .bool S, .slice As ns cs]] w fun e w' => ∃ A' n' c', e = .returned (.tuple #[.slice A' n' c', .int .i64 (setD l ⟨id, ⟨X, Y, W, H, M, G, B, S, As, ns, cs⟩, sh⟩)]) ∧ RdD w' A' n' (setL l ⟨id, ⟨X, Y, W, H, M, G, B, S, As, ns, cs⟩, sh⟩) ∧ Below w.heap.size w w' := by
  have HR := Lib.hid (hr.below (bal (bre w) (.cells #[.int .u32 id, .int .i64 X, .int .i64 Y, .int .i64 W, .int .i64 H, .bool M, .int .i64 G, .int .i64 B, .bool S, .slice As ns cs] 79)))
  have HS := Lib.hid (hs.below (bal (bre w) (.cells #[.int .u32 id, .int .i64 X, .int .i64 Y, .int .i64 W, .int .i64 H, .bool M, .int .i64 G, .int .i64 B, .bool S, .slice As ns cs] 79)))
  have HB := Lib.hid (bal (bre w) (.cells #[.int .u32 id, .int .i64 X, .int .i64 Y, .int .i64 W, .int .i64 H, .bool M, .int .i64 G, .int .i64 B, .bool S, .slice As ns cs] 79))
  clear hr hs
  rcases hc with h1 | ⟨h1, h2 | ⟨h2, hx | ⟨hx, hy | ⟨hy, hw | ⟨hw, hh | ⟨hh, hg | ⟨hg, hb | ⟨hb, h9, h8⟩⟩⟩⟩⟩⟩⟩⟩
  · have HC := Lib.hid (show setD l ⟨id, ⟨X, Y, W, H, M, G, B, S, As, ns, cs⟩, sh⟩ = 23 by simp [setD, h1])
    subst h1
    go_enter Tryz.func34, Tryz.ntmps34
    go_wp2_with fail
    exact bodyPost_ret (v := .tuple #[.slice A n c, .int .i64 23]) (by simp [results, Tryz.results34, go_sem]) rfl (dset_err HC.out (by decide) HR.out HB.out)
  · have HC := Lib.hid (show setD l ⟨id, ⟨X, Y, W, H, M, G, B, S, As, ns, cs⟩, sh⟩ = (-1) by simp [setD, h1, h2])
    have d1 : (id == 1) = false := by simp [h1]
    have HWR := Lib.hid (show (!(decide (idC id = 0))) = true by rw [decide_eq_false h2]; rfl)
    clear h1 h2
    go_enter Tryz.func34, Tryz.ntmps34
    go_wp2_with (first
      | (go_at_call 56; refine (dwrong_any _ _ hid).mono ?_; rintro e w' ⟨rfl, rfl⟩; rw [HWR.out]))
    exact bodyPost_ret (v := .tuple #[.slice A n c, .int .i64 (-1)]) (by simp [results, Tryz.results34, go_sem]) rfl (dset_err HC.out (by decide) HR.out HB.out)
  · have HC := Lib.hid (show setD l ⟨id, ⟨X, Y, W, H, M, G, B, S, As, ns, cs⟩, sh⟩ = 1 by simp [setD, h1, h2, hx])
    have d1 : (id == 1) = false := by simp [h1]
    have HWR := Lib.hid (show (!(decide (idC id = 0))) = false by rw [decide_eq_true h2]; rfl)
    have HX := Lib.hid hx
    have HY := Lib.hid hx
    clear h1 h2 hx
    go_enter Tryz.func34, Tryz.ntmps34
    go_wp2_with (first
      | (go_at_call 56; refine (dwrong_any _ _ hid).mono ?_; rintro e w' ⟨rfl, rfl⟩; rw [HWR.out])
      | (go_at_call 57; refine (dcoord_any _ _).mono ?_; rintro e w' ⟨rfl, rfl⟩; first | rw [HX.out] | rw [HY.out]))
    exact bodyPost_ret (v := .tuple #[.slice A n c, .int .i64 1]) (by simp [results, Tryz.results34, go_sem]) rfl (dset_err HC.out (by decide) HR.out HB.out)
  · have HC := Lib.hid (show setD l ⟨id, ⟨X, Y, W, H, M, G, B, S, As, ns, cs⟩, sh⟩ = 1 by simp [setD, h1, h2, hx, hy])
    have d1 : (id == 1) = false := by simp [h1]
    have HWR := Lib.hid (show (!(decide (idC id = 0))) = false by rw [decide_eq_true h2]; rfl)
    have HX := Lib.hid hx
    have HY := Lib.hid hy
    clear h1 h2 hx hy
    go_enter Tryz.func34, Tryz.ntmps34
    go_wp2_with (first
      | (go_at_call 56; refine (dwrong_any _ _ hid).mono ?_; rintro e w' ⟨rfl, rfl⟩; rw [HWR.out])
      | (go_at_call 57; refine (dcoord_any _ _).mono ?_; rintro e w' ⟨rfl, rfl⟩; first | rw [HX.out] | rw [HY.out]))
    exact bodyPost_ret (v := .tuple #[.slice A n c, .int .i64 1]) (by simp [results, Tryz.results34, go_sem]) rfl (dset_err HC.out (by decide) HR.out HB.out)
  · have HC := Lib.hid (show setD l ⟨id, ⟨X, Y, W, H, M, G, B, S, As, ns, cs⟩, sh⟩ = 17 by simp [setD, h1, h2, hx, hy, hw])
    have d1 : (id == 1) = false := by simp [h1]
    have HWR := Lib.hid (show (!(decide (idC id = 0))) = false by rw [decide_eq_true h2]; rfl)
    have HX := Lib.hid hx
    have HY := Lib.hid hy
    have HW := Lib.hid hw
    have HH := Lib.hid hw
    clear h1 h2 hx hy hw
    go_enter Tryz.func34, Tryz.ntmps34
    go_wp2_with (first
      | (go_at_call 56; refine (dwrong_any _ _ hid).mono ?_; rintro e w' ⟨rfl, rfl⟩; rw [HWR.out])
      | (go_at_call 57; refine (dcoord_any _ _).mono ?_; rintro e w' ⟨rfl, rfl⟩; first | rw [HX.out] | rw [HY.out])
      | (go_at_call 53; refine (dside_any _ _).mono ?_; rintro e w' ⟨rfl, rfl⟩; first | rw [HW.out] | rw [HH.out]))
    exact bodyPost_ret (v := .tuple #[.slice A n c, .int .i64 17]) (by simp [results, Tryz.results34, go_sem]) rfl (dset_err HC.out (by decide) HR.out HB.out)
  · have HC := Lib.hid (show setD l ⟨id, ⟨X, Y, W, H, M, G, B, S, As, ns, cs⟩, sh⟩ = 17 by simp [setD, h1, h2, hx, hy, hw, hh])
    have d1 : (id == 1) = false := by simp [h1]
    have HWR := Lib.hid (show (!(decide (idC id = 0))) = false by rw [decide_eq_true h2]; rfl)
    have HX := Lib.hid hx
    have HY := Lib.hid hy
    have HW := Lib.hid hw
    have HH := Lib.hid hh
    clear h1 h2 hx hy hw hh
    go_enter Tryz.func34, Tryz.ntmps34
    go_wp2_with (first
      | (go_at_call 56; refine (dwrong_any _ _ hid).mono ?_; rintro e w' ⟨rfl, rfl⟩; rw [HWR.out])
      | (go_at_call 57; refine (dcoord_any _ _).mono ?_; rintro e w' ⟨rfl, rfl⟩; first | rw [HX.out] | rw [HY.out])
      | (go_at_call 53; refine (dside_any _ _).mono ?_; rintro e w' ⟨rfl, rfl⟩; first | rw [HW.out] | rw [HH.out]))
    exact bodyPost_ret (v := .tuple #[.slice A n c, .int .i64 17]) (by simp [results, Tryz.results34, go_sem]) rfl (dset_err HC.out (by decide) HR.out HB.out)
  · have HC := Lib.hid (show setD l ⟨id, ⟨X, Y, W, H, M, G, B, S, As, ns, cs⟩, sh⟩ = 10 by simp [setD, h1, h2, hx, hy, hw, hh, hg])
    have d1 : (id == 1) = false := by simp [h1]
    have HWR := Lib.hid (show (!(decide (idC id = 0))) = false by rw [decide_eq_true h2]; rfl)
    have HX := Lib.hid hx
    have HY := Lib.hid hy
    have HW := Lib.hid hw
    have HH := Lib.hid hh
    have hgo := gravC_out hg
    clear h1 h2 hx hy hw hh hg
    rcases hgo with e1 | ⟨e1, e2⟩
    all_goals
      go_enter Tryz.func34, Tryz.ntmps34
      go_wp2_with (first
        | (go_at_call 56; refine (dwrong_any _ _ hid).mono ?_; rintro e w' ⟨rfl, rfl⟩; rw [HWR.out])
        | (go_at_call 57; refine (dcoord_any _ _).mono ?_; rintro e w' ⟨rfl, rfl⟩; first | rw [HX.out] | rw [HY.out])
        | (go_at_call 53; refine (dside_any _ _).mono ?_; rintro e w' ⟨rfl, rfl⟩; first | rw [HW.out] | rw [HH.out]))
      exact bodyPost_ret (v := .tuple #[.slice A n c, .int .i64 10]) (by simp [results, Tryz.results34, go_sem]) rfl (dset_err HC.out (by decide) HR.out HB.out)
  · have HC := Lib.hid (show setD l ⟨id, ⟨X, Y, W, H, M, G, B, S, As, ns, cs⟩, sh⟩ = 10 by simp [setD, h1, h2, hx, hy, hw, hh, hg, hb])
    have d1 : (id == 1) = false := by simp [h1]
    have HWR := Lib.hid (show (!(decide (idC id = 0))) = false by rw [decide_eq_true h2]; rfl)
    have HX := Lib.hid hx
    have HY := Lib.hid hy
    have HW := Lib.hid hw
    have HH := Lib.hid hh
    obtain ⟨e1, e2⟩ := gravC_in hg
    have hbo := gravC_out hb
    clear h1 h2 hx hy hw hh hg hb
    rcases hbo with e3 | ⟨e3, e4⟩
    all_goals
      go_enter Tryz.func34, Tryz.ntmps34
      go_wp2_with (first
        | (go_at_call 56; refine (dwrong_any _ _ hid).mono ?_; rintro e w' ⟨rfl, rfl⟩; rw [HWR.out])
        | (go_at_call 57; refine (dcoord_any _ _).mono ?_; rintro e w' ⟨rfl, rfl⟩; first | rw [HX.out] | rw [HY.out])
        | (go_at_call 53; refine (dside_any _ _).mono ?_; rintro e w' ⟨rfl, rfl⟩; first | rw [HW.out] | rw [HH.out]))
      exact bodyPost_ret (v := .tuple #[.slice A n c, .int .i64 10]) (by simp [results, Tryz.results34, go_sem]) rfl (dset_err HC.out (by decide) HR.out HB.out)
  · have HC := Lib.hid (show setD l ⟨id, ⟨X, Y, W, H, M, G, B, S, As, ns, cs⟩, sh⟩ = 14 by simp [setD, h1, h2, hx, hy, hw, hh, hg, hb, h9, h8])
    have d1 : (id == 1) = false := by simp [h1]
    have HWR := Lib.hid (show (!(decide (idC id = 0))) = false by rw [decide_eq_true h2]; rfl)
    have HX := Lib.hid hx
    have HY := Lib.hid hy
    have HW := Lib.hid hw
    have HH := Lib.hid hh
    obtain ⟨e1, e2⟩ := gravC_in hg
    obtain ⟨e3, e4⟩ := gravC_in hb
    have HE := Lib.hid h8
    subst h9
    clear h1 h2 hx hy hw hh hg hb h8
    go_enter Tryz.func34, Tryz.ntmps34
    go_wp2_with (first
      | (go_at_call 56; refine (dwrong_any _ _ hid).mono ?_; rintro e w' ⟨rfl, rfl⟩; rw [HWR.out])
      | (go_at_call 57; refine (dcoord_any _ _).mono ?_; rintro e w' ⟨rfl, rfl⟩; first | rw [HX.out] | rw [HY.out])
      | (go_at_call 53; refine (dside_any _ _).mono ?_; rintro e w' ⟨rfl, rfl⟩; first | rw [HW.out] | rw [HH.out])
      | (go_at_call 58; refine (dempty_any As ns cs sh _ hsn HS.out).mono ?_; rintro e w2 ⟨rfl, hb2⟩; rw [HE.out]; have HR := Lib.hid (HR.out.below hb2); have HB := Lib.hid (bstep HB.out hb2); clear hb2))
    exact bodyPost_ret (v := .tuple #[.slice A n c, .int .i64 14]) (by simp [results, Tryz.results34, go_sem]) rfl (dset_err HC.out (by decide) HR.out HB.out)

end Go.Proofs.YtbfefkhejknmoaaGreatDoor
