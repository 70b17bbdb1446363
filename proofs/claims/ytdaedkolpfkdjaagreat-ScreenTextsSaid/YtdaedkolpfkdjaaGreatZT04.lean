/-
  The walk of a tree's twin.
-/
import Derived.Test.YtdaedkolpfkdjaaGreatZT03
section
namespace Go.Proofs.YtdaedkolpfkdjaaGreat
open Go.RowKit Go.Maps Go.Shelf

namespace Tr
/-- an operation without a guard is done. -/
theorem wanted_plain {P : Program} {o : Oper} {a : Act} {w : World} {K : Act → World → Prop} {Q : Exit → Act → World → Prop} {E : Prop} {f : Nat → Option Bool} (hg : o.guard = none) (h : Oper.wp P o a w K Q) : if Region.wanted o f = true then Oper.wp P o a w K Q else E := by
  rw [if_pos (by simp [Region.wanted, hg])]
  exact h
section
variable {P : Program} {ops : Array Oper} {Q : Exit → Act → World → Prop} {md : Region.Mode} {S : World → Prop}
/-- an operation of a region is taken first; its slot is named. -/
theorem take_at (i d : Nat) (v : Value) {oi : Oper} {fuel : Nat} {listed : Array Bool} {ts : List Value} {w : World} (hi : ops[i]? = some oi) (hd : oi.dst = some d)
    (hs : Region.noSelect ops = true) (hf : Region.free md ops listed i = true) (hr : (Region.ready md ops listed).contains i = true)
    (hQ : ∀ c a w, Q (.panic c) (a.put oi.dst v) w → Q (.panic c) a w) (hy : YieldsIf P ops S oi v ⟨ts.toArray, []⟩) (hS : S w)
    (h : wpAnyH P md ops Q S fuel (listed.setIfInBounds i true) ⟨(ts.set d v).toArray, []⟩ w) : wpAnyH P md ops Q S (fuel + 1) listed ⟨ts.toArray, []⟩ w :=
  wpAnyH_take hi hs hf hr hQ hy hS (by rw [hd]; simpa [Act.put] using h)
end
end Tr

/-- a tree of the call's own: its maps, and its kids' lists, each in memory of its own. -/
structure TwinIs (w : World) (base : Nat) (ns : Nodes) (kb ub nk : Nat) (fk : Int → Option Value) : Prop where
  kids : MapIs Tryz.prog 48 .u32 w kb nk fk
  up : MapIs Tryz.prog 48 .u32 w ub ns.length (fun i => (upOf ns i).map (Value.int .u32))
  own : ∀ i v, fk i = some v → w.ownsRow base 48 1 v (kidsOf ns i).length (U32 (kidsOf ns i))
  far : ∀ i v, fk i = some v → v.ownBlock ≠ some kb ∧ v.ownBlock ≠ some ub
  nil : ∀ i, fk i = Option.none → kidsOf ns i = []
  apart : ∀ i j v u, fk i = some v → fk j = some u → i ≠ j → v.ownBlock = none ∨ v.ownBlock ≠ u.ownBlock
  lok : base ≤ kb
  lou : base ≤ ub
  ne : kb ≠ ub
  room : nk ≤ ns.length + 1
  few : ns.length ≤ 1000
  ok : okN ns
  keys : ∀ i, (fk i).isSome = true → hasN ns i = true
theorem kids_len {ns : Nodes} (h : ns.length ≤ 1000) (i : Int) : (kidsOf ns i).length ≤ 1000 := by
  refine Nat.le_trans ?_ h
  unfold kidsOf
  rw [List.length_map]
  exact List.length_filter_le _ _
theorem Blk.drewT {w : World} {g : Nat} {t : TypeId} {cs : Array Value} (h : Blk w g t cs) : Blk w.drew g t cs := h
theorem TwinIs.tree {w : World} {base : Nat} {ns : Nodes} {kb ub nk : Nat} {fk : Int → Option Value} (h : TwinIs w base ns kb ub nk fk) : TreeIs w (.agg #[.map (some kb), .map (some ub)]) ns (some kb) (some ub) nk fk := by
  refine ⟨rfl, .inr ⟨_, rfl, h.kids⟩, .inr ⟨_, rfl, h.up⟩, fun i => ?_, h.room, h.few, h.ok, h.keys⟩
  cases hf : fk i with
  | none => rw [h.nil i hf]; exact ⟨_, _, rfl, Nat.le_refl _, Rd.nil _ _⟩
  | some v =>
    have ho := h.own i v hf
    obtain ⟨A, c, rfl, hc⟩ := own_form ho
    exact ⟨A, c, rfl, hc, Rd.of_own ho⟩

/-- the kids' lists that are copied so far. -/
structure Got (w : World) (lo : Nat) (ns : Nodes) (fk : Int → Option Value) (left : Int → Bool) (fo : Int → Option Value) : Prop where
  own : ∀ i v, fo i = some v → w.ownsRow lo 48 1 v (kidsOf ns i).length (U32 (kidsOf ns i))
  apart : ∀ i j v u, fo i = some v → fo j = some u → i ≠ j → v.ownBlock = none ∨ v.ownBlock ≠ u.ownBlock
  got : ∀ i, left i = false → (fo i).isSome = (fk i).isSome
  not : ∀ i, left i = true → fo i = none
theorem Got.kept {w w' : World} {lo : Nat} {ns : Nodes} {fk : Int → Option Value} {left : Int → Bool} {fo : Int → Option Value} {row : Option Nat} (h : Got w lo ns fk left fo) (hg : w.grownBy w' row) (hr : ∀ g, row = some g → g < lo) : Got w' lo ns fk left fo :=
  ⟨fun i v hv => (h.own i v hv).kept hg (by
    cases hb : v.ownBlock with
    | none => exact .inl rfl
    | some g => exact .inr (fun e => by have h1 := hr g e.symm; have h2 := own_ge (h.own i v hv) g hb; omega)), h.apart, h.got, h.not⟩
theorem Got.more {w : World} {lo : Nat} {ns : Nodes} {fk : Int → Option Value} {left : Int → Bool} {fo : Int → Option Value} {i : Int} {v3 : Value} {s : Nat} (h : Got w lo ns fk left fo)
    (hs : ∀ j v g, fo j = some v → v.ownBlock = some g → g < s) (ho : w.ownsRow s 48 1 v3 (kidsOf ns i).length (U32 (kidsOf ns i))) (hlo : lo ≤ s) (hfi : (fk i).isSome = true) :
    Got w lo ns fk (fun j => left j && !decide (j = i)) (fun j => if j = i then some v3 else fo j) := by
  have hnew : ∀ j v, fo j = some v → v.ownBlock = none ∨ v.ownBlock ≠ v3.ownBlock := fun j v hv => by
    cases hb : v.ownBlock with
    | none => exact .inl rfl
    | some g => exact .inr (fun e => by have h1 := hs j v g hv hb; have h2 := own_ge ho g e.symm; omega)
  refine ⟨fun j v hv => ?_, fun j k v u hv hu hjk => ?_, fun j hj => ?_, fun j hj => ?_⟩
  · by_cases e : j = i
    · subst e
      simp only [if_true] at hv
      cases hv
      exact own_lower ho hlo
    · simp only [e, if_false] at hv
      exact h.own j v hv
  · by_cases e : j = i
    · have e' : k ≠ i := fun e2 => hjk (e.trans e2.symm)
      simp only [e, if_true] at hv
      simp only [e', if_false] at hu
      cases hv
      rcases hnew k u hu with hn | hn
      · cases hb : v3.ownBlock with
        | none => exact .inl rfl
        | some g => exact .inr (by rw [hn]; simp)
      · exact .inr (fun e3 => hn e3.symm)
    · simp only [e, if_false] at hv
      by_cases e' : k = i
      · simp only [e', if_true] at hu
        cases hu
        exact hnew j v hv
      · simp only [e', if_false] at hu
        exact h.apart j k v u hv hu hjk
  · by_cases e : j = i
    · subst e
      simp [hfi]
    · simp only [e, if_false]
      exact h.got j (by simpa [e] using hj)
  · simp only [Bool.and_eq_true, Bool.not_eq_true', decide_eq_false_iff_not] at hj
    simp only [hj.2, if_false]
    exact h.not j hj.1

set_option maxRecDepth 100000 in
set_option maxHeartbeats 4000000 in
theorem twin_some (ns : Nodes) (mk : Nat) (mu : Option Nat) (nk : Nat) (fk : Int → Option Value) (w : World) (h : TreeIs w (.agg #[.map (some mk), .map mu]) ns (some mk) mu nk fk) :
    Calls Tryz.prog 84 #[.agg #[.map (some mk), .map mu]] w fun e w' => ∃ kb ub nk' fo, e = .returned (.agg #[.map (some kb), .map (some ub)]) ∧ TwinIs w' w.heap.size ns kb ub nk' fo ∧ Below w.heap.size w w' := by
  have hmm := @run_makeMap Tryz.prog
  have hkm : MapIs Tryz.prog 48 .u32 w mk nk fk := by
    rcases h.kids with ⟨e, _⟩ | ⟨b, e, hk⟩
    · cases e
    · cases e; exact hk
  have b0 := ((((Blk.new w 37 #[.map (some mk), .map mu]).alloc (.cells #[.map none, .map none] 37)).alloc (.map #[] 0)).alloc (.map #[] 0)).alloc (.cells #[.map (some (w.heap.size + 1 + 1)), .map (some (w.heap.size + 1 + 1 + 1))] 37)
  have b1 := (((blk_new2 w (.cells #[.map (some mk), .map mu] 37) 37 #[.map none, .map none]).alloc (.map #[] 0)).alloc (.map #[] 0)).alloc (.cells #[.map (some (w.heap.size + 1 + 1)), .map (some (w.heap.size + 1 + 1 + 1))] 37)
  have m2 : MapIs Tryz.prog 48 .u32 (((((w.alloc (.cells #[.map (some mk), .map mu] 37)).alloc (.cells #[.map none, .map none] 37)).alloc (.map #[] 0)).alloc (.map #[] 0)).alloc (.cells #[.map (some (w.heap.size + 1 + 1)), .map (some (w.heap.size + 1 + 1 + 1))] 37)) (w.heap.size + 1 + 1) 0 (fun _ => none) := by
    have := ((MapIs.made (P := Tryz.prog) (k := 48) (q := .u32) ((w.alloc (.cells #[.map (some mk), .map mu] 37)).alloc (.cells #[.map none, .map none] 37))).alloc (.map #[] 0)).alloc (.cells #[.map (some (w.heap.size + 1 + 1)), .map (some (w.heap.size + 1 + 1 + 1))] 37)
    rwa [World.size_alloc, World.size_alloc] at this
  have m3 : MapIs Tryz.prog 48 .u32 (((((w.alloc (.cells #[.map (some mk), .map mu] 37)).alloc (.cells #[.map none, .map none] 37)).alloc (.map #[] 0)).alloc (.map #[] 0)).alloc (.cells #[.map (some (w.heap.size + 1 + 1)), .map (some (w.heap.size + 1 + 1 + 1))] 37)) (w.heap.size + 1 + 1 + 1) 0 (fun _ => none) := by
    have := (MapIs.made (P := Tryz.prog) (k := 48) (q := .u32) (((w.alloc (.cells #[.map (some mk), .map mu] 37)).alloc (.cells #[.map none, .map none] 37)).alloc (.map #[] 0))).alloc (.cells #[.map (some (w.heap.size + 1 + 1)), .map (some (w.heap.size + 1 + 1 + 1))] 37)
    rwa [World.size_alloc, World.size_alloc, World.size_alloc] at this
  have b4 : Blk (((((w.alloc (.cells #[.map (some mk), .map mu] 37)).alloc (.cells #[.map none, .map none] 37)).alloc (.map #[] 0)).alloc (.map #[] 0)).alloc (.cells #[.map (some (w.heap.size + 1 + 1)), .map (some (w.heap.size + 1 + 1 + 1))] 37)) (w.heap.size + 1 + 1 + 1 + 1) 37 #[.map (some (w.heap.size + 1 + 1)), .map (some (w.heap.size + 1 + 1 + 1))] := by
    have := Blk.new ((((w.alloc (.cells #[.map (some mk), .map mu] 37)).alloc (.cells #[.map none, .map none] 37)).alloc (.map #[] 0)).alloc (.map #[] 0)) 37 #[.map (some (w.heap.size + 1 + 1)), .map (some (w.heap.size + 1 + 1 + 1))]
    rwa [World.size_alloc, World.size_alloc, World.size_alloc, World.size_alloc] at this
  have hB := bal (bal (bal (bal (bal (bre w) (.cells #[.map (some mk), .map mu] 37)) (.cells #[.map none, .map none] 37)) (.map #[] 0)) (.map #[] 0)) (.cells #[.map (some (w.heap.size + 1 + 1)), .map (some (w.heap.size + 1 + 1 + 1))] 37)
  have HK := Lib.hid (hkm.below hB)
  have HU := Lib.hid (h.up.below hB)
  have HE := Lib.hid h.each
  have HFEW := Lib.hid h.few
  have HROOM := Lib.hid h.room
  have HOK := Lib.hid h.ok
  have HKEYS := Lib.hid h.keys
  have hmul : ∀ b, mu = some b → b < w.heap.size := by
    intro b hb
    rcases h.up with ⟨e, _⟩ | ⟨b', e, hk⟩
    · rw [hb] at e; cases e
    · rw [hb] at e; cases e; exact hk.lt
  have hmkl := hkm.lt
  have HMUL := Lib.hid hmul
  have H0 := Lib.hid b0
  have H1 := Lib.hid b1
  have M2 := Lib.hid m2
  have M3 := Lib.hid m3
  have H4 := Lib.hid b4
  have HB := Lib.hid hB
  clear h hkm b0 b1 m2 m3 b4 hB hmul
  go_enter Tryz.func84, Tryz.ntmps84
  go_upto_region 4 with (first
    | (go_at_call 143; refine (copyup_any (w.heap.size + 1 + 1 + 1) ns.length mu _ _ M3.out HU.out HFEW.out (by intro e; have := HMUL.out _ e; omega)).mono ?_; rintro e w1 ⟨rfl, hup1, hg1⟩; have B0 := H0.out.grown hg1 (by intro e; injection e with e; omega); have B1 := H1.out.grown hg1 (by intro e; injection e with e; omega); have B4 := H4.out.grown hg1 (by intro e; injection e with e; omega); have q0 := B0.cellV (i := 0) (v := .map (some mk)) rfl; have q1 := B0.cellV (i := 1) (v := .map mu) rfl; have HM2 := Lib.hid (M2.out.kept hg1 (by intro e; injection e with e; omega)); have HMK := Lib.hid (HK.out.kept hg1 (by intro e; injection e with e; omega)); have HB1 := Lib.hid (HB.out.grown hg1 HB.out.size (fun g e => by cases e; omega)); have HU1 := Lib.hid hup1; have C1 := Lib.hid B1; have C4 := Lib.hid B4; clear B0 B1 B4 hup1 hg1)
    | (at_range; refine map_range rfl _ 34 rfl 48 43 .u32 Tryz.underlying48 Tryz.underlying34 mk nk fk rfl HMK.out ?_; intro w0 hrg0 hg0 hs0))
  go_frame
  have hs1 := C4.out.lt
  have hlo1 := HB1.out.size
  go_loopw [17] (fun _ wr => ∃ (left : Int → Bool) (cnt m : Nat) (fo : Int → Option Value), MapRange Tryz.prog 48 .u32 wr mk w1.heap.size nk fk left cnt ∧ m + cnt ≤ nk ∧
      MapIs Tryz.prog 48 .u32 wr (w.heap.size + 1 + 1) m fo ∧ Got wr (w1.heap.size + 1) ns fk left fo ∧ w1.grownBy wr (some (w.heap.size + 1 + 1)))
    (fun _ wr => wr.rangeLeft mk w1.heap.size)
  case atStart =>
    exact ⟨_, _, 0, _, hrg0, by omega, HM2.out.kept hg0 (by simp), ⟨(fun i v hv => by cases hv), (fun i j v u hv => by cases hv), (fun i hi => by rw [hi]; rfl), (fun i _ => rfl)⟩, hg0.but _⟩
  case round =>
    obtain ⟨left, cnt, m, fo, hrg, hcs, hout, hgot, hgw⟩ := hrel
    have BO := C4.out.grown hgw (by intro e; injection e with e; omega)
    have c00 := BO.cellV (i := 0) (v := .map (some (w.heap.size + 1 + 1))) rfl
    have c01 := BO.cellV (i := 1) (v := .map (some (w.heap.size + 1 + 1 + 1))) rfl
    have BR := C1.out.grown hgw (by intro e; injection e with e; omega)
    go_upto_region 6 with (at_next; refine map_next rfl _ rfl 48 .u32 Tryz.underlying48 mk w1.heap.size nk fk left cnt rfl hrg ?_ ?_)
    · intro hc0 hl0
      have r0 := BR.cellV (i := 0) (v := .map none) rfl
      have r1 := BR.cellV (i := 1) (v := .map none) rfl
      have rf0 := BR.frozen 0
      have rf1 := BR.frozen 1
      have rl := BR.lt
      go_wp2_with fail
      have hr0 := ((BR.set_ 0 (.map (some (w.heap.size + 1 + 1)))).set_ 1 (.map (some (w.heap.size + 1 + 1 + 1)))).cellV (i := 0) (v := .map (some (w.heap.size + 1 + 1))) rfl
      have hr1 := ((BR.set_ 0 (.map (some (w.heap.size + 1 + 1)))).set_ 1 (.map (some (w.heap.size + 1 + 1 + 1)))).cellV (i := 1) (v := .map (some (w.heap.size + 1 + 1 + 1))) rfl
      refine bodyPost_ret (v := .agg #[.map (some (w.heap.size + 1 + 1)), .map (some (w.heap.size + 1 + 1 + 1))]) (by simp [results, Tryz.results84, go_sem, hr0, hr1]) rfl ⟨_, _, m, fo, rfl, ?_, ?_⟩
      · refine ⟨(hout.setCell (by simp) _).setCell (by simp) _, ((HU1.out.kept hgw (by intro e; injection e with e; omega)).setCell (by simp; omega) _).setCell (by simp; omega) _, fun i v hv => own_lower (own_far (own_far (hgot.own i v hv) (by show w.heap.size + 1 < _; omega) _) (by show w.heap.size + 1 < _; omega) _) (by omega), fun i v hv => ⟨fun e => ?_, fun e => ?_⟩, fun i hi => ?_, hgot.apart, by omega, by omega, by omega, by have := HROOM.out; omega, HFEW.out, HOK.out, fun i hi => HKEYS.out i (by rw [← hgot.got i (hl0 i)]; exact hi)⟩
        · have := own_ge (hgot.own i v hv) _ e
          omega
        · have := own_ge (hgot.own i v hv) _ e
          omega
        · have h1 := hgot.got i (hl0 i)
          rw [hi] at h1
          obtain ⟨A, c, hgd, hc, _⟩ := HE.out i
          cases hf : fk i with
          | none =>
            rw [hf] at hgd
            have h2 : (0 : Nat) = (kidsOf ns i).length := by injection hgd
            exact List.eq_nil_of_length_eq_zero h2.symm
          | some u => rw [hf] at h1; cases h1
      · exact bset (bset (HB1.out.grown hgw (by omega) (fun g e => by cases e; omega)) (by show w.heap.size ≤ w.heap.size + 1; omega) _) (by show w.heap.size ≤ w.heap.size + 1; omega) _
    · intro i v w2 cnt1 hwf hli hfi hrg1 hlt hg2 hs2 hen
      obtain ⟨A, c, hgd, hc, hrd⟩ := HE.out i
      rw [hfi] at hgd
      obtain rfl : v = .slice A (kidsOf ns i).length c := hgd
      have hkl := kids_len HFEW.out i
      have HWF := Lib.hid hwf
      have BO2 := (C4.out.grown hgw (by intro e; injection e with e; omega)).grown hg2 (by intro e; injection e with e; omega)
      have c0 := BO2.cellV (i := 0) (v := .map (some (w.heap.size + 1 + 1))) rfl
      have HB2 := Lib.hid ((HB1.out.grown hgw (by omega) (fun g e => by cases e; omega)).grown hg2 (by have := hgw.size; omega) (fun g e => by cases e; omega))
      have HRD := Lib.hid (hrd.below (HB2.out))
      have HOUT := Lib.hid (hout.kept hg2 (by intro e; injection e with e; omega))
      have hno : (fo i).isSome = false := by rw [hgot.not i hli]; rfl
      have hrm := HROOM.out
      have hfw := HFEW.out
      clear hrd c00 c01 BR BO
      go_upto_region 6 with fail
      refine wp_region_noPanic ?_
      refine wp_region_held_drew (S := (fun w' => w'.cell? ⟨w.heap.size + 1 + 1 + 1 + 1, 0, none⟩ = some (.map (some (w.heap.size + 1 + 1))))) (by kernel_rfl) ?_ (fun hHeld => ?_)
      · (try dsimp only)
        exact c0
      refine Tr.take_at 0 22 (.pointer (some ⟨w.heap.size + 1 + 1 + 1 + 1, 0, none⟩)) rfl rfl (by kernel_rfl) (by kernel_rfl) (by kernel_rfl) (fun _ _ _ h => h) (Or.inl ⟨by rfl, ?_⟩) (by assumption) ?_
      · intro W0 hSw
        (try dsimp only at hSw)
        go_simp
      simp only [List.set_cons_zero, List.set_cons_succ]
      refine Tr.take_at 1 23 (.map (some (w.heap.size + 1 + 1))) rfl rfl (by kernel_rfl) (by kernel_rfl) (by kernel_rfl) (fun _ _ _ h => h) (Or.inl ⟨by rfl, ?_⟩) (by assumption) ?_
      · intro W0 hSw
        (try dsimp only at hSw)
        go_simp
      simp only [List.set_cons_zero, List.set_cons_succ]
      refine Tr.take_at 2 24 (.int .u32 i) rfl rfl (by kernel_rfl) (by kernel_rfl) (by kernel_rfl) (fun _ _ _ h => h) (Or.inl ⟨by rfl, ?_⟩) (by assumption) ?_
      · intro W0 hSw
        (try dsimp only at hSw)
        go_simp
      simp only [List.set_cons_zero, List.set_cons_succ]
      refine Tr.take_at 3 25 (.slice A (kidsOf ns i).length c) rfl rfl (by kernel_rfl) (by kernel_rfl) (by kernel_rfl) (fun _ _ _ h => h) (Or.inl ⟨by rfl, ?_⟩) (by assumption) ?_
      · intro W0 hSw
        (try dsimp only at hSw)
        go_simp
      simp only [List.set_cons_zero, List.set_cons_succ]
      refine wpAnyH_ready (rs := [4]) (by kernel_rfl) (by simp) ?_
      refine AllReadyH.cons rfl (fun K hK => ?_) AllReadyH.nil
      go_simp
      go_at_call 93
      refine (cloneI_any _ _ _ (kidsOf ns i) _ (by omega) (HRD.out.below (bre w2).drew)).mono ?_
      rintro e w3 ⟨v3, rfl, ho3, hb3⟩
      have HO3 := Lib.hid ho3
      have HB3 := Lib.hid (bstep (bre w2).drew hb3)
      have BO3 := BO2.belowS HB3.out
      have d0 := BO3.cellV (i := 0) (v := .map (some (w.heap.size + 1 + 1))) rfl
      clear ho3 hb3
      refine hK.out _ _ ?_ (fun hHeld => ?_)
      · (try dsimp only)
        exact d0
      clear hK K
      refine wpAnyH_ready (rs := [5]) (by kernel_rfl) (by simp) ?_
      refine AllReadyH.cons rfl (fun K hK => ?_) AllReadyH.nil
      refine Tr.wanted_plain rfl ?_
      refine map_put_op _ _ _ 34 rfl 48 43 .u32 Tryz.underlying48 Tryz.underlying34 (w.heap.size + 1 + 1) m fo rfl (HOUT.out.below HB3.out) (by simp only [maxLen]; omega) i v3 rfl rfl HWF.out ?_
      intro w4 hm4 hg4
      rw [hno] at hm4
      have HM4 := Lib.hid hm4
      have HG4 := Lib.hid hg4
      have BO4 := BO3.grown hg4 (by intro e; injection e with e; omega)
      have e0 := BO4.cellV (i := 0) (v := .map (some (w.heap.size + 1 + 1))) rfl
      clear hm4 hg4
      refine hK.out _ _ ?_ (fun hHeld => ?_)
      · (try dsimp only)
        exact e0
      clear hK K
      refine wpAnyH_done (by kernel_rfl) ?_ _
      refine NoPanic.normal ?_
      go_wp2_with fail
      have hg3 : w2.grownBy w3 none := ⟨HB3.out.os, HB3.out.tape, HB3.out.output, HB3.out.size, fun i hi _ => HB3.out.block i hi⟩
      have hrg4 := (hrg1.kept hg3 (by simp) (by simp)).kept HG4.out (by intro e; injection e with e; omega) (by intro e; injection e with e; omega)
      have hgot2 := hgot.kept hg2 (fun g e => by cases e; omega)
      have hz2 := hrg.lt
      have hgot4 := ((hgot2.kept hg3 (fun g e => by cases e)).more (s := w2.heap.size) (fun j v g hv hb => ((hgot2.own j v hv).lt g hb).2) HO3.out (by omega) (by rw [hfi]; rfl)).kept HG4.out (fun g e => by cases e; omega)
      go_roundw
      case rel => exact ⟨_, _, _, _, _, _, _, _, _, _, _, _, ⟨_, cnt1, m + 1, _, hrg4, by omega, HM4.out, hgot4, ((hgw.andThen hg2 (fun j hj => .inl (by cases hj; exact Nat.le_refl _))).andThen hg3 (fun j hj => by cases hj)).andThen HG4.out (fun j hj => .inr hj)⟩, rfl⟩
      case measure => rw [hrg4.left_eq, hrg.left_eq]; exact hlt

set_option maxRecDepth 100000 in
set_option maxHeartbeats 4000000 in
theorem twin_nil (ns : Nodes) (mu : Option Nat) (nk : Nat) (fk : Int → Option Value) (w : World) (h : TreeIs w (.agg #[.map none, .map mu]) ns none mu nk fk) :
    Calls Tryz.prog 84 #[.agg #[.map none, .map mu]] w fun e w' => ∃ kb ub nk' fo, e = .returned (.agg #[.map (some kb), .map (some ub)]) ∧ TwinIs w' w.heap.size ns kb ub nk' fo ∧ Below w.heap.size w w' := by
  have hmm := @run_makeMap Tryz.prog
  obtain ⟨hn0, hf0⟩ : nk = 0 ∧ ∀ i, fk i = none := by
    rcases h.kids with ⟨_, e, hf⟩ | ⟨b, e, _⟩
    · exact ⟨e, hf⟩
    · cases e
  have b0 := ((((Blk.new w 37 #[.map none, .map mu]).alloc (.cells #[.map none, .map none] 37)).alloc (.map #[] 0)).alloc (.map #[] 0)).alloc (.cells #[.map (some (w.heap.size + 1 + 1)), .map (some (w.heap.size + 1 + 1 + 1))] 37)
  have b1 := (((blk_new2 w (.cells #[.map none, .map mu] 37) 37 #[.map none, .map none]).alloc (.map #[] 0)).alloc (.map #[] 0)).alloc (.cells #[.map (some (w.heap.size + 1 + 1)), .map (some (w.heap.size + 1 + 1 + 1))] 37)
  have m2 : MapIs Tryz.prog 48 .u32 (((((w.alloc (.cells #[.map none, .map mu] 37)).alloc (.cells #[.map none, .map none] 37)).alloc (.map #[] 0)).alloc (.map #[] 0)).alloc (.cells #[.map (some (w.heap.size + 1 + 1)), .map (some (w.heap.size + 1 + 1 + 1))] 37)) (w.heap.size + 1 + 1) 0 (fun _ => none) := by
    have := ((MapIs.made (P := Tryz.prog) (k := 48) (q := .u32) ((w.alloc (.cells #[.map none, .map mu] 37)).alloc (.cells #[.map none, .map none] 37))).alloc (.map #[] 0)).alloc (.cells #[.map (some (w.heap.size + 1 + 1)), .map (some (w.heap.size + 1 + 1 + 1))] 37)
    rwa [World.size_alloc, World.size_alloc] at this
  have m3 : MapIs Tryz.prog 48 .u32 (((((w.alloc (.cells #[.map none, .map mu] 37)).alloc (.cells #[.map none, .map none] 37)).alloc (.map #[] 0)).alloc (.map #[] 0)).alloc (.cells #[.map (some (w.heap.size + 1 + 1)), .map (some (w.heap.size + 1 + 1 + 1))] 37)) (w.heap.size + 1 + 1 + 1) 0 (fun _ => none) := by
    have := (MapIs.made (P := Tryz.prog) (k := 48) (q := .u32) (((w.alloc (.cells #[.map none, .map mu] 37)).alloc (.cells #[.map none, .map none] 37)).alloc (.map #[] 0))).alloc (.cells #[.map (some (w.heap.size + 1 + 1)), .map (some (w.heap.size + 1 + 1 + 1))] 37)
    rwa [World.size_alloc, World.size_alloc, World.size_alloc] at this
  have b4 : Blk (((((w.alloc (.cells #[.map none, .map mu] 37)).alloc (.cells #[.map none, .map none] 37)).alloc (.map #[] 0)).alloc (.map #[] 0)).alloc (.cells #[.map (some (w.heap.size + 1 + 1)), .map (some (w.heap.size + 1 + 1 + 1))] 37)) (w.heap.size + 1 + 1 + 1 + 1) 37 #[.map (some (w.heap.size + 1 + 1)), .map (some (w.heap.size + 1 + 1 + 1))] := by
    have := Blk.new ((((w.alloc (.cells #[.map none, .map mu] 37)).alloc (.cells #[.map none, .map none] 37)).alloc (.map #[] 0)).alloc (.map #[] 0)) 37 #[.map (some (w.heap.size + 1 + 1)), .map (some (w.heap.size + 1 + 1 + 1))]
    rwa [World.size_alloc, World.size_alloc, World.size_alloc, World.size_alloc] at this
  have hB := bal (bal (bal (bal (bal (bre w) (.cells #[.map none, .map mu] 37)) (.cells #[.map none, .map none] 37)) (.map #[] 0)) (.map #[] 0)) (.cells #[.map (some (w.heap.size + 1 + 1)), .map (some (w.heap.size + 1 + 1 + 1))] 37)
  have HU := Lib.hid (h.up.below hB)
  have HE := Lib.hid h.each
  have HFEW := Lib.hid h.few
  have HROOM := Lib.hid h.room
  have HOK := Lib.hid h.ok
  have HKEYS := Lib.hid h.keys
  have hmul : ∀ b, mu = some b → b < w.heap.size := by
    intro b hb
    rcases h.up with ⟨e, _⟩ | ⟨b', e, hk⟩
    · rw [hb] at e; cases e
    · rw [hb] at e; cases e; exact hk.lt
  have HMUL := Lib.hid hmul
  have H0 := Lib.hid b0
  have H1 := Lib.hid b1
  have M2 := Lib.hid m2
  have M3 := Lib.hid m3
  have H4 := Lib.hid b4
  have HB := Lib.hid hB
  clear h b0 b1 m2 m3 b4 hB hmul
  go_enter Tryz.func84, Tryz.ntmps84
  go_upto_region 4 with (first
    | (go_at_call 143; refine (copyup_any (w.heap.size + 1 + 1 + 1) ns.length mu _ _ M3.out HU.out HFEW.out (by intro e; have := HMUL.out _ e; omega)).mono ?_; rintro e w1 ⟨rfl, hup1, hg1⟩; have B0 := H0.out.grown hg1 (by intro e; injection e with e; omega); have B1 := H1.out.grown hg1 (by intro e; injection e with e; omega); have B4 := H4.out.grown hg1 (by intro e; injection e with e; omega); have q0 := B0.cellV (i := 0) (v := .map none) rfl; have q1 := B0.cellV (i := 1) (v := .map mu) rfl; have HM2 := Lib.hid (M2.out.kept hg1 (by intro e; injection e with e; omega)); have hrg := run_range_nilMap (P := Tryz.prog) w1 34 _ _ Tryz.underlying34; have hnx : ∀ ty, (Instr.next (.pointer (some ⟨w1.heap.size, 0, none⟩)) false ty).run Tryz.prog (w1.alloc (.mapIter none 0 #[] 0)) = _ := fun ty => run_next_nilMap _ ty 0 0 #[]; have HB1 := Lib.hid (HB.out.grown hg1 HB.out.size (fun g e => by cases e; omega)); have HU1 := Lib.hid hup1; have C1 := Lib.hid B1; have C4 := Lib.hid B4; clear B0 B1 B4 hup1 hg1))
  have hs1 := C4.out.lt
  have hlo1 := HB1.out.size
  refine wp_loop_rounds 1 ?_
  rw [rounds_succ]
  have BO := C4.out.alloc (.mapIter none 0 #[] 0)
  have BR := C1.out.alloc (.mapIter none 0 #[] 0)
  have c00 := BO.cellV (i := 0) (v := .map (some (w.heap.size + 1 + 1))) rfl
  have c01 := BO.cellV (i := 1) (v := .map (some (w.heap.size + 1 + 1 + 1))) rfl
  have r0 := BR.cellV (i := 0) (v := .map none) rfl
  have r1 := BR.cellV (i := 1) (v := .map none) rfl
  have rf0 := BR.frozen 0
  have rf1 := BR.frozen 1
  have rl := BR.lt
  go_wp2_with fail
  have hr0 := ((BR.set_ 0 (.map (some (w.heap.size + 1 + 1)))).set_ 1 (.map (some (w.heap.size + 1 + 1 + 1)))).cellV (i := 0) (v := .map (some (w.heap.size + 1 + 1))) rfl
  have hr1 := ((BR.set_ 0 (.map (some (w.heap.size + 1 + 1)))).set_ 1 (.map (some (w.heap.size + 1 + 1 + 1)))).cellV (i := 1) (v := .map (some (w.heap.size + 1 + 1 + 1))) rfl
  refine bodyPost_ret (v := .agg #[.map (some (w.heap.size + 1 + 1)), .map (some (w.heap.size + 1 + 1 + 1))]) (by simp [results, Tryz.results84, go_sem, hr0, hr1]) rfl ⟨_, _, 0, fun _ => none, rfl, ?_, ?_⟩
  · refine ⟨((HM2.out.alloc _).setCell (by simp) _).setCell (by simp) _, ((HU1.out.alloc _).setCell (by simp; omega) _).setCell (by simp; omega) _, (fun i v hv => by cases hv), (fun i v hv => by cases hv), fun i _ => ?_, (fun i j v u hv => by cases hv), by omega, by omega, by omega, by omega, HFEW.out, HOK.out, fun i hi => by cases hi⟩
    obtain ⟨A, c, hgd, hc, _⟩ := HE.out i
    rw [hf0 i] at hgd
    have h2 : (0 : Nat) = (kidsOf ns i).length := by injection hgd
    exact List.eq_nil_of_length_eq_zero h2.symm
  · exact bset (bset (bal HB1.out _) (by show w.heap.size ≤ w.heap.size + 1; omega) _) (by show w.heap.size ≤ w.heap.size + 1; omega) _

theorem twin_any (v : Value) (ns : Nodes) (mk mu : Option Nat) (nk : Nat) (fk : Int → Option Value) (w : World) (h : TreeIs w v ns mk mu nk fk) :
    Calls Tryz.prog 84 #[v] w fun e w' => ∃ kb ub nk' fo, e = .returned (.agg #[.map (some kb), .map (some ub)]) ∧ TwinIs w' w.heap.size ns kb ub nk' fo ∧ Below w.heap.size w w' := by
  have hv := h.shape
  subst hv
  cases mk with
  | none => exact twin_nil ns mu nk fk w h
  | some mk => exact twin_some ns mk mu nk fk w h

end Go.Proofs.YtdaedkolpfkdjaaGreat
end
