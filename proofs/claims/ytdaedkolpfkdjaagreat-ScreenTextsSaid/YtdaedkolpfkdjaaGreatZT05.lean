/-
  The walk of a tree's put.
-/
import Derived.Test.YtdaedkolpfkdjaaGreatZT04
section
namespace Go.Proofs.YtdaedkolpfkdjaaGreat
open Go.RowKit Go.Maps Go.Shelf

theorem one_new (w : World) (a : Value) (t : TypeId) : ∀ j u, [a][j]? = some u → (w.alloc (.cells #[a] t)).cell? ((⟨w.heap.size, 0, none⟩ : Addr).add j) = some u := by
  intro j u hu
  match j, hu with
  | 0, hu => simp at hu; subst hu; simp [Addr.add]
theorem upOf_snoc {ns : Nodes} {id p : Int} (h : upOf ns id = none) (j : Int) : upOf (ns ++ [(id, p)]) j = if j = id then some p else upOf ns j := by
  unfold upOf at h ⊢
  rw [List.find?_append]
  by_cases e : j = id
  · subst e
    have hf : ns.find? (fun q => q.1 == j) = none := by simpa using h
    rw [hf]
    simp
  · rw [if_neg e]
    have : ([(id, p)] : Nodes).find? (fun q => q.1 == j) = none := by simp; exact fun h => e h.symm
    rw [this]
    simp
theorem kidsOf_snoc (ns : Nodes) (id p i : Int) : kidsOf (ns ++ [(id, p)]) i = kidsOf ns i ++ (if p = i then [id] else []) := by
  unfold kidsOf
  rw [List.filter_append, List.map_append]
  by_cases e : p = i
  · subst e; simp
  · simp [e]
theorem MapIs.obj {P : Program} {k : TypeId} {q : IntKind} {w : World} {b n : Nat} {f : Int → Option Value} (h : MapIs P k q w b n f) : ∃ es cl, w.heap[b]? = some (.map es cl) := by
  obtain ⟨D, ⟨es, cl, hb, _⟩, _⟩ := h
  exact ⟨es, cl, hb⟩
/-- a map's block is no row's. -/
theorem MapIs.not_row {P : Program} {k : TypeId} {q : IntKind} {w : World} {b n m base size : Nat} {e : TypeId} {f : Int → Option Value} {v : Value} {xs : List Value} (h : MapIs P k q w b n f) (hr : w.ownsRow base e size v m xs) : v.ownBlock ≠ some b := by
  intro e1
  obtain ⟨es, cl, hb⟩ := h.obj
  rcases hr.2 with ⟨rfl, _⟩ | ⟨g, cap, cur, rfl, _, hg, _⟩
  · cases e1
  · injection e1 with e1
    subst e1
    rw [hg] at hb
    cases hb
theorem TwinIs.alloc {w : World} {base : Nat} {ns : Nodes} {kb ub nk : Nat} {fk : Int → Option Value} (h : TwinIs w base ns kb ub nk fk) (o : Obj) : TwinIs (w.alloc o) base ns kb ub nk fk :=
  ⟨h.kids.alloc o, h.up.alloc o, fun i v hv => (h.own i v hv).alloc o, h.far, h.nil, h.apart, h.lok, h.lou, h.ne, h.room, h.few, h.ok, h.keys⟩
/-- the kids' list of a window, there or not. -/
theorem TwinIs.row {w : World} {base : Nat} {ns : Nodes} {kb ub nk : Nat} {fk : Int → Option Value} (h : TwinIs w base ns kb ub nk fk) (i : Int) : w.ownsRow base 48 1 ((fk i).getD (.slice none 0 0)) (kidsOf ns i).length (U32 (kidsOf ns i)) := by
  cases hf : fk i with
  | none => rw [h.nil i hf]; exact ⟨rfl, .inl ⟨rfl, rfl⟩⟩
  | some v => exact h.own i v hf

/-- a tree whose maps and lists lie in memory from base on. -/
structure TreeOwn (w : World) (base : Nat) (ns : Nodes) (kb ub nk : Nat) (fk : Int → Option Value) : Prop where
  kids : MapIs Tryz.prog 48 .u32 w kb nk fk
  up : MapIs Tryz.prog 48 .u32 w ub ns.length (fun i => (upOf ns i).map (Value.int .u32))
  own : ∀ i v, fk i = some v → w.ownsRow base 48 1 v (kidsOf ns i).length (U32 (kidsOf ns i))
  nil : ∀ i, fk i = Option.none → kidsOf ns i = []
  lok : base ≤ kb
  lou : base ≤ ub
  room : nk ≤ ns.length + 1
  few : ns.length ≤ 1000
  ok : okN ns
  keys : ∀ i, (fk i).isSome = true → hasN ns i = true
theorem TreeOwn.tree {w : World} {base : Nat} {ns : Nodes} {kb ub nk : Nat} {fk : Int → Option Value} (h : TreeOwn w base ns kb ub nk fk) : TreeIs w (.agg #[.map (some kb), .map (some ub)]) ns (some kb) (some ub) nk fk := by
  refine ⟨rfl, .inr ⟨_, rfl, h.kids⟩, .inr ⟨_, rfl, h.up⟩, fun i => ?_, h.room, h.few, h.ok, h.keys⟩
  cases hf : fk i with
  | none => rw [h.nil i hf]; exact ⟨_, _, rfl, Nat.le_refl _, Rd.nil _ _⟩
  | some v =>
    have ho := h.own i v hf
    obtain ⟨A, c, rfl, hc⟩ := own_form ho
    exact ⟨A, c, rfl, hc, Rd.of_own ho⟩
theorem TreeOwn.far {w : World} {base : Nat} {ns : Nodes} {kb ub nk : Nat} {fk : Int → Option Value} (h : TreeOwn w base ns kb ub nk fk) {p : Addr} (hp : p.block < base) (u : Value) : TreeOwn (w.setCell p u) base ns kb ub nk fk :=
  ⟨h.kids.setCell (by have := h.lok; omega) u, h.up.setCell (by have := h.lou; omega) u, fun i v hv => own_far (h.own i v hv) hp u, h.nil, h.lok, h.lou, h.room, h.few, h.ok, h.keys⟩
theorem put_end {w D w5 w6 w7 : World} {base : Nat} {ns : Nodes} {kb ub nk : Nat} {fk : Int → Option Value} {id p : Int} {v0 v5 : Value} {o : Obj} {N : Bool} (hN : ((upOf ns id).map (Value.int .u32)).isSome = N) (hp : 0 ≤ p ∧ p ≤ 4294967295) (hi : (0 ≤ id ∧ id ≤ 4294967295) ∧ N = false)
    (h : TwinIs D base ns kb ub nk fk) (hB : Below base w D) (hBl : ∀ g cs, Blk w g 37 cs → Blk D g 37 cs) (hl : base ≤ D.heap.size ∧ ns.length + 1 ≤ 1000) (hhp : hasN ns p = true) (hv0 : (fk p).getD (.slice none 0 0) = v0) (hO5 : w5.ownsRow base 48 1 v5 ((kidsOf ns p).length + 1) (U32 (kidsOf ns p) ++ [.int .u32 id])) (hG5 : (D.drew.alloc o).grownBy w5 v0.ownBlock)
    (hM6 : MapIs Tryz.prog 48 .u32 w6 kb (if (fk p).isSome then nk else nk + 1) (fun j => if j = p then some v5 else fk j)) (hG6 : w5.grownBy w6 (some kb))
    (hM7 : MapIs Tryz.prog 48 .u32 w7 ub (if N = true then ns.length else ns.length + 1) (fun j => if j = id then some (.int .u32 p) else (upOf ns j).map (Value.int .u32))) (hG7 : w6.grownBy w7 (some ub)) :
    (∃ nk' fk', TreeOwn w7 base (ns ++ [(id, p)]) kb ub nk' fk') ∧ Below base w w7 ∧ ∀ g cs, Blk w g 37 cs → Blk w7 g 37 cs := by
  obtain ⟨hid, rfl⟩ := hi
  have hrow := h.row p
  rw [hv0] at hrow
  have hfar1 := h.kids.not_row hrow
  have hfar2 := h.up.not_row hrow
  have hk5 := (h.kids.drew.alloc o).kept hG5 (fun e => hfar1 e.symm)
  have hu5 := (h.up.drew.alloc o).kept hG5 (fun e => hfar2 e.symm)
  have hsD : D.drew.heap.size = D.heap.size := rfl
  have hs9 : D.heap.size ≤ (D.drew.alloc o).heap.size := by rw [World.size_alloc, hsD]; omega
  refine ⟨⟨_, _, hM6.kept hG7 (fun e => h.ne (Option.some.inj e)), ?_, fun j v hv => ?_, fun j hj => ?_, h.lok, h.lou, ?_, ?_, ?_, fun j hj => ?_⟩, ?_, ?_⟩
  · have e1 : (fun j => if j = id then some (Value.int .u32 p) else (upOf ns j).map (Value.int .u32)) = fun i => (upOf (ns ++ [(id, p)]) i).map (Value.int .u32) := by
      funext j
      rw [upOf_snoc (by cases hq : upOf ns id <;> simp [hq] at hN ⊢)]
      by_cases e : j = id <;> simp [e]
    rw [e1] at hM7
    simpa using hM7
  · rw [kidsOf_snoc]
    by_cases e : j = p
    · subst e
      simp only [if_true] at hv ⊢
      cases hv
      have h7 := (hO5.kept hG6 (.inr (hk5.not_row hO5))).kept hG7 (.inr (hu5.not_row hO5))
      simpa [U32] using h7
    · have e' : ¬ p = j := fun h => e h.symm
      simp only [e, e', if_false, List.append_nil] at hv ⊢
      have ho := h.own j v hv
      have hap : v.ownBlock = none ∨ v.ownBlock ≠ v0.ownBlock := by
        cases hfp : fk p with
        | none =>
          rw [hfp] at hv0
          subst hv0
          cases hb : v.ownBlock with
          | none => exact .inl rfl
          | some g => exact .inr (by simp [Value.ownBlock])
        | some v' =>
          rw [hfp] at hv0
          subst hv0
          exact h.apart j p v v' hv hfp e
      exact (((ho.drew.alloc o).kept hG5 hap).kept hG6 (.inr (h.far j v hv).1)).kept hG7 (.inr (h.far j v hv).2)
  · rw [kidsOf_snoc]
    by_cases e : j = p
    · subst e
      simp at hj
    · have e' : ¬ p = j := fun h => e h.symm
      simp only [e, e', if_false, List.append_nil] at hj ⊢
      exact h.nil j hj
  · have := h.room
    simp only [List.length_append, List.length_cons, List.length_nil]
    split <;> omega
  · simp only [List.length_append, List.length_cons, List.length_nil]
    omega
  · intro q hq
    rcases List.mem_append.1 hq with hq | hq
    · exact h.ok q hq
    · simp only [List.mem_cons, List.not_mem_nil, or_false] at hq
      subst hq
      exact ⟨hid, hp⟩
  · have h1 : hasN ns j = true := by
      by_cases e : j = p
      · rw [e]; exact hhp
      · exact h.keys j (by simpa [e] using hj)
    unfold hasN at h1 ⊢
    rw [upOf_snoc (by cases hq : upOf ns id <;> simp [hq] at hN ⊢)]
    by_cases e : j = id
    · simp [e]
    · rw [if_neg e]; exact h1
  · have h1 : Below base w (D.drew.alloc o) := hB.trans ((bal (bre D).drew o).mono hl.1)
    exact ((h1.grown hG5 (by omega) (own_ge hrow)).grown hG6 (by have := hG5.size; omega) (fun g e => by cases e; exact h.lok)).grown hG7 (by have := hG5.size; have := hG6.size; omega) (fun g e => by cases e; exact h.lou)
  · intro g cs hg
    have h0 : Blk (D.drew.alloc o) g 37 cs := (hBl g cs hg).drewT.alloc o
    have h1 : some g ≠ v0.ownBlock := fun e => by
      rcases (hrow.drew.alloc o).2 with ⟨rfl, _⟩ | ⟨g', cap, cur, rfl, _, hg', _⟩
      · cases e
      · injection e with e
        subst e
        unfold Blk at h0
        rw [hg'] at h0
        injection h0 with h0
        injection h0 with _ h0 _
        cases h0
    have h5 := h0.grown hG5 h1
    have h6 := h5.grown hG6 (fun e => by
      injection e with e
      subst e
      obtain ⟨es, cl, hb⟩ := hk5.obj
      unfold Blk at h5
      rw [hb] at h5
      cases h5)
    exact h6.grown hG7 (fun e => by
      injection e with e
      subst e
      obtain ⟨es, cl, hb⟩ := hu5.obj
      unfold Blk at h5
      rw [hb] at h5
      cases h5)

set_option maxRecDepth 100000 in
set_option maxHeartbeats 4000000 in
theorem put_any (base : Nat) (ns : Nodes) (kb ub nk : Nat) (fk : Int → Option Value) (id p : Int) (w : World) (hid : 0 ≤ id ∧ id ≤ 4294967295) (hp : 0 ≤ p ∧ p ≤ 4294967295) (h : TwinIs w base ns kb ub nk fk) (hn : ns.length + 1 ≤ 1000) (hu : upOf ns id = none) (hhp : hasN ns p = true) (hb : base ≤ w.heap.size) :
    Calls Tryz.prog 139 #[.agg #[.map (some kb), .map (some ub)], .int .u32 id, .int .u32 p] w fun e w' => e = .returned (.tuple #[]) ∧ (∃ nk' fk', TreeOwn w' base (ns ++ [(id, p)]) kb ub nk' fk') ∧ Below base w w' ∧ ∀ g cs, Blk w g 37 cs → Blk w' g 37 cs := by
  obtain ⟨i0, hi0, hz0, hz1, hz2⟩ := info_parts Tryz.infoU
  have hkl := kids_len h.few p
  have hnk : nk ≤ 1001 := by
    have := h.room
    omega
  have hv9 : some w.heap.size ≠ ((fk p).getD (.slice none 0 0)).ownBlock := fun e => by
    have := ((h.row p).lt _ e.symm).2
    omega
  obtain ⟨v0, hv0⟩ : ∃ v0, (fk p).getD (.slice none 0 0) = v0 := ⟨_, rfl⟩
  have ho0 := (h.alloc (.cells #[.map (some kb), .map (some ub)] 37)).row p
  rw [hv0] at hv9 ho0
  have hT := h.alloc (.cells #[.map (some kb), .map (some ub)] 37)
  have BO := Blk.new w 37 #[.map (some kb), .map (some ub)]
  have hB := (bal (bre w) (.cells #[.map (some kb), .map (some ub)] 37)).mono hb
  have hsD : (w.alloc (.cells #[.map (some kb), .map (some ub)] 37)).heap.size = w.heap.size + 1 := by simp
  have HV0 := Lib.hid hv0
  have HWP := Lib.hid (u32_wf hp)
  have HWI := Lib.hid (u32_wf hid)
  have HNE := Lib.hid h.ne
  have HP := Lib.hid hp
  have HI := Lib.hid hid
  have HNU := Lib.hid (show ((upOf ns id).map (Value.int .u32)).isSome = false by rw [hu]; rfl)
  have hlk := h.lok
  have hkw := h.kids.lt
  have huw := h.up.lt
  have hlu := h.lou
  have HHP := Lib.hid hhp
  clear h hv0 hhp
  go_enter Tryz.func139, Tryz.ntmps139
  go_upto_region 1 with fail
  have hbl : ∀ g cs, Blk w g 37 cs → Blk (w.alloc (.cells #[.map (some kb), .map (some ub)] 37)) g 37 cs := fun g cs h => h.alloc _
  obtain ⟨D, hD⟩ : ∃ D, w.alloc (.cells #[.map (some kb), .map (some ub)] 37) = D := ⟨_, rfl⟩
  rw [hD] at hT BO hB hsD ho0 hbl ⊢
  have hbD : base ≤ D.heap.size := by omega
  clear hD hsD
  have HFAR := Lib.hid (⟨hT.kids.not_row ho0, hT.up.not_row ho0⟩ : v0.ownBlock ≠ some kb ∧ v0.ownBlock ≠ some ub)
  have HKB := Lib.hid hT.kids
  have HUB := Lib.hid hT.up
  have OV0 := Lib.hid ho0
  have O9 := Lib.hid (ho0.drew.alloc (.cells #[.int .u32 id] 48))
  have HT := Lib.hid hT
  have HB := Lib.hid hB
  have c0 := BO.cellV (i := 0) (v := .map (some kb)) rfl
  have HBL := Lib.hid hbl
  clear hT ho0 hB hbl
  refine wp_region_noPanic ?_
  refine wp_region_held_drew (S := (fun w' => w'.cell? ⟨w.heap.size, 0, none⟩ = some (.map (some kb)))) (by kernel_rfl) ?_ (fun hHeld => ?_)
  · (try dsimp only)
    exact c0
  refine Tr.take_at 0 6 (.pointer (some ⟨w.heap.size, 0, none⟩)) rfl rfl (by kernel_rfl) (by kernel_rfl) (by kernel_rfl) (fun _ _ _ h => h) (Or.inl ⟨by rfl, ?_⟩) (by assumption) ?_
  · intro W0 hSw
    (try dsimp only at hSw)
    go_simp
  simp only [List.set_cons_zero, List.set_cons_succ]
  refine Tr.take_at 1 7 (.map (some kb)) rfl rfl (by kernel_rfl) (by kernel_rfl) (by kernel_rfl) (fun _ _ _ h => h) (Or.inl ⟨by rfl, ?_⟩) (by assumption) ?_
  · intro W0 hSw
    (try dsimp only at hSw)
    go_simp
  simp only [List.set_cons_zero, List.set_cons_succ]
  refine Tr.take_at 2 8 (.int .u32 p) rfl rfl (by kernel_rfl) (by kernel_rfl) (by kernel_rfl) (fun _ _ _ h => h) (Or.inl ⟨by rfl, ?_⟩) (by assumption) ?_
  · intro W0 hSw
    (try dsimp only at hSw)
    go_simp
  simp only [List.set_cons_zero, List.set_cons_succ]
  refine Tr.take_at 3 9 (.pointer (some ⟨w.heap.size, 0, none⟩)) rfl rfl (by kernel_rfl) (by kernel_rfl) (by kernel_rfl) (fun _ _ _ h => h) (Or.inl ⟨by rfl, ?_⟩) (by assumption) ?_
  · intro W0 hSw
    (try dsimp only at hSw)
    go_simp
  simp only [List.set_cons_zero, List.set_cons_succ]
  refine Tr.take_at 4 10 (.map (some kb)) rfl rfl (by kernel_rfl) (by kernel_rfl) (by kernel_rfl) (fun _ _ _ h => h) (Or.inl ⟨by rfl, ?_⟩) (by assumption) ?_
  · intro W0 hSw
    (try dsimp only at hSw)
    go_simp
  simp only [List.set_cons_zero, List.set_cons_succ]
  refine Tr.take_at 5 11 (.int .u32 p) rfl rfl (by kernel_rfl) (by kernel_rfl) (by kernel_rfl) (fun _ _ _ h => h) (Or.inl ⟨by rfl, ?_⟩) (by assumption) ?_
  · intro W0 hSw
    (try dsimp only at hSw)
    go_simp
  simp only [List.set_cons_zero, List.set_cons_succ]
  refine Tr.take_at 7 13 (.int .u32 id) rfl rfl (by kernel_rfl) (by kernel_rfl) (by kernel_rfl) (fun _ _ _ h => h) (Or.inl ⟨by rfl, ?_⟩) (by assumption) ?_
  · intro W0 hSw
    (try dsimp only at hSw)
    go_simp
  simp only [List.set_cons_zero, List.set_cons_succ]
  refine wpAnyH_ready (rs := [6, 8]) (by kernel_rfl) (by simp) ?_
  refine AllReadyH.cons rfl (fun K hK => ?_) (AllReadyH.cons rfl (fun K hK => ?_) AllReadyH.nil)
  · refine Tr.wanted_plain rfl ?_
    refine map_look_op _ _ 34 rfl 48 43 .u32 Tryz.underlying48 Tryz.underlying34 (.slice none 0 0) (Tryz.zeroIDs _) kb nk fk rfl HKB.out.drew p rfl HWP.out ?_
    rw [HV0.out]
    refine hK.out _ _ ?_ (fun hHeld => ?_)
    · (try dsimp only)
      exact c0
    clear hK K
    refine wpAnyH_ready (rs := [8]) (by kernel_rfl) (by simp) ?_
    refine AllReadyH.cons rfl (fun K hK => ?_) AllReadyH.nil
    go_simp
    refine hK.out _ _ ?_ (fun hHeld => ?_)
    · (try dsimp only)
      exact (BO.drewT.alloc (.cells #[.int .u32 id] 48)).cellV (i := 0) (v := .map (some kb)) rfl
    clear hK K
    refine wpAnyH_ready (rs := [9]) (by kernel_rfl) (by simp) ?_
    refine AllReadyH.cons rfl (fun K hK => ?_) AllReadyH.nil
    have hsz1 : base ≤ (D.drew.alloc (.cells #[.int .u32 id] 48)).heap.size := by
      have : D.drew.heap.size = D.heap.size := rfl
      rw [World.size_alloc, this]
      omega
    refine Tr.wanted_plain rfl ?_
    refine wp_append_own _ _ _ 43 rfl base 48 i0 _ 1 4 Tryz.underlying43 hi0 hz0 hz1 hz2 rfl (by decide) _ _ _ rfl O9.out ⟨D.heap.size, 0, none⟩ 1 1 [.int .u32 id] rfl rfl (one_new _ _ _) (by simp [Value.oneCell']) (by simp only [maxLen]; omega) (by omega) hsz1 ?_
    intro v5 w5 hown5 hg5 _
    have HO5 := Lib.hid hown5
    have HG5 := Lib.hid hg5
    have BO5 := (BO.drewT.alloc (.cells #[.int .u32 id] 48)).grown hg5 hv9
    clear hown5 hg5
    refine hK.out _ _ ?_ (fun hHeld => ?_)
    · (try dsimp only)
      exact BO5.cellV (i := 0) (v := .map (some kb)) rfl
    clear hK K
    refine wpAnyH_ready (rs := [10]) (by kernel_rfl) (by simp) ?_
    refine AllReadyH.cons rfl (fun K hK => ?_) AllReadyH.nil
    refine Tr.wanted_plain rfl ?_
    refine map_put_op _ _ _ 34 rfl 48 43 .u32 Tryz.underlying48 Tryz.underlying34 kb nk fk rfl ((HKB.out.drew.alloc (.cells #[.int .u32 id] 48)).kept HG5.out (fun e => HFAR.out.1 e.symm)) (by simp only [maxLen]; omega) p v5 rfl rfl HWP.out ?_
    intro w6 hm6 hg6
    have HM6 := Lib.hid hm6
    have HG6 := Lib.hid hg6
    have BO6 := BO5.grown hg6 (by intro e; injection e with e; omega)
    clear hm6 hg6
    refine hK.out _ _ ?_ (fun hHeld => ?_)
    · (try dsimp only)
      exact BO6.cellV (i := 0) (v := .map (some kb)) rfl
    clear hK K
    refine wpAnyH_done (by kernel_rfl) ?_ _
    refine NoPanic.normal ?_
    have c1 := BO6.cellV (i := 0) (v := .map (some kb)) rfl
    have c2 := BO6.cellV (i := 1) (v := .map (some ub)) rfl
    have hu6 := ((HUB.out.drew.alloc (.cells #[.int .u32 id] 48)).kept HG5.out (fun e => HFAR.out.2 e.symm)).kept HG6.out (fun e => HNE.out (Option.some.inj e).symm)
    have HU6 := Lib.hid hu6
    go_wp2_with (at_mapUpdate; refine map_put rfl _ _ _ 35 rfl 48 48 .u32 Tryz.underlying48 Tryz.underlying35 ub ns.length (fun i => (upOf ns i).map (Value.int .u32)) rfl HU6.out (by simp only [maxLen]; omega) id (.int .u32 p) rfl rfl HWI.out ?_; dsimp only; rw [HNU.out]; intro w7 hm7 hg7; have HM7 := Lib.hid hm7; have HG7 := Lib.hid hg7; clear hm7 hg7)
    go_end0
    exact ⟨rfl, put_end HNU.out HP.out ⟨HI.out, rfl⟩ HT.out HB.out HBL.out ⟨by omega, hn⟩ HHP.out HV0.out HO5.out HG5.out HM6.out HG6.out HM7.out HG7.out⟩
  · go_simp
    refine hK.out _ _ ?_ (fun hHeld => ?_)
    · (try dsimp only)
      exact (BO.drewT.alloc (.cells #[.int .u32 id] 48)).cellV (i := 0) (v := .map (some kb)) rfl
    clear hK K
    refine wpAnyH_ready (rs := [6]) (by kernel_rfl) (by simp) ?_
    refine AllReadyH.cons rfl (fun K hK => ?_) AllReadyH.nil
    refine Tr.wanted_plain rfl ?_
    refine map_look_op _ _ 34 rfl 48 43 .u32 Tryz.underlying48 Tryz.underlying34 (.slice none 0 0) (Tryz.zeroIDs _) kb nk fk rfl (HKB.out.drew.alloc (.cells #[.int .u32 id] 48)) p rfl HWP.out ?_
    rw [HV0.out]
    refine hK.out _ _ ?_ (fun hHeld => ?_)
    · (try dsimp only)
      exact (BO.drewT.alloc (.cells #[.int .u32 id] 48)).cellV (i := 0) (v := .map (some kb)) rfl
    clear hK K
    refine wpAnyH_ready (rs := [9]) (by kernel_rfl) (by simp) ?_
    refine AllReadyH.cons rfl (fun K hK => ?_) AllReadyH.nil
    have hsz1 : base ≤ (D.drew.alloc (.cells #[.int .u32 id] 48)).heap.size := by
      have : D.drew.heap.size = D.heap.size := rfl
      rw [World.size_alloc, this]
      omega
    refine Tr.wanted_plain rfl ?_
    refine wp_append_own _ _ _ 43 rfl base 48 i0 _ 1 4 Tryz.underlying43 hi0 hz0 hz1 hz2 rfl (by decide) _ _ _ rfl O9.out ⟨D.heap.size, 0, none⟩ 1 1 [.int .u32 id] rfl rfl (one_new _ _ _) (by simp [Value.oneCell']) (by simp only [maxLen]; omega) (by omega) hsz1 ?_
    intro v5 w5 hown5 hg5 _
    have HO5 := Lib.hid hown5
    have HG5 := Lib.hid hg5
    have BO5 := (BO.drewT.alloc (.cells #[.int .u32 id] 48)).grown hg5 hv9
    clear hown5 hg5
    refine hK.out _ _ ?_ (fun hHeld => ?_)
    · (try dsimp only)
      exact BO5.cellV (i := 0) (v := .map (some kb)) rfl
    clear hK K
    refine wpAnyH_ready (rs := [10]) (by kernel_rfl) (by simp) ?_
    refine AllReadyH.cons rfl (fun K hK => ?_) AllReadyH.nil
    refine Tr.wanted_plain rfl ?_
    refine map_put_op _ _ _ 34 rfl 48 43 .u32 Tryz.underlying48 Tryz.underlying34 kb nk fk rfl ((HKB.out.drew.alloc (.cells #[.int .u32 id] 48)).kept HG5.out (fun e => HFAR.out.1 e.symm)) (by simp only [maxLen]; omega) p v5 rfl rfl HWP.out ?_
    intro w6 hm6 hg6
    have HM6 := Lib.hid hm6
    have HG6 := Lib.hid hg6
    have BO6 := BO5.grown hg6 (by intro e; injection e with e; omega)
    clear hm6 hg6
    refine hK.out _ _ ?_ (fun hHeld => ?_)
    · (try dsimp only)
      exact BO6.cellV (i := 0) (v := .map (some kb)) rfl
    clear hK K
    refine wpAnyH_done (by kernel_rfl) ?_ _
    refine NoPanic.normal ?_
    have c1 := BO6.cellV (i := 0) (v := .map (some kb)) rfl
    have c2 := BO6.cellV (i := 1) (v := .map (some ub)) rfl
    have hu6 := ((HUB.out.drew.alloc (.cells #[.int .u32 id] 48)).kept HG5.out (fun e => HFAR.out.2 e.symm)).kept HG6.out (fun e => HNE.out (Option.some.inj e).symm)
    have HU6 := Lib.hid hu6
    go_wp2_with (at_mapUpdate; refine map_put rfl _ _ _ 35 rfl 48 48 .u32 Tryz.underlying48 Tryz.underlying35 ub ns.length (fun i => (upOf ns i).map (Value.int .u32)) rfl HU6.out (by simp only [maxLen]; omega) id (.int .u32 p) rfl rfl HWI.out ?_; dsimp only; rw [HNU.out]; intro w7 hm7 hg7; have HM7 := Lib.hid hm7; have HG7 := Lib.hid hg7; clear hm7 hg7)
    go_end0
    exact ⟨rfl, put_end HNU.out HP.out ⟨HI.out, rfl⟩ HT.out HB.out HBL.out ⟨by omega, hn⟩ HHP.out HV0.out HO5.out HG5.out HM6.out HG6.out HM7.out HG7.out⟩

end Go.Proofs.YtdaedkolpfkdjaaGreat
end
