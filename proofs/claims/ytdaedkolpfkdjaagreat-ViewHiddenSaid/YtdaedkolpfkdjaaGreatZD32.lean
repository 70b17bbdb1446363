/-
  The walk of a tree's take: a window's place among its parent's kids goes.
  Plainly: a window that isn't mapped might as well not be there; a window that is raised shows no less.
-/
import Derived.Test.YtdaedkolpfkdjaaGreatZD31
import Derived.Test.YtdaedkolpfkdjaaGreatZD30
section
namespace Go.Proofs.YtdaedkolpfkdjaaGreat
open Go.RowKit Go.Maps Go.Shelf

set_option maxRecDepth 100000 in
set_option maxHeartbeats 4000000 in
theorem take_any (base kb ub nk g n c k : Nat) (fk : Int → Option Value) (ns : Nodes) (p id : Int) (tl : List Value) (w : World) (hKB : MapIs Tryz.prog 48 .u32 w kb nk fk) (hUB : MapIs Tryz.prog 48 .u32 w ub ns.length (fun i => (upOf ns i).map (Value.int .u32))) (hnk : nk ≤ 2000)
    (hup : upOf ns id = some p) (hid : 0 ≤ id ∧ id ≤ 4294967295) (hp : 0 ≤ p ∧ p ≤ 4294967295) (hfk : fk p = some (.slice (some ⟨g, 0, none⟩) n c)) (hl : (kidsOf ns p).length = n) (hn : n ≤ 2000) (hnc : n ≤ c) (hb : Blk w g 48 (U32 (kidsOf ns p) ++ tl).toArray) (hk : (kidsOf ns p)[k]? = some id) (hf : ∀ j, j ≠ k → (kidsOf ns p)[j]? ≠ some id) (hne : g ≠ kb) :
    Calls Tryz.prog 85 #[.agg #[.map (some kb), .map (some ub)], .int .u32 id] w fun e w' => e = .returned (.tuple #[]) ∧ MapIs Tryz.prog 48 .u32 w' kb nk (fun j => if j = p then some (.slice (some ⟨g, 0, none⟩) (n - 1) c) else fk j) ∧ (∃ tl', tl'.length = tl.length + 1 ∧ Blk w' g 48 (U32 ((kidsOf ns p).eraseIdx k) ++ tl').toArray) ∧ ∃ X, w.grownBy X (some g) ∧ X.grownBy w' (some kb) := by
  have xB := bal (bal (bre w) (.cells #[.map (some kb), .map (some ub)] 37)) (.cells #[.int .u32 id] 48)
  have xK2 := (Blk.new w 37 #[.map (some kb), .map (some ub)]).alloc (.cells #[.int .u32 id] 48)
  have xK3 := blk_new2 w (.cells #[.map (some kb), .map (some ub)] 37) 48 #[.int .u32 id]
  have HWF := Lib.hid (u32_wf hid)
  have HWP := Lib.hid (u32_wf hp)
  have HUP := Lib.hid (show (Option.map (Value.int .u32) (upOf ns id)).getD (.int .u32 0) = .int .u32 p by rw [hup]; rfl)
  have HFK := Lib.hid hfk
  have hgl := hb.lt
  have hkl := hKB.lt
  go_enter Tryz.func85, Tryz.ntmps85
  go_upto_region 1 with fail
  obtain ⟨X, hX⟩ : ∃ X, (w.alloc (.cells #[.map (some kb), .map (some ub)] 37)).alloc (.cells #[.int .u32 id] 48) = X := ⟨_, rfl⟩
  have HKB := Lib.hid (show MapIs Tryz.prog 48 .u32 X kb nk fk by rw [← hX]; exact hKB.below xB)
  have HUB := Lib.hid (show MapIs Tryz.prog 48 .u32 X ub ns.length (fun i => (upOf ns i).map (Value.int .u32)) by rw [← hX]; exact hUB.below xB)
  have HBG := Lib.hid (show Blk X g 48 (U32 (kidsOf ns p) ++ tl).toArray by rw [← hX]; exact hb.belowS xB)
  rw [hX] at xB xK2 xK3 ⊢
  have HB := Lib.hid xB
  have K2 := Lib.hid xK2
  have K3 := Lib.hid xK3
  have HL := Lib.hid hl
  have HK := Lib.hid hk
  have HF := Lib.hid hf
  clear xB xK2 xK3 hX hKB hUB hb hup hl hk hf hfk
  have c0 := K2.out.cellV (i := 0) (v := .map (some kb)) rfl
  have c1 := K2.out.cellV (i := 1) (v := .map (some ub)) rfl
  have c3 := K3.out.cellV (i := 0) (v := .int .u32 id) rfl
  go_upto_region 2 with (at_lookup; refine opt_look rfl _ _ 35 rfl 48 48 .u32 Tryz.underlying48 Tryz.underlying35 (.int .u32 0) (Tryz.zeroID _) (some ub) ns.length (fun i => (upOf ns i).map (Value.int .u32)) rfl (.inr ⟨_, rfl, HUB.out⟩) id rfl HWF.out ?_; rw [HUP.out])
  clear c0 c1 c3
  have HBW := Lib.hid (show Below X.heap.size X X.drew from (bre X).drew)
  replace K2 := Lib.hid (K2.out.belowS (bre X).drew)
  replace K3 := Lib.hid (K3.out.belowS (bre X).drew)
  replace HBG := Lib.hid (HBG.out.belowS (bre X).drew)
  replace HKB := Lib.hid (HKB.out.below (bre X).drew)
  refine wp_region_noPanic ?_
  refine wp_region_held_drew (S := (fun w' => w'.cell? ⟨w.heap.size, 0, none⟩ = some (.map (some kb)))) (by kernel_rfl) ?_ (fun hHeld => ?_)
  · (try dsimp only)
    exact K2.out.cellV (i := 0) rfl
  refine Tr.take_at 0 9 (.pointer (some ⟨w.heap.size, 0, none⟩)) rfl rfl (by kernel_rfl) (by kernel_rfl) (by kernel_rfl) (fun _ _ _ h => h) (Or.inl ⟨by rfl, ?_⟩) (by assumption) ?_
  · intro W0 hSw
    (try dsimp only at hSw)
    go_simp
  simp only [List.set_cons_zero, List.set_cons_succ]
  refine Tr.take_at 1 10 (.map (some kb)) rfl rfl (by kernel_rfl) (by kernel_rfl) (by kernel_rfl) (fun _ _ _ h => h) (Or.inl ⟨by rfl, ?_⟩) (by assumption) ?_
  · intro W0 hSw
    (try dsimp only at hSw)
    go_simp
  simp only [List.set_cons_zero, List.set_cons_succ]
  refine Tr.take_at 2 11 (.int .u32 p) rfl rfl (by kernel_rfl) (by kernel_rfl) (by kernel_rfl) (fun _ _ _ h => h) (Or.inl ⟨by rfl, ?_⟩) (by assumption) ?_
  · intro W0 hSw
    (try dsimp only at hSw)
    go_simp
  simp only [List.set_cons_zero, List.set_cons_succ]
  refine Tr.take_at 3 12 (.pointer (some ⟨w.heap.size, 0, none⟩)) rfl rfl (by kernel_rfl) (by kernel_rfl) (by kernel_rfl) (fun _ _ _ h => h) (Or.inl ⟨by rfl, ?_⟩) (by assumption) ?_
  · intro W0 hSw
    (try dsimp only at hSw)
    go_simp
  simp only [List.set_cons_zero, List.set_cons_succ]
  refine Tr.take_at 4 13 (.map (some kb)) rfl rfl (by kernel_rfl) (by kernel_rfl) (by kernel_rfl) (fun _ _ _ h => h) (Or.inl ⟨by rfl, ?_⟩) (by assumption) ?_
  · intro W0 hSw
    (try dsimp only at hSw)
    go_simp
  simp only [List.set_cons_zero, List.set_cons_succ]
  refine Tr.take_at 5 14 (.int .u32 p) rfl rfl (by kernel_rfl) (by kernel_rfl) (by kernel_rfl) (fun _ _ _ h => h) (Or.inl ⟨by rfl, ?_⟩) (by assumption) ?_
  · intro W0 hSw
    (try dsimp only at hSw)
    go_simp
  simp only [List.set_cons_zero, List.set_cons_succ]
  refine Tr.take_at 7 16 (.func (.func 145) #[] #[.pointer (some ⟨w.heap.size + 1, 0, none⟩)]) rfl rfl (by kernel_rfl) (by kernel_rfl) (by kernel_rfl) (fun _ _ _ h => h) (Or.inl ⟨by rfl, ?_⟩) (by assumption) ?_
  · intro W0 hSw
    (try dsimp only at hSw)
    go_simp
  simp only [List.set_cons_zero, List.set_cons_succ]
  refine wpAnyH_ready (rs := [6]) (by kernel_rfl) (by simp) ?_
  refine AllReadyH.cons rfl (fun K hK => ?_) AllReadyH.nil
  refine Tr.wanted_plain rfl ?_
  refine map_look_op _ _ 34 rfl 48 43 .u32 Tryz.underlying48 Tryz.underlying34 (.slice none 0 0) (Tryz.zeroIDs _) kb nk fk rfl HKB.out p rfl HWP.out ?_
  rw [HFK.out]
  refine hK.out _ _ ?_ (fun hHeld => ?_)
  · (try dsimp only)
    exact K2.out.cellV (i := 0) rfl
  clear hK K
  refine wpAnyH_ready (rs := [8]) (by kernel_rfl) (by simp) ?_
  refine AllReadyH.cons rfl (fun K hK => ?_) AllReadyH.nil
  go_simp
  refine (delID_any 0 g n c k (kidsOf ns p) [] tl id (w.heap.size + 1) _ HL.out hn HBG.out hnc HK.out HF.out (K3.out.cellV (i := 0) rfl) (by omega)).mono ?_
  rintro e w5 ⟨rfl, ⟨tl5, htl, hb5⟩, hg5⟩
  have HG5 := Lib.hid hg5
  have HT5 := Lib.hid htl
  have HB5 := Lib.hid hb5
  replace HKB := Lib.hid (HKB.out.kept hg5 (fun e => by injection e with e; exact hne e.symm))
  replace K2 := Lib.hid (K2.out.grown hg5 (fun e => by injection e with e; omega))
  clear hg5 htl hb5 HBG
  go_simp
  refine hK.out _ _ ?_ (fun hHeld => ?_)
  · (try dsimp only)
    exact K2.out.cellV (i := 0) rfl
  clear hK K
  refine wpAnyH_ready (rs := [9]) (by kernel_rfl) (by simp) ?_
  refine AllReadyH.cons rfl (fun K hK => ?_) AllReadyH.nil
  refine Tr.wanted_plain rfl ?_
  refine map_put_op _ _ _ 34 rfl 48 43 .u32 Tryz.underlying48 Tryz.underlying34 kb nk fk rfl HKB.out (by simp only [maxLen]; omega) p (.slice (some ⟨g, 0, none⟩) (n - 1) c) rfl rfl HWP.out ?_
  intro w6 hm6 hg6
  have HM6 := Lib.hid hm6
  have HG6 := Lib.hid hg6
  replace K2 := Lib.hid (K2.out.grown hg6 (fun e => by injection e with e; omega))
  clear hm6 hg6
  refine hK.out _ _ ?_ (fun hHeld => ?_)
  · (try dsimp only)
    exact K2.out.cellV (i := 0) rfl
  clear hK K
  refine wpAnyH_done (by kernel_rfl) ?_ _
  refine NoPanic.normal ?_
  go_wp2_with fail
  go_end0
  exact ⟨rfl, by have h := HM6.out; rw [show (if (fk p).isSome = true then nk else nk + 1) = nk by rw [HFK.out]; rfl] at h; exact h, ⟨tl5, HT5.out, HB5.out.grown HG6.out (fun e => by injection e with e; exact hne e)⟩, w5, grown_row (grown_of_below HB.out.drew _) HG5.out, HG6.out⟩
end Go.Proofs.YtdaedkolpfkdjaaGreat
end

section
namespace Go.Proofs.YtdaedkolpfkdjaaGreat

section
variable {ns : Nodes} {bx : Int → Option VB}
/-- the topmost window doesn't hang on how deep is asked, if it's deep enough. -/
theorem topF_more (h : TreeOk ns) : ∀ (f g : Nat) (id x y : Int), (belowAt ns id).length ≤ f → (belowAt ns id).length ≤ g → topF ns bx f id x y = topF ns bx g id x y
  | 0, _, id, _, _, h1, _ => by
    rw [below_step h] at h1
    simp at h1
  | f + 1, 0, id, _, _, _, h2 => by
    rw [below_step h] at h2
    simp at h2
  | f + 1, g + 1, id, x, y, h1, h2 => by
    unfold topF
    cases hf : (kidsOf ns id).reverse.find? (hitB bx (orgN ns bx id) x y) with
    | none => rfl
    | some k =>
      have hk := List.mem_of_find?_eq_some hf
      rw [List.mem_reverse] at hk
      exact topF_more h f g k x y (below_lt h hk h1) (below_lt h hk h2)
theorem act_hit {o : Int × Int} {x y k : Int} (h : actB bx k = false) : hitB bx o x y k = false := by
  unfold actB at h
  unfold hitB kidA
  cases hb : bx k with
  | none => rfl
  | some b =>
    rw [hb] at h
    dsimp only at h ⊢
    rw [h]
    rfl
theorem find_drop {α : Type} {p q : α → Bool} : ∀ {l : List α}, (∀ a ∈ l, q a = false → p a = false) → (l.filter q).find? p = l.find? p
  | [], _ => rfl
  | a :: l, h => by
    have ih := find_drop (p := p) (q := q) (l := l) (fun b hb => h b (List.mem_cons_of_mem _ hb))
    rw [List.filter_cons]
    cases hq : q a with
    | true => simp only [if_true, List.find?_cons, ih]
    | false =>
      rw [if_neg (by simp), ih, List.find?_cons, h a (by simp) hq]
/-- a tree without a window, and all below it. -/
def cutN (ns : Nodes) (k : Int) : Nodes := ns.filter fun q => !(belowAt ns k).contains q.1
theorem mem_cutN {k : Int} {q : Int × Int} : q ∈ cutN ns k ↔ q ∈ ns ∧ q.1 ∉ belowAt ns k := by
  unfold cutN
  rw [List.mem_filter]
  simp
theorem cut_up (h : TreeOk ns) {k i : Int} (hi : i ∉ belowAt ns k) : upOf (cutN ns k) i = upOf ns i := by
  have hnd : ((cutN ns k).map (·.1)).Nodup := h.nodup.sublist (List.filter_sublist.map _)
  cases hu : upOf ns i with
  | some p => exact upOf_mem hnd (mem_cutN.2 ⟨upOf_some hu, hi⟩)
  | none =>
    cases hc : upOf (cutN ns k) i with
    | none => rfl
    | some p =>
      have := upOf_mem h.nodup (mem_cutN.1 (upOf_some hc)).1
      rw [hu] at this
      cases this
theorem up_out (h : TreeOk ns) {k i p : Int} (hk : hasN ns k = true) (hi : i ∉ belowAt ns k) (hp : upOf ns i = some p) : p ∉ belowAt ns k := fun hb => by
  rw [below_iff h hk] at hb hi
  rw [(path_step h hp).1] at hi
  exact hi (List.mem_cons_of_mem _ hb)
theorem root_out (h : TreeOk ns) {k : Int} (hk : hasN ns k = true) (h1 : k ≠ 1) : (1 : Int) ∉ belowAt ns k := fun hb => by
  rw [below_iff h hk, path_root h] at hb
  exact h1 (List.mem_singleton.1 hb)
theorem kid_out (h : TreeOk ns) {k i j : Int} (hk : hasN ns k = true) (hi : i ∉ belowAt ns k) (hj : j ∈ kidsOf ns i) : j ∈ belowAt ns k ↔ j = k := by
  have hp := upOf_mem h.nodup (kids_mem.1 hj)
  rw [below_iff h hk] at hi ⊢
  rw [(path_step h hp).1, List.mem_cons]
  constructor
  · rintro (e | e)
    · exact e.symm
    · exact absurd e hi
  · exact fun e => .inl e.symm
theorem cut_kids (h : TreeOk ns) {k i : Int} (hk : hasN ns k = true) (hi : i ∉ belowAt ns k) : kidsOf (cutN ns k) i = (kidsOf ns i).filter fun j => decide (j ≠ k) := by
  unfold kidsOf cutN
  rw [List.filter_filter, List.filter_map, List.filter_filter]
  congr 1
  refine List.filter_congr (fun q hq => ?_)
  cases e : q.2 == i with
  | false => simp
  | true =>
    rw [beq_iff_eq] at e
    have hj : q.1 ∈ kidsOf ns i := kids_mem.2 (by rw [← e]; exact hq)
    have := kid_out h hk hi hj
    simp only [Bool.true_and, Bool.and_true, Function.comp]
    rw [Bool.eq_iff_iff]
    simp [this]
theorem cut_ok (h : TreeOk ns) {k : Int} (hk : hasN ns k = true) (h1 : k ≠ 1) : TreeOk (cutN ns k) where
  nodup := h.nodup.sublist (List.filter_sublist.map _)
  noroot := fun p hp => h.noroot p (mem_cutN.1 hp).1
  closed := fun p hp => by
    obtain ⟨hm, ho⟩ := mem_cutN.1 hp
    have hu := upOf_mem h.nodup (show (p.1, p.2) ∈ ns from hm)
    have hpo := up_out h hk ho hu
    have hc := h.closed p hm
    rw [hasN_iff] at hc ⊢
    rw [cut_up h hpo]
    exact hc
  ranked := by
    obtain ⟨rk, hr, hk'⟩ := h.ranked
    -- ranks by how many windows of the cut tree lie on a way: the path's length serves
    refine ⟨fun i => (pathN (ns := ns) i).length - 1, ?_, fun p hp => ?_⟩
    · dsimp only; rw [path_root h]; rfl
    · obtain ⟨hm, ho⟩ := mem_cutN.1 hp
      have hu := upOf_mem h.nodup (show (p.1, p.2) ∈ ns from hm)
      have hst := path_step h hu
      have hpl : 0 < (pathN ns p.2).length := List.length_pos_iff.2 (path_ne h hst.2.1)
      constructor
      · dsimp only
        rw [hst.1, List.length_cons]
        omega
      · dsimp only
        -- the path's windows but the root are nodes of the cut tree, each once
        have key : ∀ id, hasN ns id = true → id ∉ belowAt ns k → ∃ l : List Int, pathN ns id = l ++ [1] ∧ l.Nodup ∧ (∀ a ∈ l, a ∈ (cutN ns k).map (·.1)) ∧ ∀ a ∈ l, rk a ≤ rk id := by
          intro id hid
          refine path_ind h (P := fun id => id ∉ belowAt ns k → ∃ l : List Int, pathN ns id = l ++ [1] ∧ l.Nodup ∧ (∀ a ∈ l, a ∈ (cutN ns k).map (·.1)) ∧ ∀ a ∈ l, rk a ≤ rk id) ?_ ?_ id hid
          · intro _
            exact ⟨[], by rw [path_root h]; rfl, List.nodup_nil, by simp, by simp⟩
          · intro i q hq ih hi
            obtain ⟨l, e1, e2, e3, e4⟩ := ih (up_out h hk hi hq)
            have hlt := (hk' _ (upOf_some hq)).1
            dsimp only at hlt
            refine ⟨i :: l, by rw [(path_step h hq).1, e1]; rfl, List.nodup_cons.2 ⟨fun hm => ?_, e2⟩, ?_, ?_⟩
            · have := e4 i hm; omega
            · intro a ha
              rcases List.mem_cons.1 ha with rfl | ha
              · exact List.mem_map.2 ⟨(a, q), mem_cutN.2 ⟨upOf_some hq, hi⟩, rfl⟩
              · exact e3 a ha
            · intro a ha
              rcases List.mem_cons.1 ha with rfl | ha
              · exact Nat.le_refl _
              · have := e4 a ha; omega
        have hh : hasN ns p.1 = true := hasN_iff.2 (.inr ⟨_, hu⟩)
        obtain ⟨l, e1, e2, e3, _⟩ := key p.1 hh ho
        have := nodup_len e2 e3
        rw [e1]
        simpa using this
theorem cut_has (h : TreeOk ns) {k i : Int} (hi : i ∉ belowAt ns k) : hasN (cutN ns k) i = hasN ns i := by
  unfold hasN
  rw [cut_up h hi]
theorem cut_path (h : TreeOk ns) {k : Int} (hk : hasN ns k = true) (h1 : k ≠ 1) : ∀ i, hasN ns i = true → i ∉ belowAt ns k → pathN (cutN ns k) i = pathN ns i := by
  intro i hi
  refine path_ind h (P := fun i => i ∉ belowAt ns k → pathN (cutN ns k) i = pathN ns i) ?_ ?_ i hi
  · intro _
    rw [path_root h, path_root (cut_ok h hk h1)]
  · intro j p hp ih hj
    have hpo := up_out h hk hj hp
    rw [(path_step h hp).1, (path_step (cut_ok h hk h1) (by rw [cut_up h hj]; exact hp)).1, ih hpo]
theorem cut_vw (h : TreeOk ns) {k : Int} (hk : hasN ns k = true) (h1 : k ≠ 1) {i : Int} (hi : hasN ns i = true) (ho : i ∉ belowAt ns k) : vw (cutN ns k) bx i = vw ns bx i := by
  unfold vw
  rw [cut_path h hk h1 i hi ho]
theorem cut_org (h : TreeOk ns) {k : Int} (hk : hasN ns k = true) (h1 : k ≠ 1) {i : Int} (hi : hasN ns i = true) (ho : i ∉ belowAt ns k) : orgN (cutN ns k) bx i = orgN ns bx i := by
  unfold orgN
  rw [cut_path h hk h1 i hi ho]
theorem kid_has (h : TreeOk ns) {i j : Int} (hj : j ∈ kidsOf ns i) : hasN ns j = true := hasN_iff.2 (.inr ⟨i, upOf_mem h.nodup (kids_mem.1 hj)⟩)
theorem cut_ord (h : TreeOk ns) {k : Int} (hk : hasN ns k = true) (h1 : k ≠ 1) (hM : actB bx k = false) : ordW (cutN ns k) bx 1 = ordW ns bx 1 := by
  have key : ∀ i, hasN ns i = true → i ∉ belowAt ns k → vw ns bx i = true → ordW (cutN ns k) bx i = ordW ns bx i := by
    refine below_ind h (P := fun i => hasN ns i = true → i ∉ belowAt ns k → vw ns bx i = true → ordW (cutN ns k) bx i = ordW ns bx i) ?_
    intro i ih hi ho hv
    rw [ord_step h hv, ord_step (cut_ok h hk h1) (by rw [cut_vw h hk h1 hi ho]; exact hv), cut_kids h hk ho]
    congr 1
    have e : ∀ (l : List Int), (∀ j ∈ l, j ∈ kidsOf ns i) → (l.filter fun j => decide (j ≠ k)).flatMap (fun j => if actB bx j then ordW (cutN ns k) bx j else []) = l.flatMap (fun j => if actB bx j then ordW ns bx j else []) := by
      intro l
      induction l with
      | nil => intro _; rfl
      | cons j l ihl =>
        intro hl
        have hl2 := ihl (fun q hq => hl q (List.mem_cons_of_mem _ hq))
        rw [List.filter_cons]
        by_cases e : j = k
        · subst e
          rw [if_neg (by simp), hl2, List.flatMap_cons, hM]
          rfl
        · rw [if_pos (by simpa using e), List.flatMap_cons, List.flatMap_cons, hl2]
          congr 1
          cases ha : actB bx j with
          | false => rfl
          | true =>
            have hj := hl j (by simp)
            rw [if_pos rfl, if_pos rfl]
            exact ih j hj (kid_has h hj) (fun hb => e ((kid_out h hk ho hj).1 hb)) (by rw [vw_kid h (upOf_mem h.nodup (kids_mem.1 hj)), ha, hv]; rfl)
    exact e _ (fun _ hj => hj)
  exact key 1 (hasN_root ns) (root_out h hk h1) (vw_root h)
theorem cut_below_len (h : TreeOk ns) {k : Int} (hk : hasN ns k = true) (h1 : k ≠ 1) : ∀ i, i ∉ belowAt ns k → (belowAt (cutN ns k) i).length ≤ (belowAt ns i).length := by
  refine below_ind h (P := fun i => i ∉ belowAt ns k → (belowAt (cutN ns k) i).length ≤ (belowAt ns i).length) ?_
  intro i ih ho
  rw [below_step h, below_step (cut_ok h hk h1), cut_kids h hk ho]
  have e : ∀ (l : List Int), (∀ j ∈ l, j ∈ kidsOf ns i) → ((l.filter fun j => decide (j ≠ k)).flatMap (belowAt (cutN ns k))).length ≤ (l.flatMap (belowAt ns)).length := by
    intro l
    induction l with
    | nil => intro _; exact Nat.le_refl _
    | cons j l ihl =>
      intro hl
      have hl2 := ihl (fun q hq => hl q (List.mem_cons_of_mem _ hq))
      rw [List.filter_cons]
      by_cases e : j = k
      · rw [if_neg (by simpa using e), List.flatMap_cons, List.length_append]
        omega
      · have hj := hl j (by simp)
        have := ih j hj (fun hb => e ((kid_out h hk ho hj).1 hb))
        rw [if_pos (by simpa using e), List.flatMap_cons, List.flatMap_cons, List.length_append, List.length_append]
        omega
  have := e _ (fun _ hj => hj)
  simp only [List.length_cons]
  omega
theorem cut_topF (h : TreeOk ns) {k : Int} (hk : hasN ns k = true) (h1 : k ≠ 1) (hM : actB bx k = false) : ∀ (f : Nat) (i x y : Int), hasN ns i = true → i ∉ belowAt ns k → topF (cutN ns k) bx f i x y = topF ns bx f i x y
  | 0, _, _, _, _, _ => rfl
  | f + 1, i, x, y, hi, ho => by
    unfold topF
    rw [cut_kids h hk ho, cut_org h hk h1 hi ho, ← List.filter_reverse, find_drop (fun j _ hj => by
      obtain rfl : j = k := by simpa using hj
      exact act_hit hM)]
    cases hf : (kidsOf ns i).reverse.find? (hitB bx (orgN ns bx i) x y) with
    | none => rfl
    | some j =>
      have hj := List.mem_of_find?_eq_some hf
      rw [List.mem_reverse] at hj
      have hh := List.find?_some hf
      refine cut_topF h hk h1 hM f j x y (kid_has h hj) (fun hb => ?_)
      rw [(kid_out h hk ho hj).1 hb, act_hit hM] at hh
      cases hh
/-- A WINDOW THAT ISN'T MAPPED: without it the windows at all places are the same. -/
theorem cut_top (h : TreeOk ns) {k : Int} (hk : hasN ns k = true) (h1 : k ≠ 1) (hM : actB bx k = false) (x y : Int) : topN (cutN ns k) bx x y = topN ns bx x y := by
  unfold topN
  rw [topF_more (cut_ok h hk h1) _ (belowAt ns 1).length 1 x y (Nat.le_refl _) (cut_below_len h hk h1 1 (root_out h hk h1)), cut_topF h hk h1 hM _ 1 x y (hasN_root ns) (root_out h hk h1)]
theorem ord_out (h : TreeOk ns) {k i : Int} (hk : hasN ns k = true) (h1 : k ≠ 1) (hM : actB bx k = false) (hi : i ∈ ordW ns bx 1) : hasN ns i = true ∧ vw ns bx i = true ∧ i ∉ belowAt ns k := by
  have h2 := (ord_mem h).1 hi
  rw [Bool.and_eq_true] at h2
  refine ⟨h2.1, h2.2, fun hb => ?_⟩
  rw [below_iff h hk] at hb
  have h3 := h2.2
  unfold vw at h3
  have h4 := List.all_eq_true.1 h3 k hb
  rw [hM] at h4
  simp [h1] at h4
end

section
variable {ns : Nodes} {bx : Int → Option VB}
/-- a tree in which a window is raised to the top of its siblings. -/
def topmost (ns : Nodes) (k p : Int) : Nodes := (ns.filter fun q => decide (q.1 ≠ k)) ++ [(k, p)]
theorem mem_topmost {k p : Int} (hp : (k, p) ∈ ns) (hn : (ns.map (·.1)).Nodup) {q : Int × Int} : q ∈ topmost ns k p ↔ q ∈ ns := by
  unfold topmost
  rw [List.mem_append, List.mem_filter, List.mem_singleton]
  constructor
  · rintro (⟨h1, _⟩ | rfl)
    · exact h1
    · exact hp
  · intro h1
    by_cases e : q.1 = k
    · right
      have h2 := upOf_mem hn (show (q.1, q.2) ∈ ns from h1)
      have h3 := upOf_mem hn hp
      rw [e, h3] at h2
      have h4 := Option.some.inj h2
      exact Prod.ext e h4.symm
    · exact .inl ⟨h1, by simpa using e⟩
theorem topmost_nodup {k p : Int} (hn : (ns.map (·.1)).Nodup) : ((topmost ns k p).map (·.1)).Nodup := by
  unfold topmost
  rw [List.map_append, List.nodup_append]
  refine ⟨hn.sublist (List.filter_sublist.map _), by simp, fun a ha b hb => ?_⟩
  obtain ⟨q, hq, rfl⟩ := List.mem_map.1 ha
  have := (List.mem_filter.1 hq).2
  simp only [List.map_cons, List.map_nil, List.mem_singleton] at hb
  rw [hb]
  simpa using this
theorem topmost_up (h : TreeOk ns) {k p : Int} (hp : (k, p) ∈ ns) (i : Int) : upOf (topmost ns k p) i = upOf ns i := by
  cases hu : upOf ns i with
  | some q => exact upOf_mem (topmost_nodup h.nodup) ((mem_topmost hp h.nodup).2 (upOf_some hu))
  | none =>
    cases hc : upOf (topmost ns k p) i with
    | none => rfl
    | some q =>
      have := upOf_mem h.nodup ((mem_topmost hp h.nodup).1 (upOf_some hc))
      rw [hu] at this
      cases this
theorem topmost_has (h : TreeOk ns) {k p : Int} (hp : (k, p) ∈ ns) (i : Int) : hasN (topmost ns k p) i = hasN ns i := by
  unfold hasN
  rw [topmost_up h hp]
theorem filter_len {α : Type} [BEq α] [LawfulBEq α] {l m : List α} (hl : l.Nodup) (hm : m.Nodup) (h : ∀ a, a ∈ l ↔ a ∈ m) : l.length = m.length := Nat.le_antisymm (nodup_len hl (fun a ha => (h a).1 ha)) (nodup_len hm (fun a ha => (h a).2 ha))
theorem topmost_len (h : TreeOk ns) {k p : Int} (hp : (k, p) ∈ ns) : (topmost ns k p).length = ns.length := by
  have := filter_len (topmost_nodup (p := p) (k := k) h.nodup) h.nodup (fun a => by
    rw [List.mem_map, List.mem_map]
    constructor
    · rintro ⟨q, hq, e⟩; exact ⟨q, (mem_topmost hp h.nodup).1 hq, e⟩
    · rintro ⟨q, hq, e⟩; exact ⟨q, (mem_topmost hp h.nodup).2 hq, e⟩)
  simpa using this
theorem topmost_ok (h : TreeOk ns) {k p : Int} (hp : (k, p) ∈ ns) : TreeOk (topmost ns k p) where
  nodup := topmost_nodup h.nodup
  noroot := fun q hq => h.noroot q ((mem_topmost hp h.nodup).1 hq)
  closed := fun q hq => by rw [topmost_has h hp]; exact h.closed q ((mem_topmost hp h.nodup).1 hq)
  ranked := by
    obtain ⟨rk, hr, hk⟩ := h.ranked
    exact ⟨rk, hr, fun q hq => by rw [topmost_len h hp]; exact hk q ((mem_topmost hp h.nodup).1 hq)⟩
theorem topmost_kids (k p i : Int) : kidsOf (topmost ns k p) i = ((kidsOf ns i).filter fun j => decide (j ≠ k)) ++ (if p = i then [k] else []) := by
  unfold topmost kidsOf
  rw [List.filter_append, List.map_append, List.filter_map, List.filter_filter, List.filter_filter]
  congr 1
  · congr 1
    refine List.filter_congr (fun q _ => ?_)
    simp only [Function.comp]
    rw [Bool.and_comm]
  · by_cases e : p = i
    · simp [e]
    · simp [e]
theorem topmost_path (h : TreeOk ns) {k p : Int} (hp : (k, p) ∈ ns) : ∀ i, pathN (topmost ns k p) i = pathN ns i := by
  intro i
  cases hi : hasN ns i with
  | false => rw [path_none hi, path_none (by rw [topmost_has h hp]; exact hi)]
  | true =>
    refine path_ind h (P := fun i => pathN (topmost ns k p) i = pathN ns i) ?_ ?_ i hi
    · rw [path_root h, path_root (topmost_ok h hp)]
    · intro j q hq ih
      rw [(path_step h hq).1, (path_step (topmost_ok h hp) (by rw [topmost_up h hp]; exact hq)).1, ih]
theorem topmost_org (h : TreeOk ns) {k p : Int} (hp : (k, p) ∈ ns) (i : Int) : orgN (topmost ns k p) bx i = orgN ns bx i := by
  unfold orgN
  rw [topmost_path h hp]
theorem kids_other (h : TreeOk ns) {k p i : Int} (hp : (k, p) ∈ ns) (hi : i ≠ p) : kidsOf (topmost ns k p) i = kidsOf ns i := by
  rw [topmost_kids, if_neg (fun e => hi e.symm), List.append_nil, List.filter_eq_self]
  intro j hj
  have h1 := kids_mem.1 hj
  refine decide_eq_true (fun e => hi ?_)
  rw [e] at h1
  have h2 := upOf_mem h.nodup h1
  have h3 := upOf_mem h.nodup hp
  rw [h3] at h2
  exact (Option.some.inj h2).symm
/-- below the raised window nothing changes. -/
theorem top_same (h : TreeOk ns) {k p : Int} (hp : (k, p) ∈ ns) : ∀ (f : Nat) (i x y : Int), i ∈ belowAt ns k → topF (topmost ns k p) bx f i x y = topF ns bx f i x y
  | 0, _, _, _, _ => rfl
  | f + 1, i, x, y, hi => by
    have hk : hasN ns k = true := hasN_iff.2 (.inr ⟨p, upOf_mem h.nodup hp⟩)
    have hne : i ≠ p := fun e => by
      rw [e, below_iff h hk] at hi
      have hu := upOf_mem h.nodup hp
      obtain ⟨rk, hr, hk'⟩ := h.ranked
      have h1 := (hk' _ hp).1
      dsimp only at h1
      rcases path_rank h hr hk' hi with e | e
      · rw [e] at h1; omega
      · omega
    unfold topF
    rw [kids_other h hp hne, topmost_org h hp]
    cases hf : (kidsOf ns i).reverse.find? (hitB bx (orgN ns bx i) x y) with
    | none => rfl
    | some j =>
      have hj := List.mem_of_find?_eq_some hf
      rw [List.mem_reverse] at hj
      refine top_same h hp f j x y ?_
      rw [below_iff h hk] at hi ⊢
      rw [(path_step h (upOf_mem h.nodup (kids_mem.1 hj))).1]
      exact List.mem_cons_of_mem _ hi
/-- THE WINDOW AT A PLACE when one is raised: as it was, or the raised one, or one below it; as it was, if it was that already. -/
theorem raise_topF (h : TreeOk ns) {k p : Int} (hp : (k, p) ∈ ns) : ∀ (f : Nat) (i x y : Int), hasN ns i = true → (topF (topmost ns k p) bx f i x y = topF ns bx f i x y) ∨ (topF (topmost ns k p) bx f i x y ∈ belowAt ns k ∧ (topF ns bx f i x y ∉ belowAt ns k))
  | 0, _, _, _, _ => .inl rfl
  | f + 1, i, x, y, hi => by
    have hk : hasN ns k = true := hasN_iff.2 (.inr ⟨p, upOf_mem h.nodup hp⟩)
    by_cases hin : i ∈ belowAt ns k
    · exact .inl (top_same h hp _ i x y hin)
    unfold topF
    rw [topmost_org h hp]
    by_cases e : i = p
    · subst e
      rw [topmost_kids, if_pos rfl, List.reverse_append, List.reverse_singleton, List.singleton_append, List.find?_cons]
      cases hh : hitB bx (orgN ns bx i) x y k with
      | true =>
        dsimp only
        rw [top_same h hp f k x y ((below_step h k).symm ▸ List.mem_cons_self)]
        cases hf : (kidsOf ns i).reverse.find? (hitB bx (orgN ns bx i) x y) with
        | none => exact .inr ⟨topF_in h f k x y, hin⟩
        | some j =>
          dsimp only
          by_cases ej : j = k
          · rw [ej]; exact .inl rfl
          · have hj := List.mem_of_find?_eq_some hf
            rw [List.mem_reverse] at hj
            exact .inr ⟨topF_in h f k x y, fun hb => below_disj h hj (kids_mem.2 hp) ej (topF_in h f j x y) hb⟩
      | false =>
        dsimp only
        rw [← List.filter_reverse, find_drop (fun j _ hj => by
          obtain rfl : j = k := by simpa using hj
          exact hh)]
        cases hf : (kidsOf ns i).reverse.find? (hitB bx (orgN ns bx i) x y) with
        | none => exact .inl rfl
        | some j =>
          have hj := List.mem_of_find?_eq_some hf
          rw [List.mem_reverse] at hj
          exact raise_topF h hp f j x y (kid_has h hj)
    · rw [kids_other h hp e]
      cases hf : (kidsOf ns i).reverse.find? (hitB bx (orgN ns bx i) x y) with
      | none => exact .inl rfl
      | some j =>
        have hj := List.mem_of_find?_eq_some hf
        rw [List.mem_reverse] at hj
        exact raise_topF h hp f j x y (kid_has h hj)
theorem raise_top (h : TreeOk ns) {k p : Int} (hp : (k, p) ∈ ns) (x y : Int) : topN (topmost ns k p) bx x y = topN ns bx x y ∨ (topN (topmost ns k p) bx x y ∈ belowAt ns k ∧ topN ns bx x y ∉ belowAt ns k) := by
  have h1 := raise_topF (bx := bx) h hp ((belowAt ns 1).length + (belowAt (topmost ns k p) 1).length) 1 x y (hasN_root ns)
  rw [← topF_more h (belowAt ns 1).length _ 1 x y (Nat.le_refl _) (Nat.le_add_right _ _), ← topF_more (topmost_ok h hp) (belowAt (topmost ns k p) 1).length _ 1 x y (Nat.le_refl _) (Nat.le_add_left _ _)] at h1
  exact h1
/-- raised, a window and all below it show no less. -/
theorem raise_more (h : TreeOk ns) {k p : Int} (hp : (k, p) ∈ ns) (P : Places) {i : Int} (hi : i ∈ belowAt ns k) (x y : Int) (hs : showB (esN ns bx P) x y i = true) : showB (esN (topmost ns k p) bx P) x y i = true := by
  rw [show_at h, Bool.and_eq_true, decide_eq_true_eq] at hs
  rw [show_at (topmost_ok h hp), hs.1, Bool.true_and, decide_eq_true_eq]
  rcases raise_top (bx := bx) h hp x y with e | ⟨_, e⟩
  · rw [e]; exact hs.2
  · rw [← hs.2] at e; exact absurd hi e
theorem raise_less (h : TreeOk ns) {k p : Int} (hp : (k, p) ∈ ns) (P : Places) {i : Int} (hi : i ∉ belowAt ns k) (x y : Int) (hs : showB (esN (topmost ns k p) bx P) x y i = true) : showB (esN ns bx P) x y i = true := by
  rw [show_at (topmost_ok h hp), Bool.and_eq_true, decide_eq_true_eq] at hs
  rw [show_at h, hs.1, Bool.true_and, decide_eq_true_eq]
  rcases raise_top (bx := bx) h hp x y with e | ⟨e, _⟩
  · rw [← e]; exact hs.2
  · rw [← hs.2] at e; exact absurd e hi
end
end Go.Proofs.YtdaedkolpfkdjaaGreat
end
