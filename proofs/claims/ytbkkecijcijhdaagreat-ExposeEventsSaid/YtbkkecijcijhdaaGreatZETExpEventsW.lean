/-
  The walk of the law ExposeEvents.
-/
import Derived.Test.YtbkkecijcijhdaaGreatZE35
import Derived.Test.YtbkkecijcijhdaaGreatZE29
section
namespace Go.Proofs.YtbkkecijcijhdaaGreat
open Go.RowKit Go.Maps Go.Shelf

theorem rcs_single (r : RC) : rcs [r] = [.int .i64 r.X, .int .i64 r.Y, .int .i64 r.W, .int .i64 r.H] := by simp [rcs, RC.cells]
set_option maxRecDepth 100000 in
set_option maxHeartbeats 4000000 in
theorem rects32_any (A : Option Addr) (n c : Nat) (qs : List Q4) (w : World) (hn : n ≤ 100) (hr : RdF Q4.cells 4 w A n qs) (hok : ∀ q ∈ qs, q.ok) :
    Calls Tryz.prog 53 #[.slice A n c] w fun e w' => ∃ v, e = .returned v ∧ w'.ownsRow w.heap.size 113 4 v n (rcs (qs.map Q4.rc)) ∧ Below w.heap.size w w' := by
  obtain ⟨i0, hi0, hz0, hz1, hz2⟩ := info_parts Tryz.infoR4
  have HR := Lib.hid hr
  have HL := Lib.hid hr.1
  have HOK := Lib.hid hok
  clear hr hok
  go_enter Tryz.func53, Tryz.ntmps53
  go_wp2_with fail
  go_loopw [8, 3] (fun i s3 wr => ∃ k : Nat, i = .int .i64 k ∧ k ≤ n ∧ wr.ownsRow w.heap.size 113 4 s3 k (rcs ((qs.take k).map Q4.rc)) ∧ Below w.heap.size w wr) (fun i _ _ => n - (intOf i).toNat)
  case atStart => exact ⟨0, rfl, by omega, World.ownsRow_nil _ _ _ _, bre w⟩
  case round =>
    obtain ⟨k, rfl, hk, ho, hB⟩ := hrel
    have HB := Lib.hid hB
    obtain ⟨Ao, co, rfl, hco⟩ := own_form ho
    have HO := Lib.hid ho
    by_cases hlt : k < n
    · obtain ⟨q, hq⟩ : ∃ q, qs[k]? = some q := ⟨_, List.getElem?_eq_getElem (by have := HL.out; omega)⟩
      obtain ⟨⟨⟨qa0, qa1⟩, qb0, qb1⟩, ⟨qc0, qc1⟩, qd0, qd1⟩ := HOK.out q (List.mem_of_getElem? hq)
      obtain ⟨b, off, rfl, hb, hcl⟩ := (HR.out.below hB).2 (by omega)
      have c0 : wr.cell? ⟨b, off + k * 4, none⟩ = some (.int .u8 q.a) := hcl k _ hq 0 _ rfl
      have c1 : wr.cell? ⟨b, off + k * 4 + 1, none⟩ = some (.int .u8 q.b) := hcl k _ hq 1 _ rfl
      have c2 : wr.cell? ⟨b, off + k * 4 + 2, none⟩ = some (.int .u8 q.c) := hcl k _ hq 2 _ rfl
      have c3 : wr.cell? ⟨b, off + k * 4 + 3, none⟩ = some (.int .u8 q.d) := hcl k _ hq 3 _ rfl
      have HTK := Lib.hid (take_snocI' hq)
      obtain ⟨qa, qb, qc, qd⟩ := q
      dsimp only at qa0 qa1 qb0 qb1 qc0 qc1 qd0 qd1 c0 c1 c2 c3
      have k1 : (k : Int) < (n : Int) := by omega
      have k0 : (0 : Int) ≤ (k : Int) := by omega
      obtain ⟨c2', hc2⟩ : ∃ x, qc % 12 = x := ⟨_, rfl⟩
      obtain ⟨d2', hd2⟩ : ∃ x, qd % 12 = x := ⟨_, rfl⟩
      have t1 : qc.tmod 12 = c2' := by rw [Int.tmod_eq_emod_of_nonneg (by omega)]; exact hc2
      have t2 : qd.tmod 12 = d2' := by rw [Int.tmod_eq_emod_of_nonneg (by omega)]; exact hd2
      have w1 : IntKind.i64.wrap qa = qa := IntWalk.i64_in _ (by omega)
      have w2 : IntKind.i64.wrap qb = qb := IntWalk.i64_in _ (by omega)
      have w3 : IntKind.i64.wrap c2' = c2' := IntWalk.i64_in _ (by omega)
      have w4 : IntKind.i64.wrap d2' = d2' := IntWalk.i64_in _ (by omega)
      have HRC := Lib.hid (show Q4.rc ⟨qa, qb, qc, qd⟩ = ⟨qa, qb, c2', d2'⟩ by rw [← hc2, ← hd2]; rfl)
      clear hB hq hcl ho hc2 hd2
      go_upto_region 5 with fail
      clear c0 c1 c2 c3
      have xK := Blk.new wr 64 #[.int .u8 qa, .int .u8 qb, .int .u8 qc, .int .u8 qd]
      have hba := bal (bre wr) (.cells #[.int .u8 qa, .int .u8 qb, .int .u8 qc, .int .u8 qd] 64)
      have xO := ownsRow_below HO.out hba
      have xB := bstep HB.out hba
      obtain ⟨X5, hX5⟩ : ∃ X5, wr.alloc (.cells #[.int .u8 qa, .int .u8 qb, .int .u8 qc, .int .u8 qd] 64) = X5 := ⟨_, rfl⟩
      rw [hX5] at xK xO xB ⊢
      replace HO := Lib.hid xO
      replace HB := Lib.hid xB
      have c0 := xK.cellV (i := 0) (v := .int .u8 qa) rfl
      have c1 := xK.cellV (i := 1) (v := .int .u8 qb) rfl
      have c2 := xK.cellV (i := 2) (v := .int .u8 qc) rfl
      have c3 := xK.cellV (i := 3) (v := .int .u8 qd) rfl
      have HOA := Lib.hid (HO.out.alloc (.cells #[.int .i64 qa, .int .i64 qb, .int .i64 c2', .int .i64 d2'] 113))
      clear xK hba xO xB hX5
      go_wp2_with (first | (refine wpList_recs rfl 58 113 1 _ rfl 4 _ i0 Tryz.underlying58 hi0 hz0 hz1 rfl (by decide) (by decide) (by decide) [.agg #[.int .i64 qa, .int .i64 qb, .int .i64 c2', .int .i64 d2']] (by simp [Value.cells]) rfl (by as_aux_lemma => kernel_rfl) #[.int .i64 qa, .int .i64 qb, .int .i64 c2', .int .i64 d2'] rfl ?_) | (at_builtin; refine wpList_append_own_at _ rfl _ _ 58 rfl w.heap.size 113 i0 _ 4 32 Tryz.underlying58 hi0 hz0 hz1 hz2 rfl (by decide) (.slice Ao k co) k (rcs ((qs.take k).map Q4.rc)) rfl HOA.out ⟨X5.heap.size, 0, none⟩ 1 1 [.int .i64 qa, .int .i64 qb, .int .i64 c2', .int .i64 d2'] rfl rfl (news_new _ [.int .i64 qa, .int .i64 qb, .int .i64 c2', .int .i64 d2'] _) (by simp [Value.oneCell']) (by simp only [maxLen]; omega) (by omega) (by have h1 := HB.out.size; simp; omega) ?_; intro v' w4 hown' hgrow _ _; have HOW := Lib.hid hown'; have HGW := Lib.hid hgrow; clear hown' hgrow))
      have h9 := HOW.out
      rw [show rcs ((qs.take k).map Q4.rc) ++ [.int .i64 qa, .int .i64 qb, .int .i64 c2', .int .i64 d2'] = rcs ((qs.take (k + 1)).map Q4.rc) by rw [HTK.out, List.map_append, rcs_append, List.map_cons, List.map_nil, HRC.out, rcs_single]] at h9
      have hb9 := (bal HB.out _).grown HGW.out (bal HB.out _).size (fun q e => own_ge HO.out q e)
      go_roundw
      case rel => exact ⟨k + 1, by go_num, by omega, h9, hb9⟩
      case measure => simp [intOf]; omega
    · obtain rfl : k = n := by omega
      have k1 : ¬ (k : Int) < (k : Int) := by omega
      rw [List.take_of_length_le (by rw [HL.out]; exact Nat.le_refl _)] at ho
      have HO2 := Lib.hid ho
      clear hB ho HO
      go_wp2_with fail
      go_ret
      exact ⟨_, rfl, HO2.out, HB.out⟩
theorem regAt_of {w : World} {A : Option Addr} {c : Nat} {out l : List RC} (hr : RdR w A out.length out) (hc : Canon out) (hp : ∀ x y, InR out x y ↔ InR (l.filter RC.cnt) x y) (hl : out.length ≤ 1000000000000) : RegAt w (.agg #[.slice A out.length c]) out := by
  refine ⟨A, c, rfl, hr, hc, hl, fun r hr => ?_⟩
  have hps := canon_pos hc r hr
  obtain ⟨q, hq, h1, h2, h3, h4⟩ := (hp r.X r.Y).1 ⟨r, hr, by omega, by omega, by omega, by omega⟩
  obtain ⟨q', hq', g1, g2, g3, g4⟩ := (hp (r.X + r.W - 1) (r.Y + r.H - 1)).1 ⟨r, hr, by omega, by omega, by omega, by omega⟩
  have b1 := (cnt_iff q).1 (List.mem_filter.1 hq).2
  have b2 := (cnt_iff q').1 (List.mem_filter.1 hq').2
  exact (cnt_iff r).2 (by omega)
/-- what is said of what is missing. -/
def grK (id : Int) (rs : List RC) : List (Int × List Int) := if rs.length = 0 then [(12, [id])] else evK 11 id rs rs.length
theorem one_out {w : World} {base : Nat} {id : Int} (hb : base ≤ w.heap.size) : OutsAt ((w.alloc (.cells #[.int .i64 id] 2)).alloc (.cells #[.int .i64 2, .int .i64 12, .int .i64 0, .slice (some ⟨w.heap.size, 0, none⟩) 1 1, .string ByteArray.empty, .slice none 0 0] 106)) base (.slice (some ⟨w.heap.size + 1, 0, none⟩) 1 1) [⟨12, some ⟨w.heap.size, 0, none⟩, 1, [id]⟩] where
  own := by
    have h := blk_newA w (.cells #[.int .i64 id] 2) 106 #[.int .i64 2, .int .i64 12, .int .i64 0, .slice (some ⟨w.heap.size, 0, none⟩) 1 1, .string ByteArray.empty, .slice none 0 0]
    exact ⟨rfl, .inr ⟨w.heap.size + 1, 1, _, rfl, Nat.le_succ_of_le hb, h, Nat.le_refl _, by simp [maxLen], rfl, rfl⟩⟩
  each := fun o ho => by
    obtain rfl := List.mem_singleton.1 ho
    exact (blk_own (Blk.new w 2 ([.int .i64 id] : List Value).toArray) hb rfl (by simp [maxLen])).alloc _
set_option maxRecDepth 100000 in
set_option maxHeartbeats 4000000 in
theorem graphics_any (id : Int) (u : Value) (rs : List RC) (w : World) (hi : 0 ≤ id ∧ id ≤ 4294967295) (hr : RegAt w u rs) (hn : rs.length ≤ 1000000000000) :
    Calls Tryz.prog 55 #[.int .u32 id, u] w fun e w' => ∃ v l, e = .returned v ∧ OutsAt w' w.heap.size v l ∧ l.map OV.key = grK id rs ∧ Below w.heap.size w w' := by
  obtain ⟨i0, hi0, hz0, hz1, hz2⟩ := info_parts Tryz.infoOut
  obtain ⟨j0, hj0, hy0, hy1, hy2⟩ := info_parts Tryz.infoI6
  have HI := Lib.hid hi
  have v3 : IntKind.i64.wrap id = id := IntWalk.i64_in _ (by omega)
  obtain ⟨A, c, e, h1, h2⟩ := hr
  subst e
  obtain ⟨n, hnn⟩ : ∃ n, rs.length = n := ⟨_, rfl⟩
  have hr : RegAt w (.agg #[.slice A rs.length c]) rs := ⟨A, c, rfl, h1, h2⟩
  rw [hnn] at hr ⊢
  clear h1 h2 hi
  have xB := bal (bre w) (.cells #[.slice A n c] 60)
  have xK := Blk.new w 60 #[.slice A n c]
  have HR := Lib.hid (hr.below xB)
  go_enter Tryz.func55, Tryz.ntmps55
  go_upto_region 1 with fail
  obtain ⟨X0, hX0⟩ : ∃ X0, w.alloc (.cells #[.slice A n c] 60) = X0 := ⟨_, rfl⟩
  rw [hX0] at xB xK HR ⊢
  have HB := Lib.hid xB
  have K3 := Lib.hid xK
  have HNN := Lib.hid hnn
  clear xB xK hX0 hr hnn
  have q := K3.out.cellV (i := 0) (v := .slice A n c) rfl
  go_wp2_with fail
  refine (empty_any A n c _).mono ?_
  rintro e w1 ⟨rfl, hb⟩
  replace HB := Lib.hid (bstep HB.out hb)
  replace K3 := Lib.hid (K3.out.belowS hb)
  replace HR := Lib.hid (HR.out.below hb)
  clear hb q
  by_cases h0 : n = 0
  · rw [decide_eq_true h0]
    have HK := Lib.hid (show grK id rs = [(12, [id])] by unfold grK; rw [if_pos (by rw [HNN.out]; exact h0)])
    clear h0
    go_wp2_with (first | (refine wpList_recs rfl 104 2 1 _ rfl 1 _ j0 Tryz.underlying104 hj0 hy0 hy1 rfl (by decide) (by decide) (by decide) [.int .i64 id] (by simp [Value.cells]) rfl (by as_aux_lemma => kernel_rfl) #[.int .i64 id] rfl ?_) | (refine wpList_bld rfl #[.int .i64 2, .int .i64 12, .int .i64 0, .slice (some ⟨w1.heap.size, 0, none⟩) 1 1, .string ByteArray.empty, .slice none 0 0] (by as_aux_lemma => kernel_rfl) ?_) | (refine wpList_recs rfl 100 106 1 _ rfl 6 _ i0 Tryz.underlying100 hi0 hz0 hz1 rfl (by decide) (by decide) (by decide) [.agg #[.int .i64 2, .int .i64 12, .int .i64 0, .slice (some ⟨w1.heap.size, 0, none⟩) 1 1, .string ByteArray.empty, .slice none 0 0]] (by simp [Value.cells]) rfl (by as_aux_lemma => kernel_rfl) #[.int .i64 2, .int .i64 12, .int .i64 0, .slice (some ⟨w1.heap.size, 0, none⟩) 1 1, .string ByteArray.empty, .slice none 0 0] rfl ?_))
    try rw [World.size_alloc]
    go_ret
    exact ⟨_, [⟨12, some ⟨w1.heap.size, 0, none⟩, 1, [id]⟩], rfl, one_out HB.out.size, HK.out.symm, bal (bal HB.out _) _⟩
  · rw [decide_eq_false h0]
    have HK := Lib.hid (show grK id rs = evK 11 id rs rs.length by unfold grK; rw [if_neg (by rw [HNN.out]; exact h0)])
    clear h0
    have q := K3.out.cellV (i := 0) (v := .slice A n c) rfl
    go_wp2_with fail
    refine (events_any 11 id (.agg #[.slice A n c]) rs _ HI.out HR.out hn).mono ?_
    rintro e w2 ⟨v, l, rfl, ho, hk, hb⟩
    have HO := Lib.hid ho
    have HKE := Lib.hid hk
    have HB2 := Lib.hid (bstep HB.out hb)
    have HS := Lib.hid HB.out.size
    clear ho hk hb q
    go_wp2_with fail
    go_ret
    exact ⟨_, l, rfl, ⟨own_lower HO.out.own HS.out, fun o ho => own_lower (HO.out.each o ho) HS.out⟩, HKE.out.trans HK.out.symm, HB2.out⟩
theorem len_of_key {l : List OV} {code id : Int} {rs : List RC} {k : Nat} (h : l.map OV.key = evK code id rs k) (hk : k ≤ rs.length) : l.length = k := by
  have h1 := congrArg List.length h
  rw [List.length_map, evK_len hk] at h1
  exact h1
set_option maxRecDepth 100000 in
set_option maxHeartbeats 8000000 in
theorem exposeEvents_any (id : Int) (A : Option Addr) (n c : Nat) (qs : List Q4) (w : World) (hi : 0 ≤ id ∧ id ≤ 4294967295) (hn : n ≤ maxLen) (hr : RdF Q4.cells 4 w A n qs) (hok : ∀ q ∈ qs, q.ok) :
    Calls Tryz.prog 10 #[.int .u32 id, .slice A n c] w fun e w' => e = .returned (.bool true) ∧ Below w.heap.size w w' := by
  obtain ⟨i0, hi0, hz0, hz1, hz2⟩ := info_parts Tryz.infoOut
  obtain ⟨j0, hj0, hy0, hy1, hy2⟩ := info_parts Tryz.infoI6
  have HI := Lib.hid hi
  have HR := Lib.hid hr
  have HQL := Lib.hid hr.1
  have HOK := Lib.hid hok
  have HB := Lib.hid (bre w)
  have v3 : IntKind.i64.wrap id = id := IntWalk.i64_in _ (by omega)
  simp only [maxLen] at hn
  clear hi hr hok
  go_enter Tryz.func10, Tryz.ntmps10
  by_cases h10 : n ≤ 10
  case neg =>
    have k10 : (10 : Int) < (n : Int) := by omega
    go_wp2_with fail
    refine (awake32_any _).mono ?_
    rintro e w2 ⟨rfl, hb2⟩
    have HB2 := Lib.hid hb2
    clear hb2
    go_wp2_with fail
    go_ret
    exact ⟨rfl, HB2.out⟩
  have k10 : ¬ (10 : Int) < (n : Int) := by omega
  go_wp2_with fail
  refine (rects32_any A n c qs _ (by omega) HR.out HOK.out).mono ?_
  rintro e w1 ⟨v, rfl, ho, hb⟩
  obtain ⟨Ar, cr, rfl, _⟩ := own_form ho
  have HRR := Lib.hid (RdR.of_own ho (by rw [List.length_map]; exact HQL.out))
  replace HB := Lib.hid (bstep HB.out hb)
  clear ho hb
  go_wp2_with fail
  refine (of_any Ar n cr (qs.map Q4.rc) _ (by omega) HRR.out (fun r hr => by
    obtain ⟨q, hq, rfl⟩ := List.mem_map.1 hr
    obtain ⟨⟨h1, h2⟩, _⟩ := HOK.out q hq
    exact ⟨by show q.a ≤ _; omega, by show q.b ≤ _; omega⟩)).mono ?_
  rintro e w2 ⟨out, A2, c2, rfl, hr2, hc2, hp2, hl2, hb⟩
  have hra := regAt_of (c := c2) hr2 hc2 hp2 hl2
  obtain ⟨m, hm⟩ : ∃ m, out.length = m := ⟨_, rfl⟩
  rw [hm] at hra hl2 ⊢
  have HRA := Lib.hid hra
  have HLM := Lib.hid hm
  have HM := Lib.hid hl2
  replace HB := Lib.hid (bstep HB.out hb)
  clear hr2 hc2 hp2 hl2 hb hm hra HRR
  go_upto_region 4 with fail
  have hba := bal (bre w2) (.cells #[.slice A2 m c2] 60)
  have xK := Blk.new w2 60 #[.slice A2 m c2]
  have xB := bstep HB.out hba
  have xR := HRA.out.below hba
  obtain ⟨X2, hX2⟩ : ∃ X2, w2.alloc (.cells #[.slice A2 m c2] 60) = X2 := ⟨_, rfl⟩
  rw [hX2] at xK xB xR ⊢
  have K5 := Lib.hid xK
  replace HB := Lib.hid xB
  replace HRA := Lib.hid xR
  clear xK xB xR hba hX2
  have q := K5.out.cellV (i := 0) (v := .slice A2 m c2) rfl
  go_wp2_with fail
  refine (Events_any id none A2 0 0 m c2 out _ HI.out HRA.out (by rw [HLM.out]; exact HM.out)).mono ?_
  rintro e w3 ⟨v, l1, rfl, ho, hk, hb⟩
  rw [HLM.out] at hk
  obtain ⟨A1, c1, rfl, _⟩ := own_form ho.own
  have HO1 := Lib.hid ho
  have HK1 := Lib.hid hk
  have hlen := len_of_key hk (by rw [HLM.out]; exact Nat.le_refl _)
  have HL1 := Lib.hid hlen
  rw [hlen]
  clear ho hk hlen q
  replace HB := Lib.hid (bstep HB.out hb)
  replace K5 := Lib.hid (K5.out.belowS hb)
  replace HRA := Lib.hid (HRA.out.below hb)
  clear hb
  have q := K5.out.cellV (i := 0) (v := .slice A2 m c2) rfl
  go_wp2_with fail
  refine (graphics_any id (.agg #[.slice A2 m c2]) out _ HI.out HRA.out (by rw [HLM.out]; exact HM.out)).mono ?_
  rintro e w4 ⟨v, l2, rfl, ho, hk, hb⟩
  obtain ⟨A22, c22, rfl, _⟩ := own_form ho.own
  have HO2 := Lib.hid ho
  have HG2 := Lib.hid hk
  clear ho hk q
  replace HB := Lib.hid (bstep HB.out hb)
  replace K5 := Lib.hid (K5.out.belowS hb)
  replace HRA := Lib.hid (HRA.out.below hb)
  replace HO1 := Lib.hid (HO1.out.below hb)
  clear hb
  have q := K5.out.cellV (i := 0) (v := .slice A2 m c2) rfl
  go_wp2_with fail
  refine (empty_any A2 m c2 _).mono ?_
  rintro e w5 ⟨rfl, hb⟩
  clear q
  replace HB := Lib.hid (bstep HB.out hb)
  replace K5 := Lib.hid (K5.out.belowS hb)
  replace HRA := Lib.hid (HRA.out.below hb)
  replace HO1 := Lib.hid (HO1.out.below hb)
  replace HO2 := Lib.hid (HO2.out.below hb)
  clear hb
  by_cases h0 : m = 0
  · subst h0
    rw [decide_eq_true rfl]
    have HK2 := Lib.hid (show l2.map OV.key = [(12, [id])] by rw [HG2.out]; unfold grK; rw [if_pos HLM.out])
    have hlen : l2.length = 1 := by have h1 := congrArg List.length HK2.out; rw [List.length_map] at h1; exact h1
    have HL2 := Lib.hid hlen
    rw [hlen]
    clear hlen
    obtain ⟨cs, hcs⟩ : ∃ cs : Array Value, #[.int .i64 2, .int .i64 12, .int .i64 0, .slice (some ⟨w5.heap.size, 0, none⟩) 1 1, .string ByteArray.empty, .slice none 0 0] = cs := ⟨_, rfl⟩
    have hba := bal (bal (bre w5) (.cells #[.int .i64 id] 2)) (.cells #[.int .i64 2, .int .i64 12, .int .i64 0, .slice (some ⟨w5.heap.size, 0, none⟩) 1 1, .string ByteArray.empty, .slice none 0 0] 106)
    have HBA := Lib.hid hba
    have HO3 := Lib.hid (one_out (w := w5) (id := id) (base := w.heap.size) HB.out.size)
    clear hba hcs
    go_wp2_with (first | (refine wpList_recs rfl 104 2 1 _ rfl 1 _ j0 Tryz.underlying104 hj0 hy0 hy1 rfl (by decide) (by decide) (by decide) [.int .i64 id] (by simp [Value.cells]) rfl (by as_aux_lemma => kernel_rfl) #[.int .i64 id] rfl ?_) | (refine wpList_bld rfl #[.int .i64 2, .int .i64 12, .int .i64 0, .slice (some ⟨w5.heap.size, 0, none⟩) 1 1, .string ByteArray.empty, .slice none 0 0] (by as_aux_lemma => kernel_rfl) ?_) | (refine wpList_recs rfl 100 106 1 _ rfl 6 _ i0 Tryz.underlying100 hi0 hz0 hz1 rfl (by decide) (by decide) (by decide) [.agg #[.int .i64 2, .int .i64 12, .int .i64 0, .slice (some ⟨w5.heap.size, 0, none⟩) 1 1, .string ByteArray.empty, .slice none 0 0]] (by simp [Value.cells]) rfl (by as_aux_lemma => kernel_rfl) #[.int .i64 2, .int .i64 12, .int .i64 0, .slice (some ⟨w5.heap.size, 0, none⟩) 1 1, .string ByteArray.empty, .slice none 0 0] rfl ?_))
    have HO2b := Lib.hid (HO2.out.below HBA.out)
    have hA := HO2b.out.own
    rw [HL2.out] at hA
    have HAQ := Lib.hid hA
    clear hA
    refine (refSame_any A22 (some ⟨w5.heap.size + 1, 0, none⟩) 1 c22 1 l2 [⟨12, some ⟨w5.heap.size, 0, none⟩, 1, [id]⟩] _ (by decide) (RdF.of_own OV.cells_len HAQ.out HL2.out) (RdF.of_own OV.cells_len HO3.out.own rfl) (fun o ho => ⟨Rd.of_own (HO2b.out.each o ho), own_few' (HO2b.out.each o ho)⟩) (fun o ho => Rd.of_own (HO3.out.each o ho)) HK2.out).mono ?_
    rintro e w6 ⟨rfl, hb⟩
    replace HB := Lib.hid (bstep (bstep HB.out HBA.out) hb)
    clear hb
    go_wp2_with fail
    refine (awake32_any _).mono ?_
    rintro e w7 ⟨rfl, hb⟩
    have HBZ := Lib.hid (bstep HB.out hb)
    clear hb
    go_wp2_with fail
    go_ret
    exact ⟨rfl, HBZ.out⟩
  · rw [decide_eq_false h0]
    have HK2 := Lib.hid (show l2.map OV.key = evK 11 id out m by rw [HG2.out]; unfold grK; rw [if_neg (by rw [HLM.out]; exact h0), HLM.out])
    have hlen := len_of_key HK2.out (by rw [HLM.out]; exact Nat.le_refl _)
    have HL2 := Lib.hid hlen
    rw [hlen]
    clear hlen h0
    have q := K5.out.cellV (i := 0) (v := .slice A2 m c2) rfl
    go_wp2_with fail
    have hro := rectsO_any (.agg #[.slice A2 m c2]) out _ HRA.out
    rw [HLM.out] at hro
    refine hro.mono ?_
    clear hro q
    rintro e w6 ⟨A5, c5, rfl, ho, hb⟩
    have HR5 := Lib.hid (RdR.of_own ho HLM.out)
    clear ho
    replace HB := Lib.hid (bstep HB.out hb)
    replace K5 := Lib.hid (K5.out.belowS hb)
    replace HRA := Lib.hid (HRA.out.below hb)
    replace HO1 := Lib.hid (HO1.out.below hb)
    replace HO2 := Lib.hid (HO2.out.below hb)
    clear hb
    go_wp2_with fail
    refine (refEvents_any 10 id A5 m c5 out _ HI.out HR5.out HM.out).mono ?_
    rintro e w7 ⟨v, l7, rfl, ho, hk, hb⟩
    obtain ⟨A7, c7, rfl, _⟩ := own_form ho.own
    have HO7 := Lib.hid ho
    have HK7 := Lib.hid hk
    have hlen := len_of_key hk (by rw [HLM.out]; exact Nat.le_refl _)
    have HL7 := Lib.hid hlen
    rw [hlen]
    clear ho hk hlen HR5
    replace HB := Lib.hid (bstep HB.out hb)
    replace K5 := Lib.hid (K5.out.belowS hb)
    replace HRA := Lib.hid (HRA.out.below hb)
    replace HO1 := Lib.hid (HO1.out.below hb)
    replace HO2 := Lib.hid (HO2.out.below hb)
    clear hb
    go_wp2_with fail
    have hA := HO1.out.own
    rw [HL1.out] at hA
    have hQ := HO7.out.own
    rw [HL7.out] at hQ
    have HAQ := Lib.hid (And.intro hA hQ)
    clear hA hQ
    refine (refSame_any A1 A7 m c1 c7 l1 l7 _ (by have := HM.out; simp only [maxLen]; omega) (RdF.of_own OV.cells_len HAQ.out.1 HL1.out) (RdF.of_own OV.cells_len HAQ.out.2 HL7.out) (fun o ho => ⟨Rd.of_own (HO1.out.each o ho), own_few' (HO1.out.each o ho)⟩) (fun o ho => Rd.of_own (HO7.out.each o ho)) (HK1.out.trans HK7.out.symm)).mono ?_
    rintro e w8 ⟨rfl, hb⟩
    clear HAQ
    replace HB := Lib.hid (bstep HB.out hb)
    replace K5 := Lib.hid (K5.out.belowS hb)
    replace HRA := Lib.hid (HRA.out.below hb)
    replace HO1 := Lib.hid (HO1.out.below hb)
    replace HO2 := Lib.hid (HO2.out.below hb)
    clear hb
    have q := K5.out.cellV (i := 0) (v := .slice A2 m c2) rfl
    go_wp2_with fail
    have hro := rectsO_any (.agg #[.slice A2 m c2]) out _ HRA.out
    rw [HLM.out] at hro
    refine hro.mono ?_
    clear hro q
    rintro e w9 ⟨A5, c5, rfl, ho, hb⟩
    have HR5 := Lib.hid (RdR.of_own ho HLM.out)
    clear ho
    replace HB := Lib.hid (bstep HB.out hb)
    replace K5 := Lib.hid (K5.out.belowS hb)
    replace HRA := Lib.hid (HRA.out.below hb)
    replace HO1 := Lib.hid (HO1.out.below hb)
    replace HO2 := Lib.hid (HO2.out.below hb)
    clear hb
    go_wp2_with fail
    refine (refEvents_any 11 id A5 m c5 out _ HI.out HR5.out HM.out).mono ?_
    rintro e w10 ⟨v, l9, rfl, ho, hk, hb⟩
    obtain ⟨A9, c9, rfl, _⟩ := own_form ho.own
    have HO9 := Lib.hid ho
    have HK9 := Lib.hid hk
    have hlen := len_of_key hk (by rw [HLM.out]; exact Nat.le_refl _)
    have HL9 := Lib.hid hlen
    rw [hlen]
    clear ho hk hlen HR5
    replace HB := Lib.hid (bstep HB.out hb)
    replace K5 := Lib.hid (K5.out.belowS hb)
    replace HRA := Lib.hid (HRA.out.below hb)
    replace HO1 := Lib.hid (HO1.out.below hb)
    replace HO2 := Lib.hid (HO2.out.below hb)
    clear hb
    go_wp2_with fail
    have hA := HO2.out.own
    rw [HL2.out] at hA
    have hQ := HO9.out.own
    rw [HL9.out] at hQ
    have HAQ := Lib.hid (And.intro hA hQ)
    clear hA hQ
    refine (refSame_any A22 A9 m c22 c9 l2 l9 _ (by have := HM.out; simp only [maxLen]; omega) (RdF.of_own OV.cells_len HAQ.out.1 HL2.out) (RdF.of_own OV.cells_len HAQ.out.2 HL9.out) (fun o ho => ⟨Rd.of_own (HO2.out.each o ho), own_few' (HO2.out.each o ho)⟩) (fun o ho => Rd.of_own (HO9.out.each o ho)) (HK2.out.trans HK9.out.symm)).mono ?_
    rintro e w11 ⟨rfl, hb⟩
    clear HAQ
    replace HB := Lib.hid (bstep HB.out hb)
    replace K5 := Lib.hid (K5.out.belowS hb)
    replace HRA := Lib.hid (HRA.out.below hb)
    replace HO1 := Lib.hid (HO1.out.below hb)
    replace HO2 := Lib.hid (HO2.out.below hb)
    clear hb
    go_wp2_with fail
    refine (awake32_any _).mono ?_
    rintro e w12 ⟨rfl, hb⟩
    have HBZ := Lib.hid (bstep HB.out hb)
    clear hb
    go_wp2_with fail
    go_ret
    exact ⟨rfl, HBZ.out⟩
end Go.Proofs.YtbkkecijcijhdaaGreat
end
