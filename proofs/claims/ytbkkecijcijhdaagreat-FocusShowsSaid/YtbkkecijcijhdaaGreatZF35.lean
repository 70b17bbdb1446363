/-
  The walk of the document's Way for layer 37.
  Which windows show, as far as a view's map tells it; focus.Set by it.
  The walk of a tree's Parent.
-/
import Derived.Test.YtbkkecijcijhdaaGreatZF30
import Derived.Test.YtbkkecijcijhdaaGreatZF03
section
namespace Go.Proofs.YtbkkecijcijhdaaGreat
open Go.RowKit Go.Maps Go.Shelf

section
variable {w : World}
set_option maxRecDepth 100000 in
set_option maxHeartbeats 4000000 in
theorem rway_any (f : FC) (A : Option Addr) (n c : Nat) (l : List Int) (has : Bool) (hn : n ≤ 1000000) (hr : Rd w A n (U32 l)) :
    Calls Tryz.prog 69 #[f.v, .slice A n c, .bool has] w fun e w' => ∃ u, e = .returned u ∧ w'.ownsRow w.heap.size 49 1 u (wayF f l has).length (U32 (wayF f l has)) ∧ Below w.heap.size w w' := by
  obtain ⟨i0, hi0, hz0, hz1, hz2⟩ := info_parts Tryz.infoU
  have HR := Lib.hid hr
  have HLN := Lib.hid (show l.length = n by have := hr.1; rwa [U32_len] at this)
  clear hr
  go_enter Tryz.func69, Tryz.ntmps69
  go_upto_region 1 with fail
  have xB := bal (bre w) (.cells #[.int .u32 f.W, .int .i64 f.R, .int .u32 f.T] 127)
  have xK3 := Blk.new w  127 #[.int .u32 f.W, .int .i64 f.R, .int .u32 f.T]
  obtain ⟨X0, hX⟩ : ∃ X, (w.alloc (.cells #[.int .u32 f.W, .int .i64 f.R, .int .u32 f.T] 127)) = X := ⟨_, rfl⟩
  rw [hX] at xB xK3 ⊢
  have HB := Lib.hid xB
  have K3 := Lib.hid xK3
  clear hX xB xK3
  have a0 := K3.out.cellV (i := 0) (v := .int .u32 f.W) rfl
  have a1 := K3.out.cellV (i := 1) (v := .int .i64 f.R) rfl
  have a2 := K3.out.cellV (i := 2) (v := .int .u32 f.T) rfl
  by_cases h0 : f.W = 0
  · have HE := Lib.hid (show wayF f l has = [] by unfold wayF; rw [if_pos (.inl h0)])
    have h0' : (f.W == 0) = true := by simpa using h0
    clear h0
    go_wp2_with fail
    go_ret
    rw [HE.out]
    exact ⟨_, rfl, World.ownsRow_nil _ _ _ _, HB.out⟩
  have h0' : (f.W == 0) = false := by simpa using h0
  cases has with
  | false =>
    have HE := Lib.hid (show wayF f l false = [] by unfold wayF; rw [if_pos (.inr rfl)])
    go_wp2_with fail
    go_ret
    rw [HE.out]
    exact ⟨_, rfl, World.ownsRow_nil _ _ _ _, HB.out⟩
  | true =>
    have HNO := Lib.hid (show ¬ (f.W = 0 ∨ true = false) from fun h => by rcases h with h | h; exact h0 h; cases h)
    clear h0
    go_wp2_with fail
    refine (in37_any A n c l f.W _ hn (HR.out.below HB.out)).mono ?_
    rintro e w1 ⟨rfl, rfl⟩
    cases hq : inU l f.W with
    | false =>
      have HE := Lib.hid (show wayF f l true = [f.W] by unfold wayF; rw [if_neg HNO.out, if_neg (by rw [show l.contains f.W = false from hq]; decide)])
      clear hq
      go_wp2_with fail
      go_ret
      rw [HE.out]
      exact ⟨_, rfl, blk_own (Blk.new X0 49 #[.int .u32 f.W]) HB.out.size rfl (by simp [maxLen]), bal HB.out _⟩
    | true =>
      have HIN := Lib.hid (show f.W ∈ l from List.contains_iff_mem.1 hq)
      have HE := Lib.hid (show wayF f l true = cutU l f.W ++ [f.W] by unfold wayF; rw [if_neg HNO.out, if_pos (show l.contains f.W = true from hq)])
      clear hq a0 a1 a2 h0'
      go_wp2_with fail
      go_loopw [8, 7] (fun s v wr => ∃ k : Nat, s = .int .i64 k ∧ k ≤ n ∧ f.W ∉ l.take k ∧ wr.ownsRow X0.heap.size 49 1 v k (U32 (l.take k)) ∧ Below X0.heap.size X0 wr) (fun s _ _ => n - (intOf s).toNat)
      case atStart => exact ⟨0, rfl, by omega, by simp, World.ownsRow_nil _ _ _ _, bre X0⟩
      case round =>
        obtain ⟨k, rfl, hk, hno, hown, hbw⟩ := hrel
        obtain ⟨Ao, co, rfl, _⟩ := own_form hown
        have HNK := Lib.hid hno
        have HO := Lib.hid hown
        have HBX := Lib.hid hbw
        have HBW := Lib.hid (bstep HB.out hbw)
        clear hno hown hbw
        have hlt : k < n := by
          rcases Nat.lt_or_ge k n with h | h
          · exact h
          · exact absurd HIN.out (by
              have := HNK.out
              rwa [List.take_of_length_le (by rw [HLN.out]; omega)] at this)
        have k1 : (k : Int) < (n : Int) := by omega
        have k0 : (0 : Int) ≤ (k : Int) := by omega
        obtain ⟨x, hx⟩ : ∃ x, l[k]? = some x := ⟨_, List.getElem?_eq_getElem (by rw [HLN.out]; exact hlt)⟩
        obtain ⟨b, off, rfl, hb, hc⟩ := (HR.out.below HBW.out).2 (by omega)
        have hcell := hc k _ (U32_at hx)
        have HX := Lib.hid hx
        have HSZ := Lib.hid HBX.out.size
        clear hc hx
        go_upto_region 10 with (at_builtin; refine wpList_append_own _ rfl _ _ 40 rfl X0.heap.size 49 i0 _ 1 4 Tryz.underlying40 hi0 hz0 hz1 hz2 rfl (by decide) _ _ _ rfl (HO.out.alloc _) ⟨wr.heap.size, 0, none⟩ 1 1 [.int .u32 x] rfl rfl (cell_one_new _ _ _) (by simp [Value.oneCell']) (by simp only [maxLen]; omega) (by omega) (by have := HSZ.out; simp; omega) ?_; intro v' w4 hown' hgrow _; obtain ⟨A', c', rfl, _⟩ := own_form hown'; have HO4 := Lib.hid hown'; have HB4 := Lib.hid ((bal HBX.out (.cells #[.int .u32 x] 49)).grown hgrow (bal HBX.out _).size (fun q e => own_ge HO.out q e)); clear hown' hgrow hcell hb)
        have HTS := Lib.hid (show U32 (l.take k) ++ [.int .u32 x] = U32 (l.take (k + 1)) by rw [take_snocI' HX.out]; simp [U32])
        obtain ⟨b', off', hA, hb', hc'⟩ := (HR.out.below (bstep HB.out HB4.out)).2 (by omega)
        injection hA with hA
        injection hA with hA1 hA2
        subst hA1 hA2
        have hcell := hc' k _ (U32_at HX.out)
        clear hc' hb'
        have a0 := (K3.out.belowS HB4.out).cellV (i := 0) (v := .int .u32 f.W) rfl
        by_cases e : x = f.W
        · have HTK := Lib.hid (show l.take (k + 1) = cutU l f.W ++ [f.W] by
            have h1 := HX.out
            rw [e] at h1
            rw [take_snocI' h1, (cut_at HNK.out h1).1])
          have e1 : (x == f.W) = true := by simpa using e
          clear e
          go_region
          go_wp2_with fail
          go_ret
          rw [HE.out, ← HTK.out]
          have h9 := HO4.out
          rw [HTS.out] at h9
          have hlk : (l.take (k + 1)).length = k + 1 := by rw [List.length_take, HLN.out]; omega
          rw [hlk]
          exact ⟨_, rfl, ownsRow_below (own_lower h9 HB.out.size) (bre w4).drew, bstep HB.out HB4.out.drew⟩
        · have e1 : (x == f.W) = false := by simpa using e
          go_region
          go_wp2_with fail
          go_roundw
          case rel => exact ⟨k + 1, by go_num, by omega, (by rw [take_snocI' HX.out, List.mem_append]; rintro (h | h); exact HNK.out h; exact e (List.mem_singleton.1 h).symm), by rw [← HTS.out]; exact ownsRow_below HO4.out (bre w4).drew, HB4.out.drew⟩
          case measure => simp [intOf]; omega
  end
end Go.Proofs.YtbkkecijcijhdaaGreat
end

section
namespace Go.Proofs.YtbkkecijcijhdaaGreat
open Go.RowKit Go.Maps Go.Shelf

/-- a view's map tells which windows show. -/
def SeenM (w : World) (v : Value) (ns : Nodes) (bx : Int → Option VB) : Prop := ∃ A n c mv nm f, v = .agg #[.slice A n c, .map mv] ∧ MapOpt Tryz.prog 49 .u32 w mv nm f ∧ (∀ i, (f i).isSome = (hasN ns i && vw ns bx i)) ∧ ∀ i, ∃ a b B m d, (f i).getD (shV 0 0 none 0 0) = shV a b B m d
section
variable {w w' : World} {v : Value} {RW RH : Nat} {ns : Nodes} {bx : Int → Option VB} {og : Int → Int × Int}
theorem SeenM.form (h : SeenM w v ns bx) : ∃ A n c mv, v = .agg #[.slice A n c, .map mv] := by
  obtain ⟨A, n, c, mv, nm, f, e, _⟩ := h
  exact ⟨A, n, c, mv, e⟩
theorem SeenM.below (h : SeenM w v ns bx) (hb : Below w.heap.size w w') : SeenM w' v ns bx := by
  obtain ⟨A, n, c, mv, nm, f, e, h1, h2⟩ := h
  exact ⟨A, n, c, mv, nm, f, e, h1.below hb, h2⟩
theorem SeenM.setBlk (h : SeenM w v ns bx) {B : Nat} {t : TypeId} {cs : Array Value} (hB : Blk w B t cs) (i : Nat) (u : Value) : SeenM (w.setCell ⟨B, i, none⟩ u) v ns bx := by
  obtain ⟨A, n, c, mv, nm, f, e, h1, h2⟩ := h
  exact ⟨A, n, c, mv, nm, f, e, h1.setBlk hB i u, h2⟩
theorem SeenG.map (h : SeenG w v RW RH ns bx og) (hn : TreeOk ns) : SeenM w v ns bx := by
  obtain ⟨A, n, c, mv, nm, f, hv⟩ := h.is
  refine ⟨A, n, c, mv, nm, f, hv.shape, hv.map, fun i => ?_, fun i => ?_⟩
  · obtain ⟨_, _, _, _, _, _, h1, _⟩ := hv.look i
    rw [h1, look_some hn]
  · obtain ⟨B, d, out, h1, _⟩ := hv.look i
    exact ⟨_, _, B, out.length, d, h1⟩
set_option maxRecDepth 100000 in
theorem SeenM.viewable (h : SeenM w v ns bx) (i : Int) (hi : 0 ≤ i ∧ i ≤ 4294967295) :
    Calls Tryz.prog 31 #[v, .int .u32 i] w fun e w' => e = .returned (.bool (hasN ns i && vw ns bx i)) ∧ Below w.heap.size w w' := by
  obtain ⟨A, n, c, mv, nm, f, rfl, hm, hs, hg⟩ := h
  obtain ⟨a, b, B, m, d, hgi⟩ := hg i
  have HM := Lib.hid hm
  have HWF := Lib.hid (u32_wf hi)
  have HG := Lib.hid hgi
  obtain ⟨bq, hbq⟩ : ∃ bq, (hasN ns i && vw ns bx i) = bq := ⟨_, rfl⟩
  have HS := Lib.hid (show (f i).isSome = bq by rw [hs, hbq])
  rw [hbq]
  clear hm hs hg hgi hbq
  go_enter Tryz.func31, Tryz.ntmps31
  go_wp2_with (at_lookup; refine opt_look_ok rfl _ _ 41 rfl 49 166 .u32 Tryz.underlying49 Tryz.underlying41 (shV 0 0 none 0 0) (Tryz.zeroShown _) mv nm f rfl (HM.out.below (by first | exact bal (bal (bre _) _) _ | exact bal (bre _) _)) i rfl HWF.out ?_; rw [HG.out, HS.out]; unfold shV)
  go_ret
  exact ⟨rfl, bal (bal (bre w) _) _⟩
set_option maxRecDepth 100000 in
set_option maxHeartbeats 4000000 in
theorem set37m_any (f : FC) (_hf : f.ok) (id rv tm now : Int) (hid : 0 ≤ id ∧ id ≤ 4294967295) (hV : SeenM w v ns bx) :
    Calls Tryz.prog 71 #[f.v, v, .int .u32 id, .int .i64 rv, .int .u32 tm, .int .u32 now] w fun e w' => e = .returned (.tuple #[(setF f (shV37 ns bx) id rv tm now).1.v, .bool (setF f (shV37 ns bx) id rv tm now).2.1, .int .i64 (setF f (shV37 ns bx) id rv tm now).2.2]) ∧ Below w.heap.size w w' := by
  obtain ⟨P, hP⟩ : ∃ P : Int → Bool, shV37 ns bx = P := ⟨_, rfl⟩
  have HIN := Lib.hid (fun i => congrFun hP i)
  rw [hP]
  clear hP
  obtain ⟨Av, nv, cv, mv, rfl⟩ := hV.form
  have HV := Lib.hid hV
  clear hV
  clear _hf
  go_enter Tryz.func71, Tryz.ntmps71
  go_upto_region 1 with fail
  have xB := bal (bal (bal (bre w) (.cells #[.int .u32 f.W, .int .i64 f.R, .int .u32 f.T] 122)) (.cells #[.slice Av nv cv, .map mv] 43)) (.cells #[.int .u32 0, .int .i64 0, .int .u32 0] 122)
  have xK3 := ((Blk.new w  122 #[.int .u32 f.W, .int .i64 f.R, .int .u32 f.T]).alloc (.cells #[.slice Av nv cv, .map mv] 43)).alloc (.cells #[.int .u32 0, .int .i64 0, .int .u32 0] 122)
  have xK5 := (blk_new2 w (.cells #[.int .u32 f.W, .int .i64 f.R, .int .u32 f.T] 122) 43 #[.slice Av nv cv, .map mv]).alloc (.cells #[.int .u32 0, .int .i64 0, .int .u32 0] 122)
  have xK6 := blk_new3 w (.cells #[.int .u32 f.W, .int .i64 f.R, .int .u32 f.T] 122) (.cells #[.slice Av nv cv, .map mv] 43) 122 #[.int .u32 0, .int .i64 0, .int .u32 0]
  obtain ⟨X0, hX⟩ : ∃ X, (((w.alloc (.cells #[.int .u32 f.W, .int .i64 f.R, .int .u32 f.T] 122)).alloc (.cells #[.slice Av nv cv, .map mv] 43)).alloc (.cells #[.int .u32 0, .int .i64 0, .int .u32 0] 122)) = X := ⟨_, rfl⟩
  rw [hX] at xB xK3 xK5 xK6 ⊢
  have HB := Lib.hid xB
  have K3 := Lib.hid xK3
  have K5 := Lib.hid xK5
  have K6 := Lib.hid xK6
  clear hX xB xK3 xK5 xK6
  have a0 := K3.out.cellV (i := 0) (v := .int .u32 f.W) rfl
  have a1 := K3.out.cellV (i := 1) (v := .int .i64 f.R) rfl
  have a2 := K3.out.cellV (i := 2) (v := .int .u32 f.T) rfl
  have c0 := K5.out.cellV (i := 0) (v := .slice Av nv cv) rfl
  have c1 := K5.out.cellV (i := 1) (v := .map mv) rfl
  have kc0 := K6.out.cellV (i := 0) (v := .int .u32 0) rfl
  have kc1 := K6.out.cellV (i := 1) (v := .int .i64 0) rfl
  have kc2 := K6.out.cellV (i := 2) (v := .int .u32 0) rfl
  have kf0 := K6.out.frozen 0
  have kf1 := K6.out.frozen 1
  have kf2 := K6.out.frozen 2
  have kl := K6.out.lt
  by_cases r0 : rv < 0
  ·
    have HE := Lib.hid (show setF f P id rv tm now = (f, false, 10) by unfold setF; rw [if_pos (.inl r0)])
    go_wp2_with fail
    have rK := (((K6.out).set_ 0 (.int .u32 f.W)).set_ 1 (.int .i64 f.R)).set_ 2 (.int .u32 f.T)
    have r0 := rK.cellV (i := 0) (v := .int .u32 f.W) rfl
    have r1 := rK.cellV (i := 1) (v := .int .i64 f.R) rfl
    have r2 := rK.cellV (i := 2) (v := .int .u32 f.T) rfl
    refine bodyPost_ret (v := .tuple #[.agg #[.int .u32 f.W, .int .i64 f.R, .int .u32 f.T], .bool false, .int .i64 10]) (by simp [results, Tryz.results71, go_sem, r0, r1, r2]) rfl ?_
    exact ⟨by rw [HE.out], bset (p := ⟨w.heap.size + 1 + 1, 2, none⟩) (bset (p := ⟨w.heap.size + 1 + 1, 1, none⟩) (bset (p := ⟨w.heap.size + 1 + 1, 0, none⟩) (HB.out) (by show w.heap.size ≤ w.heap.size + 1 + 1; omega) (.int .u32 f.W)) (by show w.heap.size ≤ w.heap.size + 1 + 1; omega) (.int .i64 f.R)) (by show w.heap.size ≤ w.heap.size + 1 + 1; omega) (.int .u32 f.T)⟩
  by_cases r2 : 2 < rv
  ·
    have HE := Lib.hid (show setF f P id rv tm now = (f, false, 10) by unfold setF; rw [if_pos (.inr r2)])
    go_wp2_with fail
    have rK := (((K6.out).set_ 0 (.int .u32 f.W)).set_ 1 (.int .i64 f.R)).set_ 2 (.int .u32 f.T)
    have r0 := rK.cellV (i := 0) (v := .int .u32 f.W) rfl
    have r1 := rK.cellV (i := 1) (v := .int .i64 f.R) rfl
    have r2 := rK.cellV (i := 2) (v := .int .u32 f.T) rfl
    refine bodyPost_ret (v := .tuple #[.agg #[.int .u32 f.W, .int .i64 f.R, .int .u32 f.T], .bool false, .int .i64 10]) (by simp [results, Tryz.results71, go_sem, r0, r1, r2]) rfl ?_
    exact ⟨by rw [HE.out], bset (p := ⟨w.heap.size + 1 + 1, 2, none⟩) (bset (p := ⟨w.heap.size + 1 + 1, 1, none⟩) (bset (p := ⟨w.heap.size + 1 + 1, 0, none⟩) (HB.out) (by show w.heap.size ≤ w.heap.size + 1 + 1; omega) (.int .u32 f.W)) (by show w.heap.size ≤ w.heap.size + 1 + 1; omega) (.int .i64 f.R)) (by show w.heap.size ≤ w.heap.size + 1 + 1; omega) (.int .u32 f.T)⟩
  have hr02 : ¬ (rv < 0 ∨ 2 < rv) := by omega
  have HR02 := Lib.hid hr02
  clear hr02
  
  by_cases i0 : id = 0
  · have i0' : (id != 0) = false := by simpa using i0
    have I0 := Lib.hid i0
    clear i0
    have HI := Lib.hid (show ¬ (id ≠ 0 ∧ P id = false) from fun h => h.1 I0.out)
    by_cases t0 : tm = 0
    · have t0' : (tm == 0) = true := by simpa using t0
      have T0 := Lib.hid t0
      clear t0
      have HE := Lib.hid (show setF f P id rv tm now = (⟨id, rv, now⟩, true, 0) by unfold setF; rw [if_neg HR02.out, if_neg HI.out, if_pos T0.out])
      go_wp2_with fail
      have rK := (((K6.out).set_ 0 (.int .u32 id)).set_ 1 (.int .i64 rv)).set_ 2 (.int .u32 now)
      have r0 := rK.cellV (i := 0) (v := .int .u32 id) rfl
      have r1 := rK.cellV (i := 1) (v := .int .i64 rv) rfl
      have r2 := rK.cellV (i := 2) (v := .int .u32 now) rfl
      refine bodyPost_ret (v := .tuple #[.agg #[.int .u32 id, .int .i64 rv, .int .u32 now], .bool true, .int .i64 0]) (by simp [results, Tryz.results71, go_sem, r0, r1, r2]) rfl ?_
      exact ⟨by rw [HE.out], bset (p := ⟨w.heap.size + 1 + 1, 2, none⟩) (bset (p := ⟨w.heap.size + 1 + 1, 1, none⟩) (bset (p := ⟨w.heap.size + 1 + 1, 0, none⟩) (HB.out) (by show w.heap.size ≤ w.heap.size + 1 + 1; omega) (.int .u32 id)) (by show w.heap.size ≤ w.heap.size + 1 + 1; omega) (.int .i64 rv)) (by show w.heap.size ≤ w.heap.size + 1 + 1; omega) (.int .u32 now)⟩
    have t0' : (tm == 0) = false := by simpa using t0
    by_cases t1 : tm < f.T
    ·
      have HE := Lib.hid (show setF f P id rv tm now = (f, false, 0) by unfold setF; rw [if_neg HR02.out, if_neg HI.out, if_neg t0, if_pos (.inl t1)])
      go_wp2_with fail
      have rK := (((K6.out).set_ 0 (.int .u32 f.W)).set_ 1 (.int .i64 f.R)).set_ 2 (.int .u32 f.T)
      have r0 := rK.cellV (i := 0) (v := .int .u32 f.W) rfl
      have r1 := rK.cellV (i := 1) (v := .int .i64 f.R) rfl
      have r2 := rK.cellV (i := 2) (v := .int .u32 f.T) rfl
      refine bodyPost_ret (v := .tuple #[.agg #[.int .u32 f.W, .int .i64 f.R, .int .u32 f.T], .bool false, .int .i64 0]) (by simp [results, Tryz.results71, go_sem, r0, r1, r2]) rfl ?_
      exact ⟨by rw [HE.out], bset (p := ⟨w.heap.size + 1 + 1, 2, none⟩) (bset (p := ⟨w.heap.size + 1 + 1, 1, none⟩) (bset (p := ⟨w.heap.size + 1 + 1, 0, none⟩) (HB.out) (by show w.heap.size ≤ w.heap.size + 1 + 1; omega) (.int .u32 f.W)) (by show w.heap.size ≤ w.heap.size + 1 + 1; omega) (.int .i64 f.R)) (by show w.heap.size ≤ w.heap.size + 1 + 1; omega) (.int .u32 f.T)⟩
    by_cases t2 : now < tm
    ·
      have HE := Lib.hid (show setF f P id rv tm now = (f, false, 0) by unfold setF; rw [if_neg HR02.out, if_neg HI.out, if_neg t0, if_pos (.inr t2)])
      go_wp2_with fail
      have rK := (((K6.out).set_ 0 (.int .u32 f.W)).set_ 1 (.int .i64 f.R)).set_ 2 (.int .u32 f.T)
      have r0 := rK.cellV (i := 0) (v := .int .u32 f.W) rfl
      have r1 := rK.cellV (i := 1) (v := .int .i64 f.R) rfl
      have r2 := rK.cellV (i := 2) (v := .int .u32 f.T) rfl
      refine bodyPost_ret (v := .tuple #[.agg #[.int .u32 f.W, .int .i64 f.R, .int .u32 f.T], .bool false, .int .i64 0]) (by simp [results, Tryz.results71, go_sem, r0, r1, r2]) rfl ?_
      exact ⟨by rw [HE.out], bset (p := ⟨w.heap.size + 1 + 1, 2, none⟩) (bset (p := ⟨w.heap.size + 1 + 1, 1, none⟩) (bset (p := ⟨w.heap.size + 1 + 1, 0, none⟩) (HB.out) (by show w.heap.size ≤ w.heap.size + 1 + 1; omega) (.int .u32 f.W)) (by show w.heap.size ≤ w.heap.size + 1 + 1; omega) (.int .i64 f.R)) (by show w.heap.size ≤ w.heap.size + 1 + 1; omega) (.int .u32 f.T)⟩
    have HE := Lib.hid (show setF f P id rv tm now = (⟨id, rv, tm⟩, true, 0) by unfold setF; rw [if_neg HR02.out, if_neg HI.out, if_neg t0, if_neg (by omega)])
    go_wp2_with fail
    have rK := (((K6.out).set_ 0 (.int .u32 id)).set_ 1 (.int .i64 rv)).set_ 2 (.int .u32 tm)
    have r0 := rK.cellV (i := 0) (v := .int .u32 id) rfl
    have r1 := rK.cellV (i := 1) (v := .int .i64 rv) rfl
    have r2 := rK.cellV (i := 2) (v := .int .u32 tm) rfl
    refine bodyPost_ret (v := .tuple #[.agg #[.int .u32 id, .int .i64 rv, .int .u32 tm], .bool true, .int .i64 0]) (by simp [results, Tryz.results71, go_sem, r0, r1, r2]) rfl ?_
    exact ⟨by rw [HE.out], bset (p := ⟨w.heap.size + 1 + 1, 2, none⟩) (bset (p := ⟨w.heap.size + 1 + 1, 1, none⟩) (bset (p := ⟨w.heap.size + 1 + 1, 0, none⟩) (HB.out) (by show w.heap.size ≤ w.heap.size + 1 + 1; omega) (.int .u32 id)) (by show w.heap.size ≤ w.heap.size + 1 + 1; omega) (.int .i64 rv)) (by show w.heap.size ≤ w.heap.size + 1 + 1; omega) (.int .u32 tm)⟩
  · have i0' : (id != 0) = true := by simpa using i0
    go_wp2_with fail
    refine ((HV.out.below HB.out).viewable id hid).mono ?_
    rintro e w1 ⟨rfl, hb1⟩
    rw [show (hasN ns id && vw ns bx id) = P id from HIN.out id]
    have HB1 := Lib.hid hb1
    clear hb1 a0 a1 a2 c0 c1 kc0 kc1 kc2 kf0 kf1 kf2 kl
    replace K3 := Lib.hid (K3.out.belowS HB1.out)
    replace K5 := Lib.hid (K5.out.belowS HB1.out)
    replace K6 := Lib.hid (K6.out.belowS HB1.out)
    replace HB := Lib.hid (bstep HB.out HB1.out)
    clear HB1
    have a0 := K3.out.cellV (i := 0) (v := .int .u32 f.W) rfl
    have a1 := K3.out.cellV (i := 1) (v := .int .i64 f.R) rfl
    have a2 := K3.out.cellV (i := 2) (v := .int .u32 f.T) rfl
    have c0 := K5.out.cellV (i := 0) (v := .slice Av nv cv) rfl
    have c1 := K5.out.cellV (i := 1) (v := .map mv) rfl
    have kc0 := K6.out.cellV (i := 0) (v := .int .u32 0) rfl
    have kc1 := K6.out.cellV (i := 1) (v := .int .i64 0) rfl
    have kc2 := K6.out.cellV (i := 2) (v := .int .u32 0) rfl
    have kf0 := K6.out.frozen 0
    have kf1 := K6.out.frozen 1
    have kf2 := K6.out.frozen 2
    have kl := K6.out.lt
    cases hq : P id with
    | false =>
      have HQ := Lib.hid hq
      clear hq
      have HE := Lib.hid (show setF f P id rv tm now = (f, false, 6) by unfold setF; rw [if_neg HR02.out, if_pos ⟨i0, HQ.out⟩])
      go_wp2_with fail
      have rK := (((K6.out).set_ 0 (.int .u32 f.W)).set_ 1 (.int .i64 f.R)).set_ 2 (.int .u32 f.T)
      have r0 := rK.cellV (i := 0) (v := .int .u32 f.W) rfl
      have r1 := rK.cellV (i := 1) (v := .int .i64 f.R) rfl
      have r2 := rK.cellV (i := 2) (v := .int .u32 f.T) rfl
      refine bodyPost_ret (v := .tuple #[.agg #[.int .u32 f.W, .int .i64 f.R, .int .u32 f.T], .bool false, .int .i64 6]) (by simp [results, Tryz.results71, go_sem, r0, r1, r2]) rfl ?_
      exact ⟨by rw [HE.out], bset (p := ⟨w.heap.size + 1 + 1, 2, none⟩) (bset (p := ⟨w.heap.size + 1 + 1, 1, none⟩) (bset (p := ⟨w.heap.size + 1 + 1, 0, none⟩) (HB.out) (by show w.heap.size ≤ w.heap.size + 1 + 1; omega) (.int .u32 f.W)) (by show w.heap.size ≤ w.heap.size + 1 + 1; omega) (.int .i64 f.R)) (by show w.heap.size ≤ w.heap.size + 1 + 1; omega) (.int .u32 f.T)⟩
    | true =>
      have HQ := Lib.hid hq
      clear hq
      have HI := Lib.hid (show ¬ (id ≠ 0 ∧ P id = false) from fun h => by have h2 := h.2; rw [HQ.out] at h2; cases h2)
      by_cases t0 : tm = 0
      · have t0' : (tm == 0) = true := by simpa using t0
        have T0 := Lib.hid t0
        clear t0
        have HE := Lib.hid (show setF f P id rv tm now = (⟨id, rv, now⟩, true, 0) by unfold setF; rw [if_neg HR02.out, if_neg HI.out, if_pos T0.out])
        go_wp2_with fail
        have rK := (((K6.out).set_ 0 (.int .u32 id)).set_ 1 (.int .i64 rv)).set_ 2 (.int .u32 now)
        have r0 := rK.cellV (i := 0) (v := .int .u32 id) rfl
        have r1 := rK.cellV (i := 1) (v := .int .i64 rv) rfl
        have r2 := rK.cellV (i := 2) (v := .int .u32 now) rfl
        refine bodyPost_ret (v := .tuple #[.agg #[.int .u32 id, .int .i64 rv, .int .u32 now], .bool true, .int .i64 0]) (by simp [results, Tryz.results71, go_sem, r0, r1, r2]) rfl ?_
        exact ⟨by rw [HE.out], bset (p := ⟨w.heap.size + 1 + 1, 2, none⟩) (bset (p := ⟨w.heap.size + 1 + 1, 1, none⟩) (bset (p := ⟨w.heap.size + 1 + 1, 0, none⟩) (HB.out) (by show w.heap.size ≤ w.heap.size + 1 + 1; omega) (.int .u32 id)) (by show w.heap.size ≤ w.heap.size + 1 + 1; omega) (.int .i64 rv)) (by show w.heap.size ≤ w.heap.size + 1 + 1; omega) (.int .u32 now)⟩
      have t0' : (tm == 0) = false := by simpa using t0
      by_cases t1 : tm < f.T
      ·
        have HE := Lib.hid (show setF f P id rv tm now = (f, false, 0) by unfold setF; rw [if_neg HR02.out, if_neg HI.out, if_neg t0, if_pos (.inl t1)])
        go_wp2_with fail
        have rK := (((K6.out).set_ 0 (.int .u32 f.W)).set_ 1 (.int .i64 f.R)).set_ 2 (.int .u32 f.T)
        have r0 := rK.cellV (i := 0) (v := .int .u32 f.W) rfl
        have r1 := rK.cellV (i := 1) (v := .int .i64 f.R) rfl
        have r2 := rK.cellV (i := 2) (v := .int .u32 f.T) rfl
        refine bodyPost_ret (v := .tuple #[.agg #[.int .u32 f.W, .int .i64 f.R, .int .u32 f.T], .bool false, .int .i64 0]) (by simp [results, Tryz.results71, go_sem, r0, r1, r2]) rfl ?_
        exact ⟨by rw [HE.out], bset (p := ⟨w.heap.size + 1 + 1, 2, none⟩) (bset (p := ⟨w.heap.size + 1 + 1, 1, none⟩) (bset (p := ⟨w.heap.size + 1 + 1, 0, none⟩) (HB.out) (by show w.heap.size ≤ w.heap.size + 1 + 1; omega) (.int .u32 f.W)) (by show w.heap.size ≤ w.heap.size + 1 + 1; omega) (.int .i64 f.R)) (by show w.heap.size ≤ w.heap.size + 1 + 1; omega) (.int .u32 f.T)⟩
      by_cases t2 : now < tm
      ·
        have HE := Lib.hid (show setF f P id rv tm now = (f, false, 0) by unfold setF; rw [if_neg HR02.out, if_neg HI.out, if_neg t0, if_pos (.inr t2)])
        go_wp2_with fail
        have rK := (((K6.out).set_ 0 (.int .u32 f.W)).set_ 1 (.int .i64 f.R)).set_ 2 (.int .u32 f.T)
        have r0 := rK.cellV (i := 0) (v := .int .u32 f.W) rfl
        have r1 := rK.cellV (i := 1) (v := .int .i64 f.R) rfl
        have r2 := rK.cellV (i := 2) (v := .int .u32 f.T) rfl
        refine bodyPost_ret (v := .tuple #[.agg #[.int .u32 f.W, .int .i64 f.R, .int .u32 f.T], .bool false, .int .i64 0]) (by simp [results, Tryz.results71, go_sem, r0, r1, r2]) rfl ?_
        exact ⟨by rw [HE.out], bset (p := ⟨w.heap.size + 1 + 1, 2, none⟩) (bset (p := ⟨w.heap.size + 1 + 1, 1, none⟩) (bset (p := ⟨w.heap.size + 1 + 1, 0, none⟩) (HB.out) (by show w.heap.size ≤ w.heap.size + 1 + 1; omega) (.int .u32 f.W)) (by show w.heap.size ≤ w.heap.size + 1 + 1; omega) (.int .i64 f.R)) (by show w.heap.size ≤ w.heap.size + 1 + 1; omega) (.int .u32 f.T)⟩
      have HE := Lib.hid (show setF f P id rv tm now = (⟨id, rv, tm⟩, true, 0) by unfold setF; rw [if_neg HR02.out, if_neg HI.out, if_neg t0, if_neg (by omega)])
      go_wp2_with fail
      have rK := (((K6.out).set_ 0 (.int .u32 id)).set_ 1 (.int .i64 rv)).set_ 2 (.int .u32 tm)
      have r0 := rK.cellV (i := 0) (v := .int .u32 id) rfl
      have r1 := rK.cellV (i := 1) (v := .int .i64 rv) rfl
      have r2 := rK.cellV (i := 2) (v := .int .u32 tm) rfl
      refine bodyPost_ret (v := .tuple #[.agg #[.int .u32 id, .int .i64 rv, .int .u32 tm], .bool true, .int .i64 0]) (by simp [results, Tryz.results71, go_sem, r0, r1, r2]) rfl ?_
      exact ⟨by rw [HE.out], bset (p := ⟨w.heap.size + 1 + 1, 2, none⟩) (bset (p := ⟨w.heap.size + 1 + 1, 1, none⟩) (bset (p := ⟨w.heap.size + 1 + 1, 0, none⟩) (HB.out) (by show w.heap.size ≤ w.heap.size + 1 + 1; omega) (.int .u32 id)) (by show w.heap.size ≤ w.heap.size + 1 + 1; omega) (.int .i64 rv)) (by show w.heap.size ≤ w.heap.size + 1 + 1; omega) (.int .u32 tm)⟩
end
end Go.Proofs.YtbkkecijcijhdaaGreat
end

section
namespace Go.Proofs.YtbkkecijcijhdaaGreat
open Go.RowKit Go.Maps Go.Shelf

set_option maxRecDepth 100000 in
set_option maxHeartbeats 1000000 in
theorem parent_any (v : Value) (ns : Nodes) (mk mu : Option Nat) (nk : Nat) (fk : Int → Option Value) (id : Int) (w : World) (hid : 0 ≤ id ∧ id ≤ 4294967295) (h : TreeIs w v ns mk mu nk fk) :
    Calls Tryz.prog 70 #[v, .int .u32 id] w fun e w' => e = .returned (.tuple #[.int .u32 ((upOf ns id).getD 0), .bool (upOf ns id).isSome]) ∧ Below w.heap.size w w' := by
  have HU := Lib.hid h.up
  have HWF := Lib.hid (u32_wf hid)
  have hv := h.shape
  subst hv
  clear h
  obtain ⟨x, hx⟩ : ∃ x, (upOf ns id).getD 0 = x := ⟨_, rfl⟩
  obtain ⟨s, hs⟩ : ∃ s, (upOf ns id).isSome = s := ⟨_, rfl⟩
  have HG := Lib.hid (show ((upOf ns id).map (Value.int .u32)).getD (.int .u32 0) = .int .u32 x by rw [upv_getD, hx])
  have HS := Lib.hid (show ((upOf ns id).map (Value.int .u32)).isSome = s by simp [hs])
  rw [hs, hx]
  clear hx hs
  go_enter Tryz.func70, Tryz.ntmps70
  go_wp2_with (at_lookup; refine opt_look_ok rfl _ _ 32 rfl 49 49 .u32 Tryz.underlying49 Tryz.underlying32 (.int .u32 0) (Tryz.zeroID _) mu ns.length (fun i => (upOf ns i).map (Value.int .u32)) rfl (HU.out.below (by repeat (first | exact bre _ | refine bal ?_ _ | refine bset ?_ (by simp) _ | refine bset ?_ (by simp; omega) _))) id rfl HWF.out ?_; dsimp only; rw [HG.out, HS.out])
  exact bodyPost_ret (v := .tuple #[.int .u32 x, .bool s]) (by simp [results, Tryz.results70, go_sem]) rfl ⟨rfl, (by repeat (first | exact bre _ | refine bal ?_ _ | refine bset ?_ (by simp) _ | refine bset ?_ (by simp; omega) _))⟩

end Go.Proofs.YtbkkecijcijhdaaGreat
end
