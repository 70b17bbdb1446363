/-
  The walk of line.Region.
-/
import Derived.Test.YtcdecglbkcllaaaLineRegC
namespace Go.Proofs.Ytcdecglbkcllaaa
open Go.RowKit Go.Shelf Go.Lib Go.Sort

theorem cell_keepCells {W W' : World} (k : ∀ (i : Nat) (o : Obj), W.heap[i]? = some o → o.isCells = true → W'.heap[i]? = some o) {p : Addr} {v : Value} (h : W.cell? p = some v) : W'.cell? p = some v := by
  have hh := h
  unfold World.cell? at h
  split at h
  · rename_i e
    have := k _ _ e rfl
    rw [World.cell?_of_block (this.trans e.symm)]
    exact hh
  · cases h
theorem RdR.keepCells {W W' : World} {A : Option Addr} {n : Nat} {rs : List RC} (h : RdR W A n rs) (hs : W.heap.size = W'.heap.size) (k : ∀ (i : Nat) (o : Obj), W.heap[i]? = some o → o.isCells = true → W'.heap[i]? = some o) : RdR W' A n rs :=
  ⟨h.1, fun hn => by
    obtain ⟨b, off, e, hb, hc⟩ := h.2 hn
    exact ⟨b, off, e, by omega, fun i r hi => by
      obtain ⟨c0, c1, c2, c3⟩ := hc i r hi
      exact ⟨cell_keepCells k c0, cell_keepCells k c1, cell_keepCells k c2, cell_keepCells k c3⟩⟩⟩
theorem RdR.farSlice {W : World} {A B : Option Addr} {n m c g : Nat} {t : TypeId} {rs : List RC} (h : RdR W A n rs) (hB : Blk W g t #[.slice B m c]) (u : Value) : RdR (W.setCell ⟨g, 0, none⟩ u) A n rs :=
  ⟨h.1, fun hn => by
    obtain ⟨b, off, e, hb, hc⟩ := h.2 hn
    have hne : b ≠ g := fun e' => by
      subst e'
      obtain ⟨r, hr'⟩ : ∃ r, rs[0]? = some r := ⟨_, List.getElem?_eq_getElem (by rw [h.1]; exact hn)⟩
      obtain ⟨c0, _⟩ := hc 0 r hr'
      rw [hB.cell] at c0
      cases hoff : off + 0 * 4 with
      | zero => rw [hoff] at c0; simp at c0
      | succ k => rw [hoff] at c0; simp at c0
    have hk : ∀ o v, W.cell? ⟨b, o, none⟩ = some v → (W.setCell ⟨g, 0, none⟩ u).cell? ⟨b, o, none⟩ = some v := fun o v hv => (World.cell?_setCell_other W ⟨g, 0, none⟩ ⟨b, o, none⟩ u (fun e' => by cases e'; exact hne rfl)).trans hv
    exact ⟨b, off, e, by simpa [World.setCell] using hb, fun i r hi => by
      obtain ⟨c0, c1, c2, c3⟩ := hc i r hi
      exact ⟨hk _ _ c0, hk _ _ c1, hk _ _ c2, hk _ _ c3⟩⟩⟩

set_option maxRecDepth 1000000 in
set_option maxHeartbeats 4000000 in
theorem region_ok (g c n : Nat) (l : List Ln.PtR) (w : World) (hn : l.length = n) (hl : 1 ≤ n ∧ n ≤ 4096) (hg : g < w.heap.size)
    (hc : ∀ k p, (Ln.unR l)[k]? = some p → w.cell? ⟨g, k * 2, none⟩ = some (.int .i64 p.1) ∧ w.cell? ⟨g, k * 2 + 1, none⟩ = some (.int .i64 p.2)) (hlong : Ln.lenP l ≤ 65536) :
    Calls Try.prog 24 #[.slice (some ⟨g, 0, none⟩) n c] w fun e w' => ∃ (out : List RC) (A' : Option Addr) (c' : Nat), e = .returned (.agg #[.slice A' out.length c']) ∧ RdR w' A' out.length out ∧ Canon out ∧ (∀ x y, InR out x y ↔ ∃ q ∈ pathA l n, q.1 = (x, y) ∧ x < 1048576 ∧ y < 1048576) ∧ out.length ≤ 1000000000000 ∧ Below w.heap.size w w' := by
  have d : decide ((4096 : Int) < (n : Int)) = false := by simp; omega
  have HN := Lib.hid hn
  have HC := Lib.hid hc
  have hrdp : Ln.RdP w (.slice (some ⟨g, 0, none⟩) n c) (Ln.unR l) := .inr ⟨g, c, by rw [show (Ln.unR l).length = n from by simp [Ln.unR, hn]], hg, hc⟩
  have HRP := Lib.hid hrdp
  clear hn hc hrdp
  refine (callsIn_wide (n := 5)).1 ?_
  refine callsIn_of_wp_marks Try.func24 rfl trivial ?_ rfl
  refine wpIn_wide.2 ?_
  simp only [Try.ntmps24, List.size_toArray, List.length_cons, List.length_nil, Nat.reduceAdd, Nat.reduceSub, Array.replicate_succ, Array.replicate_zero, List.push_toArray, List.append_toArray, List.nil_append, List.cons_append]
  go_wp2_with fail
  have HB0 := Lib.hid (bal (bre w) (.cells #[.slice none 0 0] 54))
  have bZ := Blk.new w 54 #[.slice none 0 0]
  have hzs : (w.alloc (.cells #[.slice none 0 0] 54)).heap.size = w.heap.size + 1 := World.size_alloc _ _
  obtain ⟨Z, hZ⟩ : ∃ Z, w.alloc (.cells #[.slice none 0 0] 54) = Z := ⟨_, rfl⟩
  rw [hZ] at HB0 bZ hzs ⊢
  have BZ := Lib.hid bZ
  have HZS := Lib.hid hzs
  clear hZ bZ hzs
  go_loopw [19] (fun i wr => ∃ k : Nat, i = .int .i64 k ∧ k ≤ n ∧ Below Z.heap.size Z wr) (fun i _ => n - (intOf i).toNat)
  case atStart => exact ⟨0, rfl, by omega, bre Z⟩
  case round =>
    obtain ⟨k, rfl, hk, hB⟩ := hrel
    have HB := Lib.hid hB
    by_cases hkm : k < n
    · obtain ⟨p, hp⟩ : ∃ p, l[k]? = some p := ⟨_, List.getElem?_eq_getElem (by have := HN.out; omega)⟩
      have hp1 := HC.out k p.1 (by simp [Ln.unR, hp])
      have hbb := bstep HB0.out hB
      have a0 := (hbb.cell (p := ⟨g, k * 2, none⟩) hg).trans hp1.1
      have a1 := (hbb.cell (p := ⟨g, k * 2 + 1, none⟩) hg).trans hp1.2
      have k1 : (k : Int) < (n : Int) := by omega
      have HRT := Lib.hid p.2
      clear hB hp hp1 hbb
      go_wp2_with (go_at_call 33; refine (Ln.right_any _ _ _).mono ?_; rintro e w' ⟨rfl, rfl⟩; rw [HRT.out])
      go_roundw
      case rel => exact ⟨k + 1, by go_num, by omega, bal (bal HB.out _) _⟩
      case measure => simp [intOf]; omega
    · obtain rfl : k = n := by omega
      have bR := BZ.out.belowS hB
      have r0 : wr.cell? ⟨w.heap.size, 0, none⟩ = some (.slice none 0 0) := (bR.cell 0).trans rfl
      have rf : wr.frozen? ⟨w.heap.size, 0, none⟩ = false := bR.frozen 0
      have rl := bR.lt
      obtain ⟨L, hL⟩ : ∃ L, Ln.lenP l = L := ⟨_, rfl⟩
      have HL := Lib.hid hL
      have hLb : L ≤ 65536 := by omega
      have dl : decide ((65536 : Int) < L) = false := by simp; omega
      clear hB bR hL hlong
      go_upto_region 13 with (go_at_call 41; refine (Ln.length_any _ l _ (by have := HN.out; omega) (HRP.out.below (bstep HB0.out HB.out))).mono ?_; rintro e w2 ⟨rfl, hb2⟩; rw [HL.out]; have HB2 := Lib.hid hb2; have s0 := (hb2.cell (p := ⟨w.heap.size, 0, none⟩) rl).trans r0; have sf := (hb2.frozen (p := ⟨w.heap.size, 0, none⟩) rl).trans rf; have sl := Nat.lt_of_lt_of_le rl hb2.size; clear hb2)
      have bx := Blk.new w2 52 #[.slice none 0 0]
      have bV := bstep (bstep HB.out HB2.out) (bal (bre w2) (.cells #[.slice none 0 0] 52))
      have hbV := bstep HB0.out bV
      obtain ⟨V, hV⟩ : ∃ V, w2.alloc (.cells #[.slice none 0 0] 52) = V := ⟨_, rfl⟩
      obtain ⟨g5, hg5⟩ : ∃ g5, w2.heap.size = g5 := ⟨_, rfl⟩
      have hVs : V.heap.size = g5 + 1 := by rw [← hV, ← hg5]; simp
      rw [hV] at bx bV hbV ⊢
      rw [hg5] at bx sl ⊢
      have hgw : w.heap.size ≤ g5 := by omega
      have bZV := BZ.out.belowS bV
      have hC : RegCtx V g g5 k l := ⟨by omega, by omega, HN.out, hl, fun j p hj => ⟨(hbV.cell (p := ⟨g, j * 2, none⟩) hg).trans (HC.out j p hj).1, (hbV.cell (p := ⟨g, j * 2 + 1, none⟩) hg).trans (HC.out j p hj).2⟩, by
        have e := HL.out
        have e2 : Ln.lenP l = 1 + Ln.lenK l (k - 1) := by simp [Ln.lenP, HN.out]; omega
        omega⟩
      have hst : RegRel V g5 k l [] (.int .i64 0) V := ⟨0, .slice none 0 0, rfl, by omega, ⟨grown_of_below (bre V) _, bx, by simpa [pathA, joinAll, rcs] using World.ownsRow_nil V V.heap.size 45 4⟩, Marks.nil _ _⟩
      have HZV := Lib.hid bZV
      have HVB := Lib.hid hbV
      have HCX := Lib.hid hC
      clear hV hg5 bx bV hbV bZV s0 sf r0 rf
      refine reg_loop V g g5 k c l HCX.out [] V _ _ _ _ _ _ _ _ _ _ _ _ _ _ _ _ _ _ _ _ _ _ _ _ _ _ _ _ _ _ _ _ _ _ _ _ _ _ _ _ _ _ _ _ _ _ _ _ _ _ _ _ _ _ _ _ _ _ _ _ _ _ _ _ _ _ _ _ _ _ hst ?_
      clear hst
      intro a' wy hI
      unfold RWX at hI
      obtain ⟨u6, hI⟩ := hI
      obtain ⟨u7, hI⟩ := hI
      obtain ⟨u8, hI⟩ := hI
      obtain ⟨u9, hI⟩ := hI
      obtain ⟨u10, hI⟩ := hI
      obtain ⟨u11, hI⟩ := hI
      obtain ⟨u12, hI⟩ := hI
      obtain ⟨u34, hI⟩ := hI
      obtain ⟨u35, hI⟩ := hI
      obtain ⟨u36, hI⟩ := hI
      obtain ⟨u37, hI⟩ := hI
      obtain ⟨u38, hI⟩ := hI
      obtain ⟨u39, hI⟩ := hI
      obtain ⟨u40, hI⟩ := hI
      obtain ⟨u41, hI⟩ := hI
      obtain ⟨u42, hI⟩ := hI
      obtain ⟨u43, hI⟩ := hI
      obtain ⟨u44, hI⟩ := hI
      obtain ⟨u45, hI⟩ := hI
      obtain ⟨u46, hI⟩ := hI
      obtain ⟨u47, hI⟩ := hI
      obtain ⟨u48, hI⟩ := hI
      obtain ⟨u49, hI⟩ := hI
      obtain ⟨u50, hI⟩ := hI
      obtain ⟨u51, hI⟩ := hI
      obtain ⟨u52, hI⟩ := hI
      obtain ⟨u53, hI⟩ := hI
      obtain ⟨u54, hI⟩ := hI
      obtain ⟨u55, hI⟩ := hI
      obtain ⟨u56, hI⟩ := hI
      obtain ⟨u57, hI⟩ := hI
      obtain ⟨u58, hI⟩ := hI
      obtain ⟨u59, hI⟩ := hI
      obtain ⟨u60, hI⟩ := hI
      obtain ⟨u61, hI⟩ := hI
      obtain ⟨u62, hI⟩ := hI
      obtain ⟨u63, hI⟩ := hI
      obtain ⟨u64, hI⟩ := hI
      obtain ⟨u65, hI⟩ := hI
      obtain ⟨u66, hI⟩ := hI
      obtain ⟨u67, hI⟩ := hI
      obtain ⟨u68, hI⟩ := hI
      obtain ⟨u69, hI⟩ := hI
      obtain ⟨u70, hI⟩ := hI
      obtain ⟨ds, hE, ha⟩ := hI
      subst ha
      obtain ⟨vo, M, hm⟩ := hE
      obtain ⟨Ao, co, hvo, _⟩ := own_form M.own
      subst hvo
      have hok := joinAll_ok (pathA l k)
      have hjl := joinAll_len (pathA l k)
      have hpl := pathA_len l k
      have hlo := HCX.out.long
      have hj7 : (joinAll (pathA l k)).length ≤ 100000 := by omega
      have c5 := M.box.cellV (i := 0) (v := .slice Ao (joinAll (pathA l k)).length co) rfl
      have hbw : Below w.heap.size w wy := HVB.out.grown M.grown HVB.out.size (fun q e => by cases e; exact hgw)
      have hVwy := M.grown.size
      have bRy := HZV.out.grown M.grown (by intro e; injection e with e; omega)
      have HBRY := Lib.hid bRy
      have HBW := Lib.hid hbw
      have HM := Lib.hid M
      have HMK := Lib.hid hm
      have HOK := Lib.hid hok
      have hRd : RdR wy Ao (joinAll (pathA l k)).length (joinAll (pathA l k)) := RdR.of_own M.own rfl
      have HRD := Lib.hid hRd
      have rly := bRy.lt
      clear M hm hok hjl hpl hlo bRy hbw hRd
      go_wp2_with (go_at_call 43; refine (of_any Ao _ co (joinAll (pathA l k)) _ hj7 HRD.out (fun r hr => by have := (cnt_iff2 r).1 (HOK.out.1 r hr); omega)).mono ?_; rintro e w8 ⟨out, A', c', rfl, hr8, hca, hpl8, hol8, hb8⟩; have b8 := HBRY.out.belowS hb8; have s0 := b8.cellV (i := 0) (v := .slice none 0 0) rfl; have sf := b8.frozen 0; have sl8 := b8.lt; have HB8 := Lib.hid b8; have HR8 := Lib.hid hr8; have HCA := Lib.hid hca; have HPL := Lib.hid hpl8; have HOL := Lib.hid hol8; have HBB8 := Lib.hid hb8; clear b8 hr8 hca hpl8 hol8 hb8)
      refine leaves_marks ds _ ((HMK.out.below HBB8.out).setCell _ _) (fun w' k0 k1 k2 k3 k4 k5 => ?_)
      have hb2 := bset (bstep HBW.out HBB8.out) (p := ⟨w.heap.size, 0, none⟩) (Nat.le_refl _) (.slice A' out.length c')
      have hr := (show Blk w' w.heap.size _ _ from k5 _ _ (HB8.out.set_ 0 (.slice A' out.length c')) rfl).cellV (i := 0) (v := .slice A' out.length c') rfl
      have hrd := RdR.keepCells (RdR.farSlice HR8.out HB8.out (.slice A' out.length c')) k0 k5
      refine ⟨.agg #[.slice A' out.length c'], by simp [results, Try.results24, go_sem, hr], ⟨out, A', c', rfl, hrd, HCA.out, ?_, HOL.out, of_below hb2 (by omega) k0 k1 k2 k3 k4⟩⟩
      intro x y
      rw [HPL.out, ← HOK.out.2]
      rw [show (joinAll (pathA l k)).filter RC.cnt = joinAll (pathA l k) from List.filter_eq_self.2 HOK.out.1]

end Go.Proofs.Ytcdecglbkcllaaa
