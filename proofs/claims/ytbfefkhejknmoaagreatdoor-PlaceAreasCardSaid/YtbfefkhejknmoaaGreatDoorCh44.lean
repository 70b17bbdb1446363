/-
  The walk of a place's Mates.
-/
import Derived.Test.YtbfefkhejknmoaaGreatDoorCh43
import Derived.Test.YtbfefkhejknmoaaGreatDoorCh33
namespace Go.Proofs.YtbfefkhejknmoaaGreatDoor
open Go.RowKit Go.Maps Go.Shelf

def mapB (bs : Bxs) (i : Int) : Bool := match bs i with | some b => b.M | none => false
def rcV (b : BX) : Value := .agg #[.int .i64 b.X, .int .i64 b.Y, .int .i64 b.W, .int .i64 b.H]
/-- the mapped ones of some windows, with their rectangles. -/
def mateF (bs : Bxs) (ks : List Int) : Int → Option Value := fun i => if i ∈ ks ∧ mapB bs i = true then (bs i).map rcV else none
def mateN (bs : Bxs) (ks : List Int) : Nat := (ks.filter (mapB bs)).length
theorem mateF_nil (bs : Bxs) : mateF bs [] = fun _ => none := by
  funext i
  simp [mateF]
theorem mateF_snoc_no {bs : Bxs} {ks : List Int} {x : Int} (h : mapB bs x = false) : mateF bs (ks ++ [x]) = mateF bs ks := by
  funext i
  unfold mateF
  by_cases e : i = x
  · subst e
    simp [h]
  · simp [e]
theorem mateF_snoc_yes {bs : Bxs} {ks : List Int} {x : Int} {b : BX} (h : mapB bs x = true) (hb : bs x = some b) : mateF bs (ks ++ [x]) = fun j => if j = x then some (rcV b) else mateF bs ks j := by
  funext i
  unfold mateF
  by_cases e : i = x
  · subst e
    simp [h, hb]
  · simp [e]
theorem mateN_snoc (bs : Bxs) (ks : List Int) (x : Int) : mateN bs (ks ++ [x]) = mateN bs ks + (if mapB bs x then 1 else 0) := by
  unfold mateN
  rw [List.filter_append]
  by_cases h : mapB bs x = true <;> simp [h]
theorem mateN_le (bs : Bxs) (ks : List Int) : mateN bs ks ≤ ks.length := List.length_filter_le _ _

set_option maxRecDepth 100000 in
set_option maxHeartbeats 4000000 in
theorem mates_any (pv tv : Value) (n : Nat) (bs : Bxs) (ns : Nodes) (mk mu : Option Nat) (nk : Nat) (fk : Int → Option Value) (id p : Int) (w : World) (hid : 0 ≤ id ∧ id ≤ 4294967295) (hp : PlaceIs w pv n bs) (h : TreeIs w tv ns mk mu nk fk) (hok : TreeOk ns) (hup : upOf ns id = some p) :
    Calls Tryz.prog 30 #[pv, tv, .int .u32 id] w fun e w' => ∃ m, e = .returned (.map (some m)) ∧ MapIs Tryz.prog 27 .u32 w' m (mateN bs (kidsOf ns p)) (mateF bs (kidsOf ns p)) ∧ w.heap.size ≤ m ∧ Below w.heap.size w w' := by
  obtain ⟨mb, rfl, hm⟩ := hp
  have hv := h.shape
  subst hv
  have hmm := @run_makeMap Tryz.prog
  have HT := Lib.hid h
  have HM := Lib.hid hm
  have HOK := Lib.hid hok
  have hpb := upv_wf h.ok hup
  have HBE := Lib.hid (bal (bal (bal (bre w) (.cells #[.map mb] 38)) (.cells #[.map mk, .map mu] 35)) (.map #[] 0))
  have H3 := Lib.hid (((Blk.new w 38 #[.map mb]).alloc (.cells #[.map mk, .map mu] 35)).alloc (.map #[] 0))
  have H4 := Lib.hid ((blk_new2 w (.cells #[.map mb] 38) 35 #[.map mk, .map mu]).alloc (.map #[] 0))
  have hmade : MapIs Tryz.prog 27 .u32 (((w.alloc (.cells #[.map mb] 38)).alloc (.cells #[.map mk, .map mu] 35)).alloc (.map #[] 0)) (w.heap.size + 1 + 1) 0 (fun _ => none) := by
    have := MapIs.made (P := Tryz.prog) (k := 27) (q := .u32) ((w.alloc (.cells #[.map mb] 38)).alloc (.cells #[.map mk, .map mu] 35))
    rwa [World.size_alloc, World.size_alloc] at this
  have HMM := Lib.hid hmade
  have hkl := kids_len h.few p
  have HU1 := Lib.hid (show (upOf ns id).getD 0 = p by rw [hup]; rfl)
  have HU2 := Lib.hid (show (upOf ns id).isSome = true by rw [hup]; rfl)
  clear h hm hmade hup
  go_enter Tryz.func30, Tryz.ntmps30
  go_wp2_with fail
  with_reducible refine (parent_any _ ns mk mu nk fk id _ hid (HT.out.below HBE.out)).mono ?_
  rintro e w1 ⟨rfl, hb1⟩
  rw [HU1.out, HU2.out]
  have b4 := H4.out.belowS hb1
  have t0 := b4.cellV (i := 0) (v := .map mk) rfl
  have t1 := b4.cellV (i := 1) (v := .map mu) rfl
  have l4 := b4.lt
  have HB1 := Lib.hid (bstep HBE.out hb1)
  have K3 := Lib.hid (H3.out.belowS hb1)
  have K4 := Lib.hid b4
  have HM1 := Lib.hid (HMM.out.below hb1)
  clear b4 hb1
  go_wp2_with fail
  with_reducible refine (kids_any _ ns mk mu nk fk p _ hpb (HT.out.below HB1.out)).mono ?_
  rintro e w2 ⟨u, rfl, hou, hb2⟩
  obtain ⟨A, c, rfl, hc⟩ := own_form hou
  have HOU := Lib.hid hou
  have HB2 := Lib.hid (bstep HB1.out hb2)
  have K3 := Lib.hid (K3.out.belowS hb2)
  have HM2 := Lib.hid (HM1.out.below hb2)
  have hml := HM1.out.lt
  have HS2 := Lib.hid hb2.size
  obtain ⟨l, hl⟩ : ∃ l, kidsOf ns p = l := ⟨_, rfl⟩
  have HND := Lib.hid (show l.Nodup by rw [← hl]; exact kids_nodup HOK.out p)
  have HLO := Lib.hid (show ∀ x ∈ l, 0 ≤ x ∧ x ≤ 4294967295 from fun x hx => kids_ok HT.out.ok (by rw [hl]; exact hx))
  have HL := Lib.hid hl
  rw [hl] at HOU hc hkl ⊢
  obtain ⟨n', hn'⟩ : ∃ n', l.length = n' := ⟨_, rfl⟩
  rw [hn'] at HOU hc hkl ⊢
  have HN' := Lib.hid hn'
  clear t0 t1 l4 hou hb2 hl hn' HM1
  go_wp2_with fail
  go_loopw [28, 11, 12, 13] (fun i _ _ _ wr => ∃ k : Nat, i = .int .i64 k ∧ k ≤ n' ∧ MapIs Tryz.prog 27 .u32 wr (w.heap.size + 1 + 1) (mateN bs (l.take k)) (mateF bs (l.take k)) ∧ w2.grownBy wr (some (w.heap.size + 1 + 1))) (fun i _ _ _ _ => n' - (intOf i).toNat)
  case atStart => exact ⟨0, rfl, by omega, by rw [List.take_zero, mateF_nil]; exact HM2.out, ⟨rfl, rfl, rfl, Nat.le_refl _, fun _ _ _ => rfl⟩⟩
  case round =>
    obtain ⟨k, rfl, hk, hmap, hgw⟩ := hrel
    have HMP := Lib.hid hmap
    have HG := Lib.hid hgw
    have HBW := Lib.hid (HB2.out.grown hgw HB2.out.size (fun q e => by cases e; omega))
    have HK3 := Lib.hid (K3.out.grown hgw (by intro e; injection e with e; omega))
    have hsz := hgw.size
    have hown := HOU.out.kept hgw (.inr (fun e => by have := own_ge HOU.out _ e; omega))
    have HOW := Lib.hid hown
    clear hmap hgw hown
    by_cases hlt : k < n'
    · obtain ⟨x, hx⟩ : ∃ x, l[k]? = some x := ⟨_, List.getElem?_eq_getElem (by rw [HN'.out]; exact hlt)⟩
      have hxb := HLO.out x (List.mem_of_getElem? hx)
      have HWF := Lib.hid (u32_wf hxb)
      have HTK := Lib.hid (take_snoc' hx)
      have HXN := Lib.hid (show x ∉ l.take k by
        intro hm
        obtain ⟨j, hj, hje⟩ := List.mem_iff_getElem.1 hm
        rw [List.length_take] at hj
        rw [List.getElem_take] at hje
        obtain ⟨hk', hke⟩ := List.getElem?_eq_some_iff.1 hx
        exact List.pairwise_iff_getElem.1 HND.out j k (by omega) hk' (by omega) (hje.trans hke.symm))
      obtain ⟨b, off, rfl, hbl, hcl⟩ := (Rd.of_own HOW.out).2 (by omega)
      have hcell := hcl k _ (U32_at hx)
      have p3 := HK3.out.cellV (i := 0) (v := .map mb) rfl
      have k1 : (k : Int) < (n' : Int) := by omega
      have k0 : (0 : Int) ≤ (k : Int) := by omega
      obtain ⟨b0, hb0⟩ : ∃ b0, (bs x).getD zBX = b0 := ⟨_, rfl⟩
      have HGV := Lib.hid (show (bs.f x).getD zBX.v = b0.v from (bxv_getD (bs x)).trans (by rw [hb0]))
      have HSV := Lib.hid (show (bs.f x).isSome = (bs x).isSome by simp [Bxs.f])
      have HBZ := Lib.hid hb0
      have HMN := Lib.hid (mateN_le bs (l.take k))
      clear hx hcl hb0
      cases hmp : mapB bs x
      · have HMB := Lib.hid hmp
        have hor : (bs x).isSome = false ∨ ((bs x).isSome = true ∧ b0.M = false) := by
          unfold mapB at hmp
          have := HBZ.out
          cases hbx : bs x with
          | none => exact .inl rfl
          | some b =>
            rw [hbx] at hmp this
            simp only [Option.getD_some] at this
            subst this
            exact .inr ⟨rfl, hmp⟩
        clear hmp
        rcases hor with h1 | ⟨h1, h2⟩
        all_goals
          (have H1' := Lib.hid h1)
          (try have hM := h2)
          (clear h1)
          go_wp2_with (at_lookup; refine opt_look_ok rfl _ _ 36 rfl 27 46 .u32 Tryz.underlying27 Tryz.underlying36 zBX.v (Tryz.zeroBox _) mb n bs.f rfl (HM.out.below HBW.out) x rfl HWF.out ?_; rw [HGV.out, HSV.out, H1'.out]; unfold BX.v)
          go_roundw
          case rel =>
            refine ⟨k + 1, by go_num, by omega, ?_, HG.out.andThen (World.grownBy_alloc _ _ none) (fun j hj => by cases hj)⟩
            rw [HTK.out, mateN_snoc, mateF_snoc_no HMB.out, HMB.out]
            exact HMP.out.alloc _
          case measure => simp [intOf]; omega
      · have HMB := Lib.hid hmp
        obtain ⟨bx, hbx, hM⟩ : ∃ bx, bs x = some bx ∧ bx.M = true := by
          unfold mapB at hmp
          cases hbx : bs x with
          | none => rw [hbx] at hmp; cases hmp
          | some b => rw [hbx] at hmp; exact ⟨b, rfl, hmp⟩
        have e0 : bx = b0 := by
          have := HBZ.out
          rw [hbx] at this
          exact this
        subst e0
        have H1' := Lib.hid (show (bs x).isSome = true by rw [hbx]; rfl)
        have HBX := Lib.hid hbx
        clear hmp hbx
        go_wp2_with (at_lookup; refine opt_look_ok rfl _ _ 36 rfl 27 46 .u32 Tryz.underlying27 Tryz.underlying36 zBX.v (Tryz.zeroBox _) mb n bs.f rfl (HM.out.below HBW.out) x rfl HWF.out ?_; rw [HGV.out, HSV.out, H1'.out]; unfold BX.v)
        refine (rect_any ⟨bx.X, bx.Y, bx.W, bx.H, true, bx.G, bx.B, bx.S, bx.A, bx.n, bx.c⟩ _).mono ?_
        rintro e w5 ⟨rfl, hb5⟩
        have HG5 := Lib.hid (show w2.grownBy w5 (some (w.heap.size + 1 + 1)) from (HG.out.andThen (World.grownBy_alloc wr (.cells #[.int .i64 bx.X, .int .i64 bx.Y, .int .i64 bx.W, .int .i64 bx.H, .bool true, .int .i64 bx.G, .int .i64 bx.B, .bool bx.S, .slice bx.A bx.n bx.c] 46) none) (fun j hj => by cases hj)).andThen (show _ from ⟨hb5.os, hb5.tape, hb5.output, hb5.size, fun i hi _ => hb5.block i hi⟩ : (wr.alloc (.cells #[.int .i64 bx.X, .int .i64 bx.Y, .int .i64 bx.W, .int .i64 bx.H, .bool true, .int .i64 bx.G, .int .i64 bx.B, .bool bx.S, .slice bx.A bx.n bx.c] 46)).grownBy w5 none) (fun j hj => by cases hj))
        have HM5 := Lib.hid ((HMP.out.alloc (.cells #[.int .i64 bx.X, .int .i64 bx.Y, .int .i64 bx.W, .int .i64 bx.H, .bool true, .int .i64 bx.G, .int .i64 bx.B, .bool bx.S, .slice bx.A bx.n bx.c] 46)).below hb5)
        have HNO := Lib.hid (show (mateF bs (l.take k) x).isSome = false by unfold mateF; rw [if_neg (fun h => HXN.out h.1)]; rfl)
        clear hb5
        go_wp2_with (at_mapUpdate; refine map_put rfl _ _ _ 76 rfl 27 29 .u32 Tryz.underlying27 Tryz.underlying76 (w.heap.size + 1 + 1) (mateN bs (l.take k)) (mateF bs (l.take k)) rfl HM5.out (by have := HMN.out; rw [List.length_take] at this; simp only [maxLen]; omega) x (rcV bx) rfl rfl HWF.out ?_; rw [HNO.out]; intro w6 hm6 hg6; have HM6 := Lib.hid hm6; have HG6 := Lib.hid hg6; clear hm6 hg6; go_frame)
        go_roundw
        case rel =>
          refine ⟨k + 1, by go_num, by omega, ?_, HG5.out.andThen HG6.out (fun j hj => .inr hj)⟩
          rw [HTK.out, mateN_snoc, mateF_snoc_yes HMB.out HBX.out, HMB.out]
          exact HM6.out
        case measure => simp [intOf]; omega
    · obtain rfl : k = n' := by omega
      go_wp2_with fail
      go_ret
      have ht : l.take k = l := List.take_of_length_le (by rw [HN'.out]; exact Nat.le_refl _)
      have := HMP.out
      rw [ht] at this
      rw [HL.out]
      exact ⟨_, rfl, this, by omega, HBW.out⟩

end Go.Proofs.YtbfefkhejknmoaaGreatDoor
