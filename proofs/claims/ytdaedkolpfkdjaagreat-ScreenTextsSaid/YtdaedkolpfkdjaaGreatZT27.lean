/-
  The walks of a grid's spans and of what Fill does in a stretch.
  The walk of a grid's Fill.
  The walks of what Lay does in a stretch, and of a grid's Lay.
-/
import Derived.WalkMore
import Derived.Test.YtdaedkolpfkdjaaGreatZT26
section
namespace Go.Proofs.YtdaedkolpfkdjaaGreat.Gr
open Go.RowKit Go.Shelf

theorem u8_get {px : List Int} {i : Nat} {p : Int} (h : px[i]? = some p) : (U8 px)[i]? = some (.int .u8 p) := by simp [U8, h]
theorem u8_set (px : List Int) (i : Nat) (p : Int) : (U8 px).set i (.int .u8 p) = U8 (px.set i p) := by simp [U8, List.map_set]
end Go.Proofs.YtdaedkolpfkdjaaGreat.Gr
namespace Go.Proofs.YtdaedkolpfkdjaaGreat
open Go.RowKit Go.Shelf
theorem Blk.putU8 {w : World} {g : Nat} {t : TypeId} {px : List Int} (h : Blk w g t (Gr.U8 px).toArray) (i : Nat) (p : Int) : Blk (w.setCell ⟨g, i, none⟩ (.int .u8 p)) g t (Gr.U8 (px.set i p)).toArray := by
  have := h.set_ i (.int .u8 p)
  rwa [List.setIfInBounds_toArray, Gr.u8_set] at this

end Go.Proofs.YtdaedkolpfkdjaaGreat
namespace Go.Proofs.YtdaedkolpfkdjaaGreat.Gr
open Go.RowKit Go.Shelf
set_option maxRecDepth 100000 in
set_option maxHeartbeats 2000000 in
theorem fill1_any (W H gp bp bo n a b y : Nat) (yi ai bi p : Int) (M : Nat → Nat → Bool) (px : List Int) (w : World) (hy : yi = y) (hai : ai = a) (hbi : bi = b) (hW : W ≤ 128) (hH : H ≤ 128) (hn : n = W * H) (hl : px.length = n) (hyH : y < H) (hab : a ≤ b) (hbW : b ≤ W)
    (hp : Blk w bp 79 #[.int .u8 p]) (ho : Blk w bo 75 #[.int .i64 W, .int .i64 H, .slice (some ⟨gp, 0, none⟩) n n]) (hg : Blk w gp 79 (U8 (lay W (fun _ _ => some p) M px)).toArray) (hpg : bp ≠ gp) (hog : bo ≠ gp) :
    Calls Tryz.prog 162 #[.int .i64 yi, .int .i64 ai, .int .i64 bi, .pointer (some ⟨bp, 0, none⟩), .pointer (some ⟨bo, 0, none⟩)] w fun e w' => e = .returned (.tuple #[]) ∧ Blk w' gp 79 (U8 (lay W (fun _ _ => some p) (strB M y a b) px)).toArray ∧ w.grownBy w' (some gp) := by
  have HP := Lib.hid hp
  have HO := Lib.hid ho
  have HG := Lib.hid hg
  have HY := Lib.hid hy
  have HA := Lib.hid hai
  have HBI := Lib.hid hbi
  have HN := Lib.hid hn
  have HL := Lib.hid hl
  have hy0 : 0 ≤ yi := by omega
  have m1 : 0 ≤ yi * (W : Int) := Int.mul_nonneg hy0 (by omega)
  have m2 : yi * (W : Int) ≤ 16384 := by
    have : yi * (W : Int) ≤ 128 * 128 := Int.mul_le_mul (by omega) (by omega) (by omega) (by omega)
    omega
  have hnn : n ≤ 16384 := by rw [hn]; exact mul_le_128 hW hH
  clear hp ho hg hy hn hl hai hbi
  go_enter Tryz.func162, Tryz.ntmps162
  go_wp2_with fail
  go_loopw [8] (fun s8 wr => ∃ (x : Nat) (xi : Int), s8 = .int .i64 xi ∧ xi = x ∧ a ≤ x ∧ x ≤ b ∧ Blk wr gp 79 (U8 (lay W (fun _ _ => some p) (strB M y a x) px)).toArray ∧ w.grownBy wr (some gp)) (fun i _ => b - (intOf i).toNat)
  case atStart => exact ⟨a, ai, rfl, HA.out, Nat.le_refl _, hab, by rw [str_start]; exact HG.out, grown_of_below (bre w) _⟩
  case round =>
    obtain ⟨x, xi, rfl, hx, hx1, hx2, hB, hG⟩ := hrel
    have hbi := HBI.out
    by_cases hlt : xi < bi
    · have hxb : x < b := by omega
      have hidx : (yi * (W : Int) + xi).toNat = y * W + x := by
        rw [HY.out, hx, ← Int.natCast_mul, ← Int.natCast_add]
        exact Int.toNat_natCast _
      have hin : y * W + x < n := by
        rw [HN.out]
        have h1 : (y + 1) * W ≤ H * W := Nat.mul_le_mul_right W (by omega)
        rw [Nat.succ_mul, Nat.mul_comm H W] at h1
        omega
      have m3 : yi * (W : Int) + xi < (n : Int) := by omega
      have m4 : 0 ≤ yi * (W : Int) + xi := by omega
      have cp := (HP.out.grown hG (fun e => hpg (by injection e))).cellV (i := 0) rfl
      have c0 := (HO.out.grown hG (fun e => hog (by injection e))).cellV (i := 0) rfl
      have c2 := (HO.out.grown hG (fun e => hog (by injection e))).cellV (i := 2) rfl
      obtain ⟨q, hq⟩ : ∃ q, (lay W (fun _ _ => some p) (strB M y a x) px)[(yi * (W : Int) + xi).toNat]? = some q := ⟨_, List.getElem?_eq_getElem (by rw [lay_len, HL.out, hidx]; exact hin)⟩
      have cg := hB.cellV (i := (yi * (W : Int) + xi).toNat) (v := .int .u8 q) (by simpa using u8_get hq)
      have fg := hB.frozen (yi * (W : Int) + xi).toNat
      have x0 : 0 ≤ xi := by omega
      have HX := Lib.hid hx
      have HBB := Lib.hid hB
      have HGG := Lib.hid hG
      have HI := Lib.hid hidx
      clear hx hB hG hq hidx hbi
      go_wp2_with fail
      go_roundw
      case rel =>
        refine ⟨x + 1, xi + 1, by go_num, by rw [HX.out]; rfl, by omega, by omega, ?_, HGG.out.andThen (grown_setCell _ _ _) (fun j hj => .inr hj)⟩
        have h2 := HBB.out.putU8 (yi * (W : Int) + xi).toNat p
        rw [HI.out, str_step hx1 (by omega) rfl] at h2
        rw [HI.out]
        exact h2
      case measure => have := HX.out; have := HBI.out; simp [intOf]; omega
    · obtain rfl : x = b := by omega
      have HBB := Lib.hid hB
      have HGG := Lib.hid hG
      clear hx hB hG hbi
      go_wp2_with fail
      exact bodyPost_end (v := .tuple #[]) (by simp [results, Tryz.results162, go_sem]) rfl ⟨rfl, HBB.out, HGG.out⟩

theorem noGoto_normal {Q : Exit → Act → World → Prop} {a : Act} {w : World} (h : Q .normal a w) : Exit.noGoto Q .normal a w := h
/-- what a function that spans hands stretches to does. -/
def DoFn (fk : Nat) (caps : Array Value) (K : World → Prop) (W H gp : Nat) (S : Nat → Nat → Option Int) (px : List Int) : Prop :=
  ∀ (M : Nat → Nat → Bool) (y a b : Nat) (yi ai bi : Int) (w : World), yi = y → ai = a → bi = b → y < H → a ≤ b → b ≤ W → K w → Blk w gp 79 (U8 (lay W S M px)).toArray →
    Calls Tryz.prog fk (#[.int .i64 yi, .int .i64 ai, .int .i64 bi] ++ caps) w fun e w' => e = .returned (.tuple #[]) ∧ Blk w' gp 79 (U8 (lay W S (strB M y a b) px)).toArray ∧ w.grownBy w' (some gp)
end Go.Proofs.YtdaedkolpfkdjaaGreat.Gr
namespace Go.Proofs.YtdaedkolpfkdjaaGreat
open Go.RowKit Go.Shelf
theorem RdR.grown {w w' : World} {A : Option Addr} {n : Nat} {rs : List RC} {gp : Nat} (h : RdR w A n rs) (hg : w.grownBy w' (some gp)) (hA : ∀ a, A = some a → a.block ≠ gp) : RdR w' A n rs :=
  ⟨h.1, fun h0 => by
    obtain ⟨b, off, e, hb, hc⟩ := h.2 h0
    have hne : some b ≠ some gp := fun e' => hA _ e (by injection e')
    refine ⟨b, off, e, Nat.lt_of_lt_of_le hb hg.size, fun i r hi => ?_⟩
    obtain ⟨c0, c1, c2, c3⟩ := hc i r hi
    exact ⟨hg.cell c0 hne, hg.cell c1 hne, hg.cell c2 hne, hg.cell c3 hne⟩⟩

end Go.Proofs.YtdaedkolpfkdjaaGreat
namespace Go.Proofs.YtdaedkolpfkdjaaGreat.Gr
open Go.RowKit Go.Shelf
set_option maxRecDepth 100000 in
set_option maxHeartbeats 4000000 in
theorem spans_do (fk : Nat) (caps : Array Value) (hfk : fk = 162 ∨ fk = 157) (K : World → Prop) (W H gp n c nr cr : Nat) (Ag A : Option Addr) (S : Nat → Nat → Option Int) (px : List Int) (rs : List RC) (w : World)
    (hDo : DoFn fk caps K W H gp S px) (hK : ∀ w1 w2 : World, K w1 → w1.grownBy w2 (some gp) → K w2) (hW : W ≤ 128) (hH : H ≤ 128) (hl : px.length = W * H) (hnr : nr ≤ 1000000000000) (hr : RdR w A nr rs) (hc : ∀ r ∈ rs, r.cnt = true) (hKw : K w) (hg : Blk w gp 79 (U8 px).toArray) :
    Calls Tryz.prog 156 #[.agg #[.int .i64 W, .int .i64 H, .slice Ag n c], .agg #[.slice A nr cr], .func (.func fk) #[] caps] w fun e w' => e = .returned (.tuple #[]) ∧ Blk w' gp 79 (U8 (lay W S (anyP rs) px)).toArray ∧ w.grownBy w' (some gp) := by
  have HDO := Lib.hid hDo
  have HK := Lib.hid hK
  have HL := Lib.hid hl
  have HR := Lib.hid hr
  have HC := Lib.hid hc
  have HKW := Lib.hid hKw
  have HG := Lib.hid hg
  clear hDo hK hl hr hc hKw hg
  go_enter Tryz.func156, Tryz.ntmps156
  have bR := bal (bal (bre w) (.cells #[.int .i64 W, .int .i64 H, .slice Ag n c] 75)) (.cells #[.slice A nr cr] 57)
  have HBR := Lib.hid bR
  clear bR
  go_wp2_with fail
  go_step3
  go_wp2_with fail
  go_step3
  go_wp2_with (go_at_call 148; refine (rects_any _ _ _ rs _ hnr (HR.out.below HBR.out)).mono ?_; rintro e w1 ⟨A', c', rfl, hr1, hf1, hb1⟩; have HR1 := Lib.hid hr1; have HF1 := Lib.hid hf1; have HB1 := Lib.hid hb1; clear hr1 hf1 hb1)
  have bg1 : Blk w1 w.heap.size 75 #[.int .i64 W, .int .i64 H, .slice Ag n c] := ((Blk.new w _ _).alloc _).belowS HB1.out
  have hbw1 := bstep HBR.out HB1.out
  have hgw := HG.out.lt
  have hgl1 := (HG.out.belowS hbw1)
  have hA' : ∀ a, A' = some a → a.block ≠ gp := fun a e => by have := HF1.out a e; simp at this; omega
  have hk1 : K w1 := HK.out w w1 HKW.out (grown_of_below hbw1 _)
  have HBG := Lib.hid bg1
  have HBW1 := Lib.hid hbw1
  have HGL := Lib.hid hgl1
  have HA' := Lib.hid hA'
  have HK1 := Lib.hid hk1
  have hs1 := hbw1.size
  clear bg1 hbw1 hgl1 hA' hk1 HBR HB1 HF1 HG HKW
  go_loopw [14] (fun s14 wr => ∃ k : Nat, s14 = .int .i64 k ∧ k ≤ nr ∧ Blk wr gp 79 (U8 (lay W S (anyP (rs.take k)) px)).toArray ∧ w1.grownBy wr (some gp)) (fun i _ => nr - (intOf i).toNat)
  case atStart => exact ⟨0, rfl, by omega, by rw [List.take_zero, show lay W S (anyP []) px = px from lay_none W S px]; exact HGL.out, grown_of_below (bre w1) _⟩
  case round =>
    obtain ⟨k, rfl, hk, hB, hG⟩ := hrel
    by_cases hlt : k < nr
    · obtain ⟨r, hx⟩ : ∃ r, rs[k]? = some r := ⟨_, List.getElem?_eq_getElem (by have := HR.out.1; omega)⟩
      obtain ⟨b, off, rfl, hbl, hcc⟩ := (HR1.out.grown hG HA'.out).2 (by omega)
      obtain ⟨x0, x1, x2, x3⟩ := hcc k r hx
      have hcr := (cnt_iff r).1 (HC.out r (List.mem_of_getElem? hx))
      have k0 : (0 : Int) ≤ (k : Int) := by omega
      have k1 : (k : Int) < (nr : Int) := by omega
      have htk : rs.take (k + 1) = rs.take k ++ [r] := by rw [List.take_add_one, hx]; rfl
      have HTK := Lib.hid htk
      have HB := Lib.hid hB
      have HGG := Lib.hid hG
      clear hcc hx htk hB hG
      go_upto_region 4 with fail
      have bV := bal (bre wr) (.cells #[.int .i64 r.X, .int .i64 r.Y, .int .i64 r.W, .int .i64 r.H] 103)
      have bx := Blk.new wr 103 #[.int .i64 r.X, .int .i64 r.Y, .int .i64 r.W, .int .i64 r.H]
      obtain ⟨V, hV⟩ : ∃ V, wr.alloc (.cells #[.int .i64 r.X, .int .i64 r.Y, .int .i64 r.W, .int .i64 r.H] 103) = V := ⟨_, rfl⟩
      obtain ⟨B7, hB7⟩ : ∃ B7, wr.heap.size = B7 := ⟨_, rfl⟩
      rw [hV] at bV bx ⊢
      rw [hB7] at bx ⊢
      have hgne : w.heap.size ≠ gp := by omega
      have b7g : B7 ≠ gp := by have := HB.out.lt; omega
      have hw1 := HGG.out.size
      have b7w : w.heap.size < w1.heap.size := HBG.out.lt
      have b7n : w.heap.size ≠ B7 := by omega
      have bG := ((HBG.out.grown HGG.out (fun e => hgne (by injection e))).belowS bV)
      have HBV := Lib.hid (HB.out.belowS bV)
      have HGV := Lib.hid (grown_bel HGG.out bV)
      have HX := Lib.hid bx
      have HBGV := Lib.hid bG
      have v0 := bx.cellV (i := 0) (v := .int .i64 r.X) rfl
      have v1 := bx.cellV (i := 1) (v := .int .i64 r.Y) rfl
      have v2 := bx.cellV (i := 2) (v := .int .i64 r.W) rfl
      have v3 := bx.cellV (i := 3) (v := .int .i64 r.H) rfl
      have g0 := bG.cellV (i := 0) (v := .int .i64 W) rfl
      have g1 := bG.cellV (i := 1) (v := .int .i64 H) rfl
      clear hV hB7 bV bx bG HB HGG x0 x1 x2 x3
      go_quiet (fail)
      have bD := undrewN V nq
      obtain ⟨D, hD⟩ : ∃ D, V.drewN nq = D := ⟨_, rfl⟩
      obtain ⟨fi, hfi⟩ : ∃ fi, max r.X 0 = fi := ⟨_, rfl⟩
      obtain ⟨ti, hti⟩ : ∃ ti, min (r.X + r.W) (W : Int) = ti := ⟨_, rfl⟩
      rw [hD] at bD ⊢
      rw [hfi, hti]
      have hf0 : 0 ≤ fi := by omega
      have htW : ti ≤ (W : Int) := by omega
      have HBD := Lib.hid (HBV.out.belowS bD)
      have HGD := Lib.hid (grown_bel HGV.out bD)
      have HXD := Lib.hid (HX.out.belowS bD)
      have HBGD := Lib.hid (HBGV.out.belowS bD)
      have HFI := Lib.hid hfi
      have HTI := Lib.hid hti
      have hDs := HXD.out.lt
      clear hD bD hfi hti v0 v1 v2 v3 g0 g1 HBV HGV HX HBGV
      by_cases hft : ti ≤ fi
      · have hdt : decide (ti ≤ fi) = true := by simpa using hft
        go_wp2_with fail
        go_roundw
        case rel => exact ⟨k + 1, by go_num, by omega, by rw [HTK.out, ← rows_out HL.out (by rw [HFI.out, HTI.out]; exact hft)]; exact HBD.out, HGD.out⟩
        case measure => simp [intOf]; omega
      · have hdt : decide (ti ≤ fi) = false := by simpa using hft
        obtain ⟨yi0, hyi0⟩ : ∃ yi0, max r.Y 0 = yi0 := ⟨_, rfl⟩
        have hyi1 : 0 ≤ yi0 ∧ r.Y ≤ yi0 := by omega
        have v1 := HXD.out.cellV (i := 1) (v := .int .i64 r.Y) rfl
        have HYI := Lib.hid hyi0
        have hstart : Blk D gp 79 (U8 (lay W S (rowsP (rs.take k) r yi0.toNat) px)).toArray := by rw [rows_start _ (by omega)]; exact HBD.out
        have HST := Lib.hid hstart
        clear hstart
        go_wp2_with fail
        clear hyi0 v1
        go_loopw [10] (fun s10 wr => ∃ (j : Nat) (ji : Int), s10 = .int .i64 ji ∧ ji = j ∧ yi0 ≤ ji ∧ Blk wr gp 79 (U8 (lay W S (rowsP (rs.take k) r j) px)).toArray ∧ D.grownBy wr (some gp)) (fun i _ => (r.Y + r.H - intOf i).toNat)
        case atStart => exact ⟨yi0.toNat, yi0, rfl, by omega, by omega, HST.out, grown_of_below (bre D) _⟩
        case round =>
          obtain ⟨j, ji, rfl, hj, hj0, hB, hG⟩ := hrel
          have bx := HXD.out.grown hG (fun e => b7g (by injection e))
          have bg := HBGD.out.grown hG (fun e => hgne (by injection e))
          have v1 := bx.cellV (i := 1) (v := .int .i64 r.Y) rfl
          have v3 := bx.cellV (i := 3) (v := .int .i64 r.H) rfl
          have g1 := bg.cellV (i := 1) (v := .int .i64 H) rfl
          have HBB := Lib.hid hB
          have HGG := Lib.hid hG
          have HJ := Lib.hid hj
          have hji : 0 ≤ ji := by omega
          clear hB hG bx bg
          by_cases hlt2 : ji < r.Y + r.H
          · by_cases hlt3 : ji < (H : Int)
            · have hd3 : decide ((H : Int) ≤ ji) = false := by simpa using hlt3
              have hcall := HDO.out (rowsP (rs.take k) r j) j fi.toNat ti.toNat ji fi ti wr HJ.out (by omega) (by omega) (by omega) (by omega) (by omega) (HK.out _ _ HK1.out (HGD.out.andThen HGG.out (fun j hj => .inr hj))) HBB.out
              have HCALL := Lib.hid hcall
              clear hcall hj
              rcases hfk with rfl | rfl
              all_goals
                go_wp2_with fail
                refine HCALL.out.mono ?_
                rintro e w2 ⟨rfl, hB2, hG2⟩
                have HB2 := Lib.hid hB2
                have HG2 := Lib.hid hG2
                clear hB2 hG2
                go_wp2_with fail
                go_roundw
                case rel =>
                  refine ⟨j + 1, ji + 1, by go_num, by rw [HJ.out]; rfl, by omega, ?_, HGG.out.andThen HG2.out (fun j hj => .inr hj)⟩
                  rw [← rows_next HL.out (by have := HJ.out; omega) (by have := HJ.out; omega) (a := fi.toNat) (b := ti.toNat) (by have := HFI.out; omega) (by have := HTI.out; omega)]
                  exact HB2.out
                case measure => simp [intOf]; omega
            · have hd3 : decide ((H : Int) ≤ ji) = true := by simpa using hlt3
              clear hj
              go_wp2_with fail
              go_roundw
              case rel => exact ⟨k + 1, by go_num, by omega, by rw [HTK.out, ← rows_end (j := j) HL.out (.inr (by have := HJ.out; omega))]; exact HBB.out, HGD.out.andThen HGG.out (fun j hj => .inr hj)⟩
              case measure => simp [intOf]; omega
          · clear hj
            go_wp2_with fail
            go_roundw
            case rel => exact ⟨k + 1, by go_num, by omega, by rw [HTK.out, ← rows_end (j := j) HL.out (.inl (by have := HJ.out; omega))]; exact HBB.out, HGD.out.andThen HGG.out (fun j hj => .inr hj)⟩
            case measure => simp [intOf]; omega
    · obtain rfl : k = nr := by omega
      have hal : rs.take k = rs := List.take_of_length_le (by rw [HR.out.1]; exact Nat.le_refl _)
      rw [hal] at hB
      have HBB := Lib.hid hB
      have HGG := Lib.hid hG
      clear hB hG hal
      go_wp2_with fail
      refine noGoto_normal ?_
      refine bodyPost_end (P := Tryz.prog) (v := .tuple #[]) ?_ rfl ?_
      · simp [results, Tryz.results156, go_sem]
      · exact ⟨rfl, HBB.out, (grown_of_below HBW1.out (some gp)).andThen HGG.out (fun j hj => .inr hj)⟩

end Go.Proofs.YtdaedkolpfkdjaaGreat.Gr
end

section
namespace Go.Proofs.YtdaedkolpfkdjaaGreat.Gr
open Go.RowKit Go.Shelf

def FillK (W H n bp bo gp : Nat) (p : Int) (w : World) : Prop :=
  Blk w bp 79 #[.int .u8 p] ∧ Blk w bo 75 #[.int .i64 W, .int .i64 H, .slice (some ⟨gp, 0, none⟩) n n]
theorem fill_do (W H n bp bo gp : Nat) (p : Int) (px : List Int) (hW : W ≤ 128) (hH : H ≤ 128) (hn : n = W * H) (hl : px.length = n) (h1 : bp ≠ gp) (h2 : bo ≠ gp) :
    DoFn 162 #[.pointer (some ⟨bp, 0, none⟩), .pointer (some ⟨bo, 0, none⟩)] (FillK W H n bp bo gp p) W H gp (fun _ _ => some p) px :=
  fun M y a b yi ai bi w e1 e2 e3 hy hab hb hk hg => fill1_any W H gp bp bo n a b y yi ai bi p M px w e1 e2 e3 hW hH hn hl hy hab hb hk.1 hk.2 hg h1 h2
theorem fill_keep (W H n bp bo gp : Nat) (p : Int) (h1 : bp ≠ gp) (h2 : bo ≠ gp) (w1 w2 : World) (h : FillK W H n bp bo gp p w1) (hg : w1.grownBy w2 (some gp)) : FillK W H n bp bo gp p w2 :=
  ⟨h.1.grown hg (fun e => h1 (by injection e)), h.2.grown hg (fun e => h2 (by injection e))⟩

set_option maxRecDepth 100000 in
set_option maxHeartbeats 2000000 in
theorem fill_any (W H : Nat) (px : List Int) (p : Int) (A Ar : Option Addr) (n c nr cr : Nat) (rs : List RC) (w : World) (hn : n = W * H) (hW : W ≤ 128) (hH : H ≤ 128) (hr : Rd w A n (U8 px)) (hnr : nr ≤ 1000000000000) (hrr : RdR w Ar nr rs) (hc : ∀ r ∈ rs, r.cnt = true) :
    Calls Tryz.prog 111 #[.agg #[.int .i64 W, .int .i64 H, .slice A n c], .agg #[.slice Ar nr cr], .int .u8 p] w fun e w' => ∃ A', e = .returned (.agg #[.int .i64 W, .int .i64 H, .slice A' n n]) ∧ Rd w' A' n (U8 (lay W (fun _ _ => some p) (anyP rs) px)) ∧ Fr w.heap.size A' ∧ Below w.heap.size w w' := by
  have hnm := mul_le_128 hW hH
  rw [← hn] at hnm
  have hl : px.length = n := by have := hr.1; simpa [U8] using this
  have HN := Lib.hid hn
  have HR := Lib.hid hr
  have HRR := Lib.hid hrr
  have HC := Lib.hid hc
  have HL := Lib.hid hl
  clear hr hn hrr hc hl
  go_enter Tryz.func111, Tryz.ntmps111
  have b0 := bal (bal (bal (bal (bre w) (.cells #[.int .i64 W, .int .i64 H, .slice A n c] 75)) (.cells #[.slice Ar nr cr] 57)) (.cells #[.int .u8 p] 79)) (.cells #[.int .i64 0, .int .i64 0, .slice none 0 0] 75)
  have HB0 := Lib.hid b0
  clear b0
  go_upto_region 2 with (go_at_call 100; refine (twin_any _ _ _ _ _ px _ hnm (HR.out.below HB0.out)).mono ?_; rintro e w1 ⟨g, rfl, hown, hb1⟩; have HO := Lib.hid hown; have HB1 := Lib.hid hb1; have z1 := hb1.size; simp only [World.size_alloc] at z1; clear hown hb1)
  have q1 : Blk ((((w.alloc (.cells #[.int .i64 W, .int .i64 H, .slice A n c] 75)).alloc (.cells #[.slice Ar nr cr] 57)).alloc (.cells #[.int .u8 p] 79)).alloc (.cells #[.int .i64 0, .int .i64 0, .slice none 0 0] 75)) (w.heap.size + 1) 57 #[.slice Ar nr cr] := ((Blk.new2 w _ _ _).alloc _).alloc _
  have q2 : Blk ((((w.alloc (.cells #[.int .i64 W, .int .i64 H, .slice A n c] 75)).alloc (.cells #[.slice Ar nr cr] 57)).alloc (.cells #[.int .u8 p] 79)).alloc (.cells #[.int .i64 0, .int .i64 0, .slice none 0 0] 75)) (w.heap.size + 1 + 1) 79 #[.int .u8 p] := by
    have := (Blk.new2 (w.alloc (.cells #[.int .i64 W, .int .i64 H, .slice A n c] 75)) (.cells #[.slice Ar nr cr] 57) 79 #[.int .u8 p]).alloc (.cells #[.int .i64 0, .int .i64 0, .slice none 0 0] 75)
    rwa [World.size_alloc] at this
  have q3 : Blk ((((w.alloc (.cells #[.int .i64 W, .int .i64 H, .slice A n c] 75)).alloc (.cells #[.slice Ar nr cr] 57)).alloc (.cells #[.int .u8 p] 79)).alloc (.cells #[.int .i64 0, .int .i64 0, .slice none 0 0] 75)) (w.heap.size + 1 + 1 + 1) 75 #[.int .i64 0, .int .i64 0, .slice none 0 0] := by
    have := Blk.new2 ((w.alloc (.cells #[.int .i64 W, .int .i64 H, .slice A n c] 75)).alloc (.cells #[.slice Ar nr cr] 57)) (.cells #[.int .u8 p] 79) 75 #[.int .i64 0, .int .i64 0, .slice none 0 0]
    rwa [World.size_alloc, World.size_alloc] at this
  obtain ⟨hge, hpx⟩ := own_blk HO.out
  simp only [World.size_alloc] at hge
  have hgl := hpx.lt
  have bX := bal (bre w1) (.cells #[.int .i64 W, .int .i64 H, .slice (some ⟨g, 0, none⟩) n n] 75)
  have hbx := Blk.new w1 75 #[.int .i64 W, .int .i64 H, .slice (some ⟨g, 0, none⟩) n n]
  have k1 := (q1.belowS HB1.out).belowS bX
  have k2 := (q2.belowS HB1.out).belowS bX
  have k3 := (q3.belowS HB1.out).belowS bX
  have hpx2 := hpx.belowS bX
  have hBX : Below w.heap.size w (w1.alloc (.cells #[.int .i64 W, .int .i64 H, .slice (some ⟨g, 0, none⟩) n n] 75)) := bstep (bstep HB0.out HB1.out) bX
  obtain ⟨X, hX⟩ : ∃ X, w1.alloc (.cells #[.int .i64 W, .int .i64 H, .slice (some ⟨g, 0, none⟩) n n] 75) = X := ⟨_, rfl⟩
  obtain ⟨B, hB⟩ : ∃ B, w1.heap.size = B := ⟨_, rfl⟩
  rw [hX] at hbx hpx2 hBX k1 k2 k3 ⊢
  rw [hB] at hbx hgl z1 ⊢
  have HRX := Lib.hid (HRR.out.below hBX)
  have HPX := Lib.hid hpx2
  have HBX := Lib.hid hBX
  have HKX := Lib.hid hbx
  have HK1 := Lib.hid k1
  have HK2 := Lib.hid k2
  have HK3 := Lib.hid k3
  have c1 := k1.cellV (i := 0) (v := .slice Ar nr cr) rfl
  have c0 := hbx.cellV (i := 0) rfl
  have c01 := hbx.cellV (i := 1) rfl
  have c02 := hbx.cellV (i := 2) rfl
  clear hX hB HB1 HO q1 q2 q3 bX hbx k1 k2 k3 hpx hpx2 hBX
  go_upto_region 3 with (go_at_call 156; refine (spans_do 162 _ (.inl rfl) (FillK W H n (w.heap.size + 1 + 1) B g p) W H g n n nr cr _ _ (fun _ _ => some p) px rs _ (fill_do W H n _ _ g p px hW hH HN.out HL.out (by omega) (by omega)) (fill_keep W H n _ _ g p (by omega) (by omega)) hW hH (HL.out.trans HN.out) hnr HRX.out HC.out ⟨HK2.out, HKX.out⟩ HPX.out).mono ?_; rintro e w2 ⟨rfl, hg2, hgr2⟩; have HG2 := Lib.hid hg2; have HGR := Lib.hid hgr2; clear hg2 hgr2)
  have r3 := HK3.out.grown HGR.out (by intro e; injection e with e; omega)
  have rX := HKX.out.grown HGR.out (by intro e; injection e with e; omega)
  have hB2 : Below w.heap.size w w2 := HBX.out.grown HGR.out HBX.out.size (fun q e => by cases e; omega)
  have HB2 := Lib.hid hB2
  clear c1 c0 c01 c02 HK1 HK2 HK3 HKX
  have c0 := rX.cellV (i := 0) rfl
  have c1 := rX.cellV (i := 1) rfl
  have c2 := rX.cellV (i := 2) rfl
  have d0 := r3.cellV (i := 0) rfl
  have d1 := r3.cellV (i := 1) rfl
  have d2 := r3.cellV (i := 2) rfl
  have f0 := r3.frozen 0
  have f1 := r3.frozen 1
  have f2 := r3.frozen 2
  clear rX r3 hB2
  go_wp2_with fail
  refine bodyPost_ret (v := .agg #[.int .i64 W, .int .i64 H, .slice (some ⟨g, 0, none⟩) n n]) (by simp [results, Tryz.results111, go_sem, d0, d1, d2]) rfl ⟨some ⟨g, 0, none⟩, rfl, ?_, (fun a ea => by cases ea; dsimp only; omega), ?_⟩
  · have hr := Rd.of_own (blk_own HG2.out (base := 0) (n := n) (Nat.zero_le _) (by simp [U8, lay_len, HL.out]) (by simp only [maxLen]; omega))
    have hne : ∀ a : Addr, some (⟨g, 0, none⟩ : Addr) = some a → a.block ≠ w.heap.size + 1 + 1 + 1 := fun a e => by cases e; dsimp only; omega
    exact ((hr.far (p := ⟨w.heap.size + 1 + 1 + 1, 0, none⟩) hne _).far (p := ⟨w.heap.size + 1 + 1 + 1, 1, none⟩) hne _).far (p := ⟨w.heap.size + 1 + 1 + 1, 2, none⟩) hne _
  · exact bset (p := ⟨_, _, _⟩) (bset (p := ⟨_, _, _⟩) (bset (p := ⟨_, _, _⟩) HB2.out (by dsimp only; omega) _) (by dsimp only; omega) _) (by dsimp only; omega) _

end Go.Proofs.YtdaedkolpfkdjaaGreat.Gr
end

section
namespace Go.Proofs.YtdaedkolpfkdjaaGreat.Gr
open Go.RowKit Go.Shelf

/-- what Lay lays at a place. -/
def layS (hw hh : Nat) (hpx : List Int) (dx dy : Int) : Nat → Nat → Option Int := fun x y => if hasB hw hh ((x : Int) - dx) ((y : Int) - dy) then some (gat hw hh hpx ((x : Int) - dx) ((y : Int) - dy)) else none
end Go.Proofs.YtdaedkolpfkdjaaGreat.Gr
namespace Go.Proofs.YtdaedkolpfkdjaaGreat
open Go.RowKit Go.Shelf
theorem Rd.grown {w w' : World} {A : Option Addr} {n : Nat} {vs : List Value} {gp : Nat} (h : Rd w A n vs) (hg : w.grownBy w' (some gp)) (hA : 0 < n → ∀ a, A = some a → a.block ≠ gp) : Rd w' A n vs :=
  ⟨h.1, fun h0 => by
    obtain ⟨b, off, e, hb, hc⟩ := h.2 h0
    have hne : some b ≠ some gp := fun e' => hA h0 _ e (by injection e')
    exact ⟨b, off, e, Nat.lt_of_lt_of_le hb hg.size, fun i v hi => hg.cell (hc i v hi) hne⟩⟩
end Go.Proofs.YtdaedkolpfkdjaaGreat
namespace Go.Proofs.YtdaedkolpfkdjaaGreat.Gr
open Go.RowKit Go.Shelf
/-- what the function has captured. -/
structure LayK (W H n bh bx by' bo gp hw hh nh ch : Nat) (Ah : Option Addr) (hpx : List Int) (dx dy : Int) (w : World) : Prop where
  h : Blk w bh 75 #[.int .i64 hw, .int .i64 hh, .slice Ah nh ch]
  x : Blk w bx 3 #[.int .i64 dx]
  y : Blk w by' 3 #[.int .i64 dy]
  o : Blk w bo 75 #[.int .i64 W, .int .i64 H, .slice (some ⟨gp, 0, none⟩) n n]
  r : Rd w Ah nh (U8 hpx)
theorem LayK.cells {W H n bh bx by' bo gp hw hh nh ch : Nat} {Ah : Option Addr} {hpx : List Int} {dx dy : Int} {w : World} (k : LayK W H n bh bx by' bo gp hw hh nh ch Ah hpx dx dy w) :
    w.cell? ⟨bo, 2, none⟩ = some (.slice (some ⟨gp, 0, none⟩) n n) ∧ w.cell? ⟨bo, 0, none⟩ = some (.int .i64 W) ∧ w.cell? ⟨bh, 0, none⟩ = some (.int .i64 hw) ∧ w.cell? ⟨bh, 1, none⟩ = some (.int .i64 hh) ∧ w.cell? ⟨bh, 2, none⟩ = some (.slice Ah nh ch) ∧ w.cell? ⟨bx, 0, none⟩ = some (.int .i64 dx) ∧ w.cell? ⟨by', 0, none⟩ = some (.int .i64 dy) :=
  ⟨k.o.cellV rfl, k.o.cellV rfl, k.h.cellV rfl, k.h.cellV rfl, k.h.cellV rfl, k.x.cellV rfl, k.y.cellV rfl⟩
theorem LayK.below {W H n bh bx by' bo gp hw hh nh ch : Nat} {Ah : Option Addr} {hpx : List Int} {dx dy : Int} {w w' : World} (k : LayK W H n bh bx by' bo gp hw hh nh ch Ah hpx dx dy w) (hb : Below w.heap.size w w') : LayK W H n bh bx by' bo gp hw hh nh ch Ah hpx dx dy w' :=
  ⟨k.h.belowS hb, k.x.belowS hb, k.y.belowS hb, k.o.belowS hb, k.r.below hb⟩
theorem LayK.grown {W H n bh bx by' bo gp hw hh nh ch : Nat} {Ah : Option Addr} {hpx : List Int} {dx dy : Int} {w w' : World} (k : LayK W H n bh bx by' bo gp hw hh nh ch Ah hpx dx dy w) (hg : w.grownBy w' (some gp)) (h1 : bh ≠ gp) (h2 : bx ≠ gp) (h3 : by' ≠ gp) (h4 : bo ≠ gp) (hA : 0 < nh → ∀ a, Ah = some a → a.block ≠ gp) :
    LayK W H n bh bx by' bo gp hw hh nh ch Ah hpx dx dy w' :=
  ⟨k.h.grown hg (fun e => h1 (by injection e)), k.x.grown hg (fun e => h2 (by injection e)), k.y.grown hg (fun e => h3 (by injection e)), k.o.grown hg (fun e => h4 (by injection e)), k.r.grown hg hA⟩

theorem cell_far {w : World} {p : Addr} {u v : Value} {b o : Nat} (h : w.cell? ⟨b, o, none⟩ = some v) (hb : b ≠ p.block) : (w.setCell p u).cell? ⟨b, o, none⟩ = some v :=
  (World.cell?_of_block (a := ⟨b, o, none⟩) (Below.heap_setCell w p u b hb)).trans h
theorem lay_cells {w : World} {bo bh bx by' gp : Nat} {u v1 v2 v3 v4 v5 v6 v7 : Value} (i : Nat) (h : w.cell? ⟨bo, 2, none⟩ = some v1 ∧ w.cell? ⟨bo, 0, none⟩ = some v2 ∧ w.cell? ⟨bh, 0, none⟩ = some v3 ∧ w.cell? ⟨bh, 1, none⟩ = some v4 ∧ w.cell? ⟨bh, 2, none⟩ = some v5 ∧ w.cell? ⟨bx, 0, none⟩ = some v6 ∧ w.cell? ⟨by', 0, none⟩ = some v7)
    (h1 : bh ≠ gp) (h2 : bx ≠ gp) (h3 : by' ≠ gp) (h4 : bo ≠ gp) : (w.setCell ⟨gp, i, none⟩ u).cell? ⟨bo, 2, none⟩ = some v1 ∧ (w.setCell ⟨gp, i, none⟩ u).cell? ⟨bo, 0, none⟩ = some v2 ∧ (w.setCell ⟨gp, i, none⟩ u).cell? ⟨bh, 0, none⟩ = some v3 ∧ (w.setCell ⟨gp, i, none⟩ u).cell? ⟨bh, 1, none⟩ = some v4 ∧ (w.setCell ⟨gp, i, none⟩ u).cell? ⟨bh, 2, none⟩ = some v5 ∧ (w.setCell ⟨gp, i, none⟩ u).cell? ⟨bx, 0, none⟩ = some v6 ∧ (w.setCell ⟨gp, i, none⟩ u).cell? ⟨by', 0, none⟩ = some v7 :=
  ⟨cell_far h.1 h4, cell_far h.2.1 h4, cell_far h.2.2.1 h1, cell_far h.2.2.2.1 h1, cell_far h.2.2.2.2.1 h1, cell_far h.2.2.2.2.2.1 h2, cell_far h.2.2.2.2.2.2 h3⟩

set_option maxRecDepth 100000 in
set_option maxHeartbeats 4000000 in
theorem lay1_any (W H n bh bx by' bo gp hw hh nh ch : Nat) (Ah : Option Addr) (hpx : List Int) (dx dy : Int) (a b y : Nat) (yi ai bi : Int) (M : Nat → Nat → Bool) (px : List Int) (w : World) (hy : yi = y) (hai : ai = a) (hbi : bi = b) (hW : W ≤ 128) (hH : H ≤ 128) (hn : n = W * H) (hl : px.length = n) (hyH : y < H) (hab : a ≤ b) (hbW : b ≤ W)
    (hhw : hw ≤ 128) (hhh : hh ≤ 128) (hnh : nh = hw * hh) (hdx : -1048576 ≤ dx ∧ dx ≤ 1048576) (hdy : -1048576 ≤ dy ∧ dy ≤ 1048576)
    (k : LayK W H n bh bx by' bo gp hw hh nh ch Ah hpx dx dy w) (hg : Blk w gp 79 (U8 (lay W (layS hw hh hpx dx dy) M px)).toArray) (h1 : bh ≠ gp) (h2 : bx ≠ gp) (h3 : by' ≠ gp) (h4 : bo ≠ gp) (hA : 0 < nh → ∀ a, Ah = some a → a.block ≠ gp) :
    Calls Tryz.prog 157 #[.int .i64 yi, .int .i64 ai, .int .i64 bi, .pointer (some ⟨bh, 0, none⟩), .pointer (some ⟨bx, 0, none⟩), .pointer (some ⟨by', 0, none⟩), .pointer (some ⟨bo, 0, none⟩)] w fun e w' => e = .returned (.tuple #[]) ∧ Blk w' gp 79 (U8 (lay W (layS hw hh hpx dx dy) (strB M y a b) px)).toArray ∧ w.grownBy w' (some gp) := by
  have HK := Lib.hid k
  have HG := Lib.hid hg
  have HY := Lib.hid hy
  have HA := Lib.hid hai
  have HBI := Lib.hid hbi
  have HN := Lib.hid hn
  have HL := Lib.hid hl
  have HNH := Lib.hid hnh
  have HAA := Lib.hid hA
  have hy0 : 0 ≤ yi := by omega
  have hy1 : yi ≤ 128 := by omega
  have m1 : 0 ≤ yi * (W : Int) := Int.mul_nonneg hy0 (by omega)
  have m2 : yi * (W : Int) ≤ 16384 := by
    have : yi * (W : Int) ≤ 128 * 128 := Int.mul_le_mul (by omega) (by omega) (by omega) (by omega)
    omega
  have hnn : n ≤ 16384 := by rw [hn]; exact mul_le_128 hW hH
  obtain ⟨hdx1, hdx2⟩ := hdx
  obtain ⟨hdy1, hdy2⟩ := hdy
  clear k hg hy hn hl hai hbi hnh hA
  go_enter Tryz.func157, Tryz.ntmps157
  go_wp2_with fail
  go_loopw [10] (fun s10 wr => ∃ (x : Nat) (xi : Int), s10 = .int .i64 xi ∧ xi = x ∧ a ≤ x ∧ x ≤ b ∧ Blk wr gp 79 (U8 (lay W (layS hw hh hpx dx dy) (strB M y a x) px)).toArray ∧ w.grownBy wr (some gp)) (fun i _ => b - (intOf i).toNat)
  case atStart => exact ⟨a, ai, rfl, HA.out, Nat.le_refl _, hab, by rw [str_start]; exact HG.out, grown_of_below (bre w) _⟩
  case round =>
    obtain ⟨x, xi, rfl, hx, hx1, hx2, hB, hG⟩ := hrel
    have hbi := HBI.out
    have KR := HK.out.grown hG h1 h2 h3 h4 HAA.out
    by_cases hlt : xi < bi
    · have hxb : x < b := by omega
      have hidx : (yi * (W : Int) + xi).toNat = y * W + x := by
        rw [HY.out, hx, ← Int.natCast_mul, ← Int.natCast_add]
        exact Int.toNat_natCast _
      have hin : y * W + x < n := by
        rw [HN.out]
        have h1 : (y + 1) * W ≤ H * W := Nat.mul_le_mul_right W (by omega)
        rw [Nat.succ_mul, Nat.mul_comm H W] at h1
        omega
      have m3 : yi * (W : Int) + xi < (n : Int) := by omega
      have m4 : 0 ≤ yi * (W : Int) + xi := by omega
      have x0 : 0 ≤ xi := by omega
      have x9 : xi ≤ 128 := by omega
      have hS : layS hw hh hpx dx dy x y = if hasB hw hh (xi - dx) (yi - dy) then some (gat hw hh hpx (xi - dx) (yi - dy)) else none := by
        unfold layS
        rw [HY.out, hx]
      obtain ⟨k2, k0, q0, q1, q2, qx, qy⟩ := KR.cells
      have HKR := Lib.hid KR
      have HX := Lib.hid hx
      have HBB := Lib.hid hB
      have HGG := Lib.hid hG
      have HI := Lib.hid hidx
      clear hx hB hG hidx hbi KR
      cases hh2 : hasB hw hh (xi - dx) (yi - dy)
      · rw [hh2] at hS
        have HS := Lib.hid (hS.trans (if_neg (by decide)))
        clear hS
        go_wp2_with (go_at_call 99; refine (has_any _ _ _ _ _ _ _ _).mono ?_; rintro e w' ⟨rfl, rfl⟩; rw [hh2])
        go_roundw
        case rel =>
          refine ⟨x + 1, xi + 1, by go_num, by rw [HX.out]; rfl, by omega, by omega, ?_, grown_bel HGG.out (bal (bre wr) _)⟩
          rw [← str_skip (by omega) HS.out]
          exact HBB.out.alloc _
        case measure => have := HX.out; have := HBI.out; simp [intOf]; omega
      · rw [hh2] at hS
        have HS := Lib.hid (hS.trans (if_pos rfl))
        clear hS
        go_upto_region 4 with (go_at_call 99; refine (has_any _ _ _ _ _ _ _ _).mono ?_; rintro e w' ⟨rfl, rfl⟩; rw [hh2])
        have bV := bal (bre wr) (.cells #[.int .i64 hw, .int .i64 hh, .slice Ah nh ch] 75)
        obtain ⟨V, hV⟩ : ∃ V, wr.alloc (.cells #[.int .i64 hw, .int .i64 hh, .slice Ah nh ch] 75) = V := ⟨_, rfl⟩
        rw [hV] at bV ⊢
        have HKV := Lib.hid (HKR.out.below bV)
        have HBV := Lib.hid (HBB.out.belowS bV)
        have HGV := Lib.hid (grown_bel HGG.out bV)
        clear hV bV k2 k0 q0 q1 q2 qx qy HKR HBB HGG
        obtain ⟨k2, k0, q0, q1, q2, qx, qy⟩ := HKV.out.cells
        have w1 : IntKind.i64.wrap (yi * (W : Int)) = yi * (W : Int) := IntWalk.i64_in _ (by omega)
        have w2 : IntKind.i64.wrap (yi * (W : Int) + xi) = yi * (W : Int) + xi := IntWalk.i64_in _ (by omega)
        have w3 : IntKind.i64.wrap (xi - dx) = xi - dx := IntWalk.i64_in _ (by omega)
        have w4 : IntKind.i64.wrap (yi - dy) = yi - dy := IntWalk.i64_in _ (by omega)
        obtain ⟨q, hq⟩ : ∃ q, (lay W (layS hw hh hpx dx dy) (strB M y a x) px)[(yi * (W : Int) + xi).toNat]? = some q := ⟨_, List.getElem?_eq_getElem (by rw [lay_len, HL.out, HI.out]; exact hin)⟩
        have HQ := Lib.hid hq
        clear hq
        go_region_held3 (fun w' => w'.cell? ⟨bo, 2, none⟩ = some (.slice (some ⟨gp, 0, none⟩) n n) ∧ w'.cell? ⟨bo, 0, none⟩ = some (.int .i64 W) ∧ w'.cell? ⟨bh, 0, none⟩ = some (.int .i64 hw) ∧ w'.cell? ⟨bh, 1, none⟩ = some (.int .i64 hh) ∧ w'.cell? ⟨bh, 2, none⟩ = some (.slice Ah nh ch) ∧ w'.cell? ⟨bx, 0, none⟩ = some (.int .i64 dx) ∧ w'.cell? ⟨by', 0, none⟩ = some (.int .i64 dy))
          (first | with_reducible exact HK5.out | with_reducible exact lay_cells _ HK5.out h1 h2 h3 h4 | go_keep)
          (first | (go_at_call 37; refine (at_any hw hh hpx (xi - dx) (yi - dy) Ah nh ch _ HNH.out hhw hhh (by exact HKV.out.r.alike rfl)).mono ?_; rintro e w5 ⟨rfl, b5'⟩; have b5 := undrewX (w := V) b5' rfl rfl rfl rfl; have HK5 := Lib.hid (HKV.out.below b5).cells; have HB5 := Lib.hid (HBV.out.belowS b5); have HG5 := Lib.hid (grown_bel HGV.out b5); have cg := HB5.out.cellV (i := (yi * (W : Int) + xi).toNat) (v := .int .u8 q) (by simpa using u8_get HQ.out); have fg := HB5.out.frozen (yi * (W : Int) + xi).toNat; obtain ⟨t2, t0, u0, u1, u2, ux, uy⟩ := (HKV.out.below b5).cells; clear b5 b5'))
        go_wp2_with fail
        go_roundw
        case rel =>
          refine ⟨x + 1, xi + 1, by go_num, by rw [HX.out]; rfl, by omega, by omega, ?_, HG5.out.andThen (grown_setCell _ _ _) (fun j hj => .inr hj)⟩
          have h2 := HB5.out.putU8 (yi * (W : Int) + xi).toNat (gat hw hh hpx (xi - dx) (yi - dy))
          rw [HI.out, str_step hx1 (by omega) HS.out] at h2
          rw [HI.out]
          exact h2
        case measure => have := HX.out; have := HBI.out; simp [intOf]; omega
    · obtain rfl : x = b := by omega
      have HBB := Lib.hid hB
      have HGG := Lib.hid hG
      clear hx hB hG hbi KR
      go_wp2_with fail
      exact bodyPost_end (v := .tuple #[]) (by simp [results, Tryz.results157, go_sem]) rfl ⟨rfl, HBB.out, HGG.out⟩

end Go.Proofs.YtdaedkolpfkdjaaGreat.Gr
end
