/-
  The walks of a grid's spans and of what Fill does in a stretch.
-/
import Derived.WalkMore
import Derived.Test.YtcdecglbkcllaabGridFillA
import Derived.Test.YtcdecglbkcllaabGridFillM
namespace Go.Proofs.Ytcdecglbkcllaab
open Go.RowKit Go.Shelf

theorem u8_get {px : List Int} {i : Nat} {p : Int} (h : px[i]? = some p) : (U8 px)[i]? = some (.int .u8 p) := by simp [U8, h]
theorem u8_set (px : List Int) (i : Nat) (p : Int) : (U8 px).set i (.int .u8 p) = U8 (px.set i p) := by simp [U8, List.map_set]
theorem Blk.putU8 {w : World} {g : Nat} {t : TypeId} {px : List Int} (h : Blk w g t (U8 px).toArray) (i : Nat) (p : Int) : Blk (w.setCell ⟨g, i, none⟩ (.int .u8 p)) g t (U8 (px.set i p)).toArray := by
  have := h.set_ i (.int .u8 p)
  rwa [List.setIfInBounds_toArray, u8_set] at this

set_option maxRecDepth 100000 in
set_option maxHeartbeats 2000000 in
theorem fill1_any (W H gp bp bo n a b y : Nat) (yi ai bi p : Int) (M : Nat → Nat → Bool) (px : List Int) (w : World) (hy : yi = y) (hai : ai = a) (hbi : bi = b) (hW : W ≤ 128) (hH : H ≤ 128) (hn : n = W * H) (hl : px.length = n) (hyH : y < H) (hab : a ≤ b) (hbW : b ≤ W)
    (hp : Blk w bp 22 #[.int .u8 p]) (ho : Blk w bo 25 #[.int .i64 W, .int .i64 H, .slice (some ⟨gp, 0, none⟩) n n]) (hg : Blk w gp 22 (U8 (lay W (fun _ _ => some p) M px)).toArray) (hpg : bp ≠ gp) (hog : bo ≠ gp) :
    Calls Try.prog 39 #[.int .i64 yi, .int .i64 ai, .int .i64 bi, .pointer (some ⟨bp, 0, none⟩), .pointer (some ⟨bo, 0, none⟩)] w fun e w' => e = .returned (.tuple #[]) ∧ Blk w' gp 22 (U8 (lay W (fun _ _ => some p) (strB M y a b) px)).toArray ∧ w.grownBy w' (some gp) := by
  have HP := Lib.hid hp
  have HO := Lib.hid ho
  have HG := Lib.hid hg
  have HY := Lib.hid hy
  have HA := Lib.hid hai
  have HBI := Lib.hid hbi
  have HN := Lib.hid hn
  have HL := Lib.hid hl
  have hy0 : 0 ≤ yi := by omega
  have m1 : 0 ≤ yi * (W : Int) := Int.mul_nonneg hy0 (by omega)
  have m2 : yi * (W : Int) ≤ 16384 := by
    have : yi * (W : Int) ≤ 128 * 128 := Int.mul_le_mul (by omega) (by omega) (by omega) (by omega)
    omega
  have hnn : n ≤ 16384 := by rw [hn]; exact mul_le_128 hW hH
  clear hp ho hg hy hn hl hai hbi
  go_enter Try.func39, Try.ntmps39
  go_wp2_with fail
  go_loopw [8] (fun s8 wr => ∃ (x : Nat) (xi : Int), s8 = .int .i64 xi ∧ xi = x ∧ a ≤ x ∧ x ≤ b ∧ Blk wr gp 22 (U8 (lay W (fun _ _ => some p) (strB M y a x) px)).toArray ∧ w.grownBy wr (some gp)) (fun i _ => b - (intOf i).toNat)
  case atStart => exact ⟨a, ai, rfl, HA.out, Nat.le_refl _, hab, by rw [str_start]; exact HG.out, grown_of_below (bre w) _⟩
  case round =>
    obtain ⟨x, xi, rfl, hx, hx1, hx2, hB, hG⟩ := hrel
    have hbi := HBI.out
    by_cases hlt : xi < bi
    · have hxb : x < b := by omega
      have hidx : (yi * (W : Int) + xi).toNat = y * W + x := by
        rw [HY.out, hx, ← Int.natCast_mul, ← Int.natCast_add]
        exact Int.toNat_natCast _
      have hin : y * W + x < n := by
        rw [HN.out]
        have h1 : (y + 1) * W ≤ H * W := Nat.mul_le_mul_right W (by omega)
        rw [Nat.succ_mul, Nat.mul_comm H W] at h1
        omega
      have m3 : yi * (W : Int) + xi < (n : Int) := by omega
      have m4 : 0 ≤ yi * (W : Int) + xi := by omega
      have cp := (HP.out.grown hG (fun e => hpg (by injection e))).cellV (i := 0) rfl
      have c0 := (HO.out.grown hG (fun e => hog (by injection e))).cellV (i := 0) rfl
      have c2 := (HO.out.grown hG (fun e => hog (by injection e))).cellV (i := 2) rfl
      obtain ⟨q, hq⟩ : ∃ q, (lay W (fun _ _ => some p) (strB M y a x) px)[(yi * (W : Int) + xi).toNat]? = some q := ⟨_, List.getElem?_eq_getElem (by rw [lay_len, HL.out, hidx]; exact hin)⟩
      have cg := hB.cellV (i := (yi * (W : Int) + xi).toNat) (v := .int .u8 q) (by simpa using u8_get hq)
      have fg := hB.frozen (yi * (W : Int) + xi).toNat
      have x0 : 0 ≤ xi := by omega
      have HX := Lib.hid hx
      have HBB := Lib.hid hB
      have HGG := Lib.hid hG
      have HI := Lib.hid hidx
      clear hx hB hG hq hidx hbi
      go_wp2_with fail
      go_roundw
      case rel =>
        refine ⟨x + 1, xi + 1, by go_num, by rw [HX.out]; rfl, by omega, by omega, ?_, HGG.out.andThen (grown_setCell _ _ _) (fun j hj => .inr hj)⟩
        have h2 := HBB.out.putU8 (yi * (W : Int) + xi).toNat p
        rw [HI.out, str_step hx1 (by omega) rfl] at h2
        rw [HI.out]
        exact h2
      case measure => have := HX.out; have := HBI.out; simp [intOf]; omega
    · obtain rfl : x = b := by omega
      have HBB := Lib.hid hB
      have HGG := Lib.hid hG
      clear hx hB hG hbi
      go_wp2_with fail
      exact bodyPost_end (v := .tuple #[]) (by simp [results, Try.results39, go_sem]) rfl ⟨rfl, HBB.out, HGG.out⟩

theorem noGoto_normal {Q : Exit → Act → World → Prop} {a : Act} {w : World} (h : Q .normal a w) : Exit.noGoto Q .normal a w := h
/-- what a function that spans hands stretches to does. -/
def DoFn (fk : Nat) (caps : Array Value) (K : World → Prop) (W H gp : Nat) (S : Nat → Nat → Option Int) (px : List Int) : Prop :=
  ∀ (M : Nat → Nat → Bool) (y a b : Nat) (yi ai bi : Int) (w : World), yi = y → ai = a → bi = b → y < H → a ≤ b → b ≤ W → K w → Blk w gp 22 (U8 (lay W S M px)).toArray →
    Calls Try.prog fk (#[.int .i64 yi, .int .i64 ai, .int .i64 bi] ++ caps) w fun e w' => e = .returned (.tuple #[]) ∧ Blk w' gp 22 (U8 (lay W S (strB M y a b) px)).toArray ∧ w.grownBy w' (some gp)
theorem RdR.grown {w w' : World} {A : Option Addr} {n : Nat} {rs : List RC} {gp : Nat} (h : RdR w A n rs) (hg : w.grownBy w' (some gp)) (hA : ∀ a, A = some a → a.block ≠ gp) : RdR w' A n rs :=
  ⟨h.1, fun h0 => by
    obtain ⟨b, off, e, hb, hc⟩ := h.2 h0
    have hne : some b ≠ some gp := fun e' => hA _ e (by injection e')
    refine ⟨b, off, e, Nat.lt_of_lt_of_le hb hg.size, fun i r hi => ?_⟩
    obtain ⟨c0, c1, c2, c3⟩ := hc i r hi
    exact ⟨hg.cell c0 hne, hg.cell c1 hne, hg.cell c2 hne, hg.cell c3 hne⟩⟩

set_option maxRecDepth 100000 in
set_option maxHeartbeats 4000000 in
theorem spans_do (fk : Nat) (caps : Array Value) (hfk : fk = 39 ∨ fk = 52) (K : World → Prop) (W H gp n c nr cr : Nat) (Ag A : Option Addr) (S : Nat → Nat → Option Int) (px : List Int) (rs : List RC) (w : World)
    (hDo : DoFn fk caps K W H gp S px) (hK : ∀ w1 w2 : World, K w1 → w1.grownBy w2 (some gp) → K w2) (hW : W ≤ 128) (hH : H ≤ 128) (hl : px.length = W * H) (hnr : nr ≤ 1000000000000) (hr : RdR w A nr rs) (hc : ∀ r ∈ rs, r.cnt = true) (hKw : K w) (hg : Blk w gp 22 (U8 px).toArray) :
    Calls Try.prog 38 #[.agg #[.int .i64 W, .int .i64 H, .slice Ag n c], .agg #[.slice A nr cr], .func (.func fk) #[] caps] w fun e w' => e = .returned (.tuple #[]) ∧ Blk w' gp 22 (U8 (lay W S (anyP rs) px)).toArray ∧ w.grownBy w' (some gp) := by
  have HDO := Lib.hid hDo
  have HK := Lib.hid hK
  have HL := Lib.hid hl
  have HR := Lib.hid hr
  have HC := Lib.hid hc
  have HKW := Lib.hid hKw
  have HG := Lib.hid hg
  clear hDo hK hl hr hc hKw hg
  go_enter Try.func38, Try.ntmps38
  have bR := bal (bal (bre w) (.cells #[.int .i64 W, .int .i64 H, .slice Ag n c] 25)) (.cells #[.slice A nr cr] 62)
  have HBR := Lib.hid bR
  clear bR
  go_wp2_with fail
  go_step3
  go_wp2_with fail
  go_step3
  go_wp2_with (go_at_call 53; refine (rects_any _ _ _ rs _ hnr (HR.out.below HBR.out)).mono ?_; rintro e w1 ⟨A', c', rfl, hr1, hf1, hb1⟩; have HR1 := Lib.hid hr1; have HF1 := Lib.hid hf1; have HB1 := Lib.hid hb1; clear hr1 hf1 hb1)
  have bg1 : Blk w1 w.heap.size 25 #[.int .i64 W, .int .i64 H, .slice Ag n c] := ((Blk.new w _ _).alloc _).belowS HB1.out
  have hbw1 := bstep HBR.out HB1.out
  have hgw := HG.out.lt
  have hgl1 := (HG.out.belowS hbw1)
  have hA' : ∀ a, A' = some a → a.block ≠ gp := fun a e => by have := HF1.out a e; simp at this; omega
  have hk1 : K w1 := HK.out w w1 HKW.out (grown_of_below hbw1 _)
  have HBG := Lib.hid bg1
  have HBW1 := Lib.hid hbw1
  have HGL := Lib.hid hgl1
  have HA' := Lib.hid hA'
  have HK1 := Lib.hid hk1
  have hs1 := hbw1.size
  clear bg1 hbw1 hgl1 hA' hk1 HBR HB1 HF1 HG HKW
  go_loopw [14] (fun s14 wr => ∃ k : Nat, s14 = .int .i64 k ∧ k ≤ nr ∧ Blk wr gp 22 (U8 (lay W S (anyP (rs.take k)) px)).toArray ∧ w1.grownBy wr (some gp)) (fun i _ => nr - (intOf i).toNat)
  case atStart => exact ⟨0, rfl, by omega, by rw [List.take_zero, show lay W S (anyP []) px = px from lay_none W S px]; exact HGL.out, grown_of_below (bre w1) _⟩
  case round =>
    obtain ⟨k, rfl, hk, hB, hG⟩ := hrel
    by_cases hlt : k < nr
    · obtain ⟨r, hx⟩ : ∃ r, rs[k]? = some r := ⟨_, List.getElem?_eq_getElem (by have := HR.out.1; omega)⟩
      obtain ⟨b, off, rfl, hbl, hcc⟩ := (HR1.out.grown hG HA'.out).2 (by omega)
      obtain ⟨x0, x1, x2, x3⟩ := hcc k r hx
      have hcr := (cnt_iff r).1 (HC.out r (List.mem_of_getElem? hx))
      have k0 : (0 : Int) ≤ (k : Int) := by omega
      have k1 : (k : Int) < (nr : Int) := by omega
      have htk : rs.take (k + 1) = rs.take k ++ [r] := by rw [List.take_add_one, hx]; rfl
      have HTK := Lib.hid htk
      have HB := Lib.hid hB
      have HGG := Lib.hid hG
      clear hcc hx htk hB hG
      go_upto_region 4 with fail
      have bV := bal (bre wr) (.cells #[.int .i64 r.X, .int .i64 r.Y, .int .i64 r.W, .int .i64 r.H] 43)
      have bx := Blk.new wr 43 #[.int .i64 r.X, .int .i64 r.Y, .int .i64 r.W, .int .i64 r.H]
      obtain ⟨V, hV⟩ : ∃ V, wr.alloc (.cells #[.int .i64 r.X, .int .i64 r.Y, .int .i64 r.W, .int .i64 r.H] 43) = V := ⟨_, rfl⟩
      obtain ⟨B7, hB7⟩ : ∃ B7, wr.heap.size = B7 := ⟨_, rfl⟩
      rw [hV] at bV bx ⊢
      rw [hB7] at bx ⊢
      have hgne : w.heap.size ≠ gp := by omega
      have b7g : B7 ≠ gp := by have := HB.out.lt; omega
      have hw1 := HGG.out.size
      have b7w : w.heap.size < w1.heap.size := HBG.out.lt
      have b7n : w.heap.size ≠ B7 := by omega
      have bG := ((HBG.out.grown HGG.out (fun e => hgne (by injection e))).belowS bV)
      have HBV := Lib.hid (HB.out.belowS bV)
      have HGV := Lib.hid (grown_bel HGG.out bV)
      have HX := Lib.hid bx
      have HBGV := Lib.hid bG
      have v0 := bx.cellV (i := 0) (v := .int .i64 r.X) rfl
      have v1 := bx.cellV (i := 1) (v := .int .i64 r.Y) rfl
      have v2 := bx.cellV (i := 2) (v := .int .i64 r.W) rfl
      have v3 := bx.cellV (i := 3) (v := .int .i64 r.H) rfl
      have g0 := bG.cellV (i := 0) (v := .int .i64 W) rfl
      have g1 := bG.cellV (i := 1) (v := .int .i64 H) rfl
      clear hV hB7 bV bx bG HB HGG x0 x1 x2 x3
      go_quiet (fail)
      have bD := undrewN V nq
      obtain ⟨D, hD⟩ : ∃ D, V.drewN nq = D := ⟨_, rfl⟩
      obtain ⟨fi, hfi⟩ : ∃ fi, max r.X 0 = fi := ⟨_, rfl⟩
      obtain ⟨ti, hti⟩ : ∃ ti, min (r.X + r.W) (W : Int) = ti := ⟨_, rfl⟩
      rw [hD] at bD ⊢
      rw [hfi, hti]
      have hf0 : 0 ≤ fi := by omega
      have htW : ti ≤ (W : Int) := by omega
      have HBD := Lib.hid (HBV.out.belowS bD)
      have HGD := Lib.hid (grown_bel HGV.out bD)
      have HXD := Lib.hid (HX.out.belowS bD)
      have HBGD := Lib.hid (HBGV.out.belowS bD)
      have HFI := Lib.hid hfi
      have HTI := Lib.hid hti
      have hDs := HXD.out.lt
      clear hD bD hfi hti v0 v1 v2 v3 g0 g1 HBV HGV HX HBGV
      by_cases hft : ti ≤ fi
      · have hdt : decide (ti ≤ fi) = true := by simpa using hft
        go_wp2_with fail
        go_roundw
        case rel => exact ⟨k + 1, by go_num, by omega, by rw [HTK.out, ← rows_out HL.out (by rw [HFI.out, HTI.out]; exact hft)]; exact HBD.out, HGD.out⟩
        case measure => simp [intOf]; omega
      · have hdt : decide (ti ≤ fi) = false := by simpa using hft
        obtain ⟨yi0, hyi0⟩ : ∃ yi0, max r.Y 0 = yi0 := ⟨_, rfl⟩
        have hyi1 : 0 ≤ yi0 ∧ r.Y ≤ yi0 := by omega
        have v1 := HXD.out.cellV (i := 1) (v := .int .i64 r.Y) rfl
        have HYI := Lib.hid hyi0
        have hstart : Blk D gp 22 (U8 (lay W S (rowsP (rs.take k) r yi0.toNat) px)).toArray := by rw [rows_start _ (by omega)]; exact HBD.out
        have HST := Lib.hid hstart
        clear hstart
        go_wp2_with fail
        clear hyi0 v1
        go_loopw [10] (fun s10 wr => ∃ (j : Nat) (ji : Int), s10 = .int .i64 ji ∧ ji = j ∧ yi0 ≤ ji ∧ Blk wr gp 22 (U8 (lay W S (rowsP (rs.take k) r j) px)).toArray ∧ D.grownBy wr (some gp)) (fun i _ => (r.Y + r.H - intOf i).toNat)
        case atStart => exact ⟨yi0.toNat, yi0, rfl, by omega, by omega, HST.out, grown_of_below (bre D) _⟩
        case round =>
          obtain ⟨j, ji, rfl, hj, hj0, hB, hG⟩ := hrel
          have bx := HXD.out.grown hG (fun e => b7g (by injection e))
          have bg := HBGD.out.grown hG (fun e => hgne (by injection e))
          have v1 := bx.cellV (i := 1) (v := .int .i64 r.Y) rfl
          have v3 := bx.cellV (i := 3) (v := .int .i64 r.H) rfl
          have g1 := bg.cellV (i := 1) (v := .int .i64 H) rfl
          have HBB := Lib.hid hB
          have HGG := Lib.hid hG
          have HJ := Lib.hid hj
          have hji : 0 ≤ ji := by omega
          clear hB hG bx bg
          by_cases hlt2 : ji < r.Y + r.H
          · by_cases hlt3 : ji < (H : Int)
            · have hd3 : decide ((H : Int) ≤ ji) = false := by simpa using hlt3
              have hcall := HDO.out (rowsP (rs.take k) r j) j fi.toNat ti.toNat ji fi ti wr HJ.out (by omega) (by omega) (by omega) (by omega) (by omega) (HK.out _ _ HK1.out (HGD.out.andThen HGG.out (fun j hj => .inr hj))) HBB.out
              have HCALL := Lib.hid hcall
              clear hcall hj
              rcases hfk with rfl | rfl
              all_goals
                go_wp2_with fail
                refine HCALL.out.mono ?_
                rintro e w2 ⟨rfl, hB2, hG2⟩
                have HB2 := Lib.hid hB2
                have HG2 := Lib.hid hG2
                clear hB2 hG2
                go_wp2_with fail
                go_roundw
                case rel =>
                  refine ⟨j + 1, ji + 1, by go_num, by rw [HJ.out]; rfl, by omega, ?_, HGG.out.andThen HG2.out (fun j hj => .inr hj)⟩
                  rw [← rows_next HL.out (by have := HJ.out; omega) (by have := HJ.out; omega) (a := fi.toNat) (b := ti.toNat) (by have := HFI.out; omega) (by have := HTI.out; omega)]
                  exact HB2.out
                case measure => simp [intOf]; omega
            · have hd3 : decide ((H : Int) ≤ ji) = true := by simpa using hlt3
              clear hj
              go_wp2_with fail
              go_roundw
              case rel => exact ⟨k + 1, by go_num, by omega, by rw [HTK.out, ← rows_end (j := j) HL.out (.inr (by have := HJ.out; omega))]; exact HBB.out, HGD.out.andThen HGG.out (fun j hj => .inr hj)⟩
              case measure => simp [intOf]; omega
          · clear hj
            go_wp2_with fail
            go_roundw
            case rel => exact ⟨k + 1, by go_num, by omega, by rw [HTK.out, ← rows_end (j := j) HL.out (.inl (by have := HJ.out; omega))]; exact HBB.out, HGD.out.andThen HGG.out (fun j hj => .inr hj)⟩
            case measure => simp [intOf]; omega
    · obtain rfl : k = nr := by omega
      have hal : rs.take k = rs := List.take_of_length_le (by rw [HR.out.1]; exact Nat.le_refl _)
      rw [hal] at hB
      have HBB := Lib.hid hB
      have HGG := Lib.hid hG
      clear hB hG hal
      go_wp2_with fail
      refine noGoto_normal ?_
      refine bodyPost_end (P := Try.prog) (v := .tuple #[]) ?_ rfl ?_
      · simp [results, Try.results38, go_sem]
      · exact ⟨rfl, HBB.out, (grown_of_below HBW1.out (some gp)).andThen HGG.out (fun j hj => .inr hj)⟩

end Go.Proofs.Ytcdecglbkcllaab
