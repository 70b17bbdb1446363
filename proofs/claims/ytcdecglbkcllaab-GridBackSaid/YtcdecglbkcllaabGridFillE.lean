/-
  The walk of the law GridFills.
-/
import Derived.Test.YtcdecglbkcllaabGridFillD
import Derived.Test.YtcdecglbkcllaabGridWalkN
import Derived.Test.YtcdecglbkcllaabKeepG
namespace Go.Proofs.Ytcdecglbkcllaab
open Go.RowKit Go.Shelf

set_option maxRecDepth 100000 in
set_option maxHeartbeats 2000000 in
theorem gridFills_skip (a b p : Int) (A : Option Addr) (m c : Nat) (L : Option Addr) (nl cl : Nat) (w : World) (h : 12 < nl ∨ 300 < m) :
    Calls Try.prog 6 #[.agg #[.int .u8 a, .int .u8 b, .slice A m c], .slice L nl cl, .int .u8 p] w fun e w' => e = .returned (.bool true) ∧ Below w.heap.size w w' := by
  by_cases h1 : 12 < nl
  · have d1 : decide ((12 : Int) < (nl : Int)) = true := by simp; omega
    clear h
    go_enter Try.func6, Try.ntmps6
    go_wp2_with (go_at_call 13; refine (awake_any _).mono ?_; rintro e w3 ⟨rfl, hb3⟩)
    go_ret
    exact ⟨rfl, bstep (bal (bre w) _) hb3⟩
  · have d1 : decide ((12 : Int) < (nl : Int)) = false := by simp; omega
    have d2 : decide ((300 : Int) < (m : Int)) = true := by simp; omega
    clear h
    go_enter Try.func6, Try.ntmps6
    go_wp2_with (go_at_call 13; refine (awake_any _).mono ?_; rintro e w3 ⟨rfl, hb3⟩)
    go_ret
    exact ⟨rfl, bstep (bal (bre w) _) hb3⟩

theorem smalls_big {ss : List Sm} (h : ∀ s ∈ ss, s.ok) : ∀ r ∈ ss.map Sm.rc, r.X ≤ 9223372036854775807 ∧ r.Y ≤ 9223372036854775807 := fun r hr => by
  obtain ⟨s, hs, rfl⟩ := List.mem_map.1 hr
  have := h s hs
  unfold Sm.ok at this
  dsimp only [Sm.rc]
  omega
theorem region_cnt {out rs : List RC} (hc : Canon out) (hp : ∀ x y, InR out x y ↔ InR (rs.filter RC.cnt) x y) : ∀ r ∈ out, r.cnt = true :=
  canon_cnt (al := rs.filter RC.cnt) (fun r hr => (List.mem_filter.1 hr).2) hc (fun x y h => (hp x y).1 h)

theorem small_cnt {s : Sm} (hs : s.ok) {x y : Int} (h : s.rc.hasI x y = true) : s.rc.cnt = true := by
  unfold Sm.ok at hs
  simp only [RC.hasI, Bool.and_eq_true, decide_eq_true_eq] at h
  rw [cnt_iff]
  dsimp only [Sm.rc] at *
  omega
theorem inSm_iff {ss : List Sm} (hok : ∀ s ∈ ss, s.ok) (x y : Int) : inSm ss x y = true ↔ InR ((ss.map Sm.rc).filter RC.cnt) x y := by
  unfold inSm InR
  rw [List.any_eq_true]
  constructor
  · rintro ⟨s, hs, h⟩
    have hc := small_cnt (hok s hs) h
    refine ⟨s.rc, List.mem_filter.2 ⟨List.mem_map.2 ⟨s, hs, rfl⟩, hc⟩, ?_⟩
    simp only [RC.hasI, Bool.and_eq_true, decide_eq_true_eq] at h
    omega
  · rintro ⟨r, hr, h⟩
    obtain ⟨hr1, _⟩ := List.mem_filter.1 hr
    obtain ⟨s, hs, rfl⟩ := List.mem_map.1 hr1
    refine ⟨s, hs, ?_⟩
    simp only [RC.hasI, Bool.and_eq_true, decide_eq_true_eq]
    omega
/-- what of the laid pixels a place reads. -/
theorem gat_lay {W H : Nat} {S : Nat → Nat → Option Int} {M : Nat → Nat → Bool} {px : List Int} (hl : px.length = W * H) {x y : Nat} (hx : x < W) (hy : y < H) :
    gat W H (lay W S M px) x y = if M x y then (S x y).getD (gat W H px x y) else gat W H px x y := by
  have hh : hasB W H x y = true := (has_iff _ _ _ _).2 (by omega)
  have hi := has_idx hh
  unfold gat
  rw [if_pos hh, if_pos hh]
  simp only [Int.toNat_natCast] at *
  rw [List.getD_eq_getElem?_getD, List.getD_eq_getElem?_getD, lay_get]
  obtain ⟨d1, d2⟩ := idx_div (W := W) (x := x) (y := y) hx
  rw [d1, d2]
  obtain ⟨q, hq⟩ : ∃ q, px[y * W + x]? = some q := ⟨_, List.getElem?_eq_getElem (by rw [hl]; exact hi)⟩
  rw [hq]
  simp
theorem fill_at {W H : Nat} {p : Int} {px : List Int} {ss : List Sm} {out : List RC} (hl : px.length = W * H) (hok : ∀ s ∈ ss, s.ok) (hp : ∀ x y, InR out x y ↔ InR ((ss.map Sm.rc).filter RC.cnt) x y) {x y : Nat} (hx : x < W) (hy : y < H) :
    gat W H (lay W (fun _ _ => some p) (anyP out) px) x y = if inSm ss x y then p else gat W H px x y := by
  rw [gat_lay hl hx hy]
  have : anyP out x y = inSm ss x y := by rw [Bool.eq_iff_iff, anyP_iff, inSm_iff hok]; exact hp x y
  rw [this]
  rfl
/-- what holds in the region, whatever part of its operations is done. -/
structure FillJ (a b p : Int) (W H : Nat) (ps : List Int) (A : Option Addr) (m c : Nat) (L : Option Addr) (nl cl : Nat) (ss : List Sm) (w : World) (d : Nat → Bool) (s24 : Value) (s25 : Value) (s26 : Value) (s27 : Value) (s28 : Value) (s29 : Value) (s30 : Value) (s31 : Value) (s32 : Value) (s7 : Value) (s8 : Value) (A1 : Option Addr) (c1 : Nat) (Ar : Option Addr) (cr : Nat) (out : List RC) (A2 : Option Addr) (c2 : Nat) (A3 : Option Addr) (A4 : Option Addr) (c4 : Nat) (g7 : Nat) (g8 : Nat) (wx : World) : Prop where
  bx : Blk wx w.heap.size 41 #[.int .u8 a, .int .u8 b, .slice A m c]
  bb : Below w.heap.size w wx
  f0 : d 0 = true → s24 = .agg #[.int .u8 a, .int .u8 b, .slice A m c]
  f1 : d 1 = true → s25 = .agg #[.int .i64 W, .int .i64 H, .slice A1 (W * H) c1] ∧ Rd wx A1 (W * H) (U8 (pl (W * H) ps m))
  f2 : d 2 = true → s26 = .slice L nl cl
  f3 : d 3 = true → s27 = .slice Ar nl cr ∧ RdR wx Ar nl (ss.map Sm.rc)
  f4 : d 4 = true → s28 = .agg #[.slice A2 out.length c2] ∧ RdR wx A2 out.length out ∧ Canon out ∧ (∀ x y, InR out x y ↔ InR ((ss.map Sm.rc).filter RC.cnt) x y) ∧ out.length ≤ 1000000000000
  f5 : d 5 = true → s29 = .int .u8 p
  f6 : d 6 = true → s30 = .agg #[.int .i64 W, .int .i64 H, .slice A3 (W * H) (W * H)] ∧ Rd wx A3 (W * H) (U8 (lay W (fun _ _ => some p) (anyP out) (pl (W * H) ps m)))
  f7 : d 7 = true → s31 = .agg #[.int .u8 a, .int .u8 b, .slice A m c]
  f8 : d 8 = true → s32 = .agg #[.int .i64 W, .int .i64 H, .slice A4 (W * H) c4] ∧ Rd wx A4 (W * H) (U8 (pl (W * H) ps m))
  f9 : d 9 = true → s7 = .pointer (some ⟨g7, 0, none⟩) ∧ w.heap.size + 1 ≤ g7
  z9 : d 9 = true → d 11 = false → Blk wx g7 25 #[.int .i64 0, .int .i64 0, .slice none 0 0]
  y9 : d 11 = true → Blk wx g7 25 #[.int .i64 W, .int .i64 H, .slice A3 (W * H) (W * H)]
  f10 : d 10 = true → s8 = .pointer (some ⟨g8, 0, none⟩) ∧ w.heap.size + 1 ≤ g8
  z10 : d 10 = true → d 12 = false → Blk wx g8 36 #[.int .i64 0, .int .i64 0, .slice none 0 0]
  y10 : d 12 = true → Blk wx g8 36 #[.int .i64 W, .int .i64 H, .slice A4 (W * H) c4]
theorem FillJ.mono {a b p : Int} {W H : Nat} {ps : List Int} {A : Option Addr} {m c : Nat} {L : Option Addr} {nl cl : Nat} {ss : List Sm} {w : World} {d : Nat → Bool} {s24 : Value} {s25 : Value} {s26 : Value} {s27 : Value} {s28 : Value} {s29 : Value} {s30 : Value} {s31 : Value} {s32 : Value} {s7 : Value} {s8 : Value} {A1 : Option Addr} {c1 : Nat} {Ar : Option Addr} {cr : Nat} {out : List RC} {A2 : Option Addr} {c2 : Nat} {A3 : Option Addr} {A4 : Option Addr} {c4 : Nat} {g7 : Nat} {g8 : Nat} {wx wy : World} (F : FillJ a b p W H ps A m c L nl cl ss w d s24 s25 s26 s27 s28 s29 s30 s31 s32 s7 s8 A1 c1 Ar cr out A2 c2 A3 A4 c4 g7 g8 wx) {t : Nat} (hk : KeepG (w.heap.size + 1) t wx wy) (h1 : t ≠ 25) (h2t : t ≠ 36) : FillJ a b p W H ps A m c L nl cl ss w d s24 s25 s26 s27 s28 s29 s30 s31 s32 s7 s8 A1 c1 Ar cr out A2 c2 A3 A4 c4 g7 g8 wy :=
  ⟨hk.blk F.bx (.inr (Nat.lt_succ_self _)), (hk.lower (Nat.le_succ _)).below F.bb, F.f0, fun h => ⟨(F.f1 h).1, hk.rd (F.f1 h).2⟩, F.f2, fun h => ⟨(F.f3 h).1, hk.rdr (F.f3 h).2⟩, fun h => ⟨(F.f4 h).1, hk.rdr (F.f4 h).2.1, (F.f4 h).2.2⟩, F.f5, fun h => ⟨(F.f6 h).1, hk.rd (F.f6 h).2⟩, F.f7, fun h => ⟨(F.f8 h).1, hk.rd (F.f8 h).2⟩, F.f9, fun h h2 => hk.blk (F.z9 h h2) (.inl (Ne.symm h1)), fun h => hk.blk (F.y9 h) (.inl (Ne.symm h1)), F.f10, fun h h2 => hk.blk (F.z10 h h2) (.inl (Ne.symm h2t)), fun h => hk.blk (F.y10 h) (.inl (Ne.symm h2t))⟩
def FillJJ (a b p : Int) (W H : Nat) (ps : List Int) (A : Option Addr) (m c : Nat) (L : Option Addr) (nl cl : Nat) (ss : List Sm) (w : World) (ds : List Deferred) (d : Nat → Bool) (act : Act) (wx : World) : Prop :=
  ∃ (s24 : Value) (s25 : Value) (s26 : Value) (s27 : Value) (s28 : Value) (s29 : Value) (s30 : Value) (s31 : Value) (s32 : Value) (s7 : Value) (s8 : Value) (A1 : Option Addr) (c1 : Nat) (Ar : Option Addr) (cr : Nat) (out : List RC) (A2 : Option Addr) (c2 : Nat) (A3 : Option Addr) (A4 : Option Addr) (c4 : Nat) (g7 : Nat) (g8 : Nat), act = ⟨#[.agg #[.int .u8 a, .int .u8 b, .slice A m c], .slice L nl cl, .int .u8 p, .pointer (some ⟨w.heap.size, 0, none⟩), undef, undef, .bool false, s7, s8, undef, undef, undef, undef, undef, .slice L nl cl, .int .i64 (nl : Int), .bool false, .bool false, .pointer (some ⟨w.heap.size, 2, none⟩), .slice A m c, .int .i64 (m : Int), .bool false, .bool false, undef, s24, s25, s26, s27, s28, s29, s30, s31, s32, undef, undef, undef, undef, undef, undef, undef, undef, undef, undef, undef, undef, undef, undef, undef, undef, undef, undef, undef, undef, undef, undef, undef, undef, undef, undef, undef, undef, undef, undef, undef, undef, undef, undef, undef, undef, undef, undef, undef, undef, undef, undef, undef, undef, undef], ds⟩ ∧ FillJ a b p W H ps A m c L nl cl ss w d s24 s25 s26 s27 s28 s29 s30 s31 s32 s7 s8 A1 c1 Ar cr out A2 c2 A3 A4 c4 g7 g8 wx

set_option maxRecDepth 100000 in
set_option maxHeartbeats 4000000 in
theorem gridFills_go (a b p : Int) (W H : Nat) (ps : List Int) (A : Option Addr) (m c : Nat) (L : Option Addr) (nl cl : Nat) (ss : List Sm) (w : World) (ha : a % 16 + 1 = W) (hb : b % 16 + 1 = H) (ha0 : 0 ≤ a ∧ a ≤ 255) (hb0 : 0 ≤ b ∧ b ≤ 255) (hm : m ≤ 300) (hnl : nl ≤ 12) (hr : Rd w A m (U8 ps)) (hs : RdS w L nl ss) (hok : ∀ s ∈ ss, s.ok) :
    Calls Try.prog 6 #[.agg #[.int .u8 a, .int .u8 b, .slice A m c], .slice L nl cl, .int .u8 p] w fun e w' => e = .returned (.bool true) ∧ Below w.heap.size w w' := by
  have d1 : decide ((12 : Int) < (nl : Int)) = false := by simp; omega
  have d2 : decide ((300 : Int) < (m : Int)) = false := by simp; omega
  have hW : 1 ≤ W ∧ W ≤ 16 := by omega
  have hH : 1 ≤ H ∧ H ≤ 16 := by omega
  have HR := Lib.hid hr
  have HS := Lib.hid hs
  have HOK := Lib.hid hok
  have HA := Lib.hid ha
  have HB := Lib.hid hb
  clear hr ha hb hs hok
  go_enter Try.func6, Try.ntmps6
  go_upto_region 3 with fail
  have HBX0 := Lib.hid (show Blk (w.alloc (.cells #[.int .u8 a, .int .u8 b, .slice A m c] 41)).drew w.heap.size 41 #[.int .u8 a, .int .u8 b, .slice A m c] from Blk.new w _ _)
  have HBB0 := Lib.hid ((bal (bre w) (.cells #[.int .u8 a, .int .u8 b, .slice A m c] 41)).drew)
  refine wp_region_inv Try.mixed (FillJJ a b p W H ps A m c L nl cl ss w []) (by kernel_rfl) ?_ ?_ ?_
  · exact ⟨_, _, _, _, _, _, _, _, _, _, _, none, 0, none, 0, [], none, 0, none, none, 0, 0, 0, rfl, ⟨HBX0.out, HBB0.out, (fun h => by cases h), (fun h => by cases h), (fun h => by cases h), (fun h => by cases h), (fun h => by cases h), (fun h => by cases h), (fun h => by cases h), (fun h => by cases h), (fun h => by cases h), (fun h => by cases h), (fun h _ => by cases h), (fun h => by cases h), (fun h => by cases h), (fun h _ => by cases h), (fun h => by cases h)⟩⟩
  · intro i o ho
    match i, ho with
    | 0, ho =>
      have eo := Option.some.inj ho
      subst eo
      intro d a' wx K hJ hdi hon hcl hK
      obtain ⟨s24, s25, s26, s27, s28, s29, s30, s31, s32, s7, s8, A1, c1, Ar, cr, out, A2, c2, A3, A4, c4, g7, g8, rfl, F⟩ := hJ
      have q0 := F.bx.cellV (i := 0) rfl
      have q1 := F.bx.cellV (i := 1) rfl
      have q2 := F.bx.cellV (i := 2) rfl
      have HF := Lib.hid F
      have HCL := Lib.hid hcl
      have HDI := Lib.hid hdi
      clear F hon hcl hdi ho
      go_simp
      exact hK.out _ _ ⟨_, _, _, _, _, _, _, _, _, _, _, A1, c1, Ar, cr, out, A2, c2, A3, A4, c4, g7, g8, rfl, ⟨HF.out.bx, HF.out.bb, fun _ => rfl, HF.out.f1, HF.out.f2, HF.out.f3, HF.out.f4, HF.out.f5, HF.out.f6, HF.out.f7, HF.out.f8, HF.out.f9, HF.out.z9, HF.out.y9, HF.out.f10, HF.out.z10, HF.out.y10⟩⟩
    | 1, ho =>
      have eo := Option.some.inj ho
      subst eo
      intro d a' wx K hJ hdi hon hcl hK
      obtain ⟨s24, s25, s26, s27, s28, s29, s30, s31, s32, s7, s8, A1, c1, Ar, cr, out, A2, c2, A3, A4, c4, g7, g8, rfl, F⟩ := hJ
      have e24 := F.f0 (hon 0 (by kernel_rfl))
      subst e24
      have hrx := HR.out.below F.bb
      have HRX := Lib.hid hrx
      clear hrx
      have HF := Lib.hid F
      have HCL := Lib.hid hcl
      have HDI := Lib.hid hdi
      clear F hon hcl hdi ho
      go_simp
      go_at_call 17
      refine (make_any a b W H ps A m c _ HA.out HB.out ha0 hb0 hm HRX.out).mono ?_
      rintro e w1 ⟨B1, k1, rfl, r1, _, _, b1⟩
      have FM := HF.out.mono (KeepG.bel (lo := w.heap.size + 1) (t := 0) b1) (by decide) (by decide)
      exact hK.out _ _ ⟨_, _, _, _, _, _, _, _, _, _, _, B1, k1, Ar, cr, out, A2, c2, A3, A4, c4, g7, g8, rfl, ⟨FM.bx, FM.bb, FM.f0, fun _ => ⟨rfl, r1⟩, FM.f2, FM.f3, FM.f4, FM.f5, FM.f6, FM.f7, FM.f8, FM.f9, FM.z9, FM.y9, FM.f10, FM.z10, FM.y10⟩⟩
    | 2, ho =>
      have eo := Option.some.inj ho
      subst eo
      intro d a' wx K hJ hdi hon hcl hK
      obtain ⟨s24, s25, s26, s27, s28, s29, s30, s31, s32, s7, s8, A1, c1, Ar, cr, out, A2, c2, A3, A4, c4, g7, g8, rfl, F⟩ := hJ
      have HF := Lib.hid F
      have HCL := Lib.hid hcl
      have HDI := Lib.hid hdi
      clear F hon hcl hdi ho
      go_simp
      exact hK.out _ _ ⟨_, _, _, _, _, _, _, _, _, _, _, A1, c1, Ar, cr, out, A2, c2, A3, A4, c4, g7, g8, rfl, ⟨HF.out.bx, HF.out.bb, HF.out.f0, HF.out.f1, fun _ => rfl, HF.out.f3, HF.out.f4, HF.out.f5, HF.out.f6, HF.out.f7, HF.out.f8, HF.out.f9, HF.out.z9, HF.out.y9, HF.out.f10, HF.out.z10, HF.out.y10⟩⟩
    | 3, ho =>
      have eo := Option.some.inj ho
      subst eo
      intro d a' wx K hJ hdi hon hcl hK
      obtain ⟨s24, s25, s26, s27, s28, s29, s30, s31, s32, s7, s8, A1, c1, Ar, cr, out, A2, c2, A3, A4, c4, g7, g8, rfl, F⟩ := hJ
      have e26 := F.f2 (hon 2 (by kernel_rfl))
      subst e26
      have hrx := HS.out.below F.bb
      have HRX := Lib.hid hrx
      clear hrx
      have HF := Lib.hid F
      have HCL := Lib.hid hcl
      have HDI := Lib.hid hdi
      clear F hon hcl hdi ho
      go_simp
      go_at_call 29
      refine (smalls_any L nl cl ss _ (by omega) HRX.out HOK.out).mono ?_
      rintro e w1 ⟨B1, k1, rfl, r1, _, b1⟩
      have FM := HF.out.mono (KeepG.bel (lo := w.heap.size + 1) (t := 0) b1) (by decide) (by decide)
      exact hK.out _ _ ⟨_, _, _, _, _, _, _, _, _, _, _, A1, c1, B1, k1, out, A2, c2, A3, A4, c4, g7, g8, rfl, ⟨FM.bx, FM.bb, FM.f0, FM.f1, FM.f2, fun _ => ⟨rfl, r1⟩, FM.f4, FM.f5, FM.f6, FM.f7, FM.f8, FM.f9, FM.z9, FM.y9, FM.f10, FM.z10, FM.y10⟩⟩
    | 4, ho =>
      have eo := Option.some.inj ho
      subst eo
      intro d a' wx K hJ hdi hon hcl hK
      obtain ⟨s24, s25, s26, s27, s28, s29, s30, s31, s32, s7, s8, A1, c1, Ar, cr, out, A2, c2, A3, A4, c4, g7, g8, rfl, F⟩ := hJ
      obtain ⟨e27, hrx⟩ := F.f3 (hon 3 (by kernel_rfl))
      subst e27
      have HRX := Lib.hid hrx
      clear hrx
      have HF := Lib.hid F
      have HCL := Lib.hid hcl
      have HDI := Lib.hid hdi
      clear F hon hcl hdi ho
      go_simp
      go_at_call 28
      refine (of_any Ar nl cr (ss.map Sm.rc) _ (by omega) HRX.out (smalls_big HOK.out)).mono ?_
      rintro e w1 ⟨out1, B1, k1, rfl, r1, hca, hpl, hol, b1⟩
      have FM := HF.out.mono (KeepG.bel (lo := w.heap.size + 1) (t := 0) b1) (by decide) (by decide)
      exact hK.out _ _ ⟨_, _, _, _, _, _, _, _, _, _, _, A1, c1, Ar, cr, out1, B1, k1, A3, A4, c4, g7, g8, rfl, ⟨FM.bx, FM.bb, FM.f0, FM.f1, FM.f2, FM.f3, fun _ => ⟨rfl, r1, hca, hpl, hol⟩, FM.f5, fun h => absurd (HCL.out 6 4 (by kernel_rfl) h) (by rw [HDI.out]; decide), FM.f7, FM.f8, FM.f9, FM.z9, FM.y9, FM.f10, FM.z10, FM.y10⟩⟩
    | 5, ho =>
      have eo := Option.some.inj ho
      subst eo
      intro d a' wx K hJ hdi hon hcl hK
      obtain ⟨s24, s25, s26, s27, s28, s29, s30, s31, s32, s7, s8, A1, c1, Ar, cr, out, A2, c2, A3, A4, c4, g7, g8, rfl, F⟩ := hJ
      have HF := Lib.hid F
      have HCL := Lib.hid hcl
      have HDI := Lib.hid hdi
      clear F hon hcl hdi ho
      go_simp
      exact hK.out _ _ ⟨_, _, _, _, _, _, _, _, _, _, _, A1, c1, Ar, cr, out, A2, c2, A3, A4, c4, g7, g8, rfl, ⟨HF.out.bx, HF.out.bb, HF.out.f0, HF.out.f1, HF.out.f2, HF.out.f3, HF.out.f4, fun _ => rfl, HF.out.f6, HF.out.f7, HF.out.f8, HF.out.f9, HF.out.z9, HF.out.y9, HF.out.f10, HF.out.z10, HF.out.y10⟩⟩
    | 6, ho =>
      have eo := Option.some.inj ho
      subst eo
      intro d a' wx K hJ hdi hon hcl hK
      obtain ⟨s24, s25, s26, s27, s28, s29, s30, s31, s32, s7, s8, A1, c1, Ar, cr, out, A2, c2, A3, A4, c4, g7, g8, rfl, F⟩ := hJ
      obtain ⟨e25, hr1⟩ := F.f1 (hon 1 (by kernel_rfl))
      subst e25
      obtain ⟨e28, hr2, hca, hpl, hol⟩ := F.f4 (hon 4 (by kernel_rfl))
      subst e28
      have e29 := F.f5 (hon 5 (by kernel_rfl))
      subst e29
      have hcn := region_cnt hca hpl
      have HR1 := Lib.hid hr1
      have HR2 := Lib.hid hr2
      have HCN := Lib.hid hcn
      clear hr1 hr2 hcn hca hpl
      have HF := Lib.hid F
      have HCL := Lib.hid hcl
      have HDI := Lib.hid hdi
      clear F hon hcl hdi ho
      go_simp
      go_at_call 27
      refine (fill_any W H (pl (W * H) ps m) p A1 A2 (W * H) c1 out.length c2 out _ rfl (by omega) (by omega) HR1.out hol HR2.out HCN.out).mono ?_
      rintro e w1 ⟨B1, rfl, r1, _, b1⟩
      have FM := HF.out.mono (KeepG.bel (lo := w.heap.size + 1) (t := 0) b1) (by decide) (by decide)
      exact hK.out _ _ ⟨_, _, _, _, _, _, _, _, _, _, _, A1, c1, Ar, cr, out, A2, c2, B1, A4, c4, g7, g8, rfl, ⟨FM.bx, FM.bb, FM.f0, FM.f1, FM.f2, FM.f3, FM.f4, FM.f5, fun _ => ⟨rfl, r1⟩, FM.f7, FM.f8, FM.f9, FM.z9, fun h => absurd (HCL.out 11 6 (by kernel_rfl) h) (by rw [HDI.out]; decide), FM.f10, FM.z10, FM.y10⟩⟩
    | 7, ho =>
      have eo := Option.some.inj ho
      subst eo
      intro d a' wx K hJ hdi hon hcl hK
      obtain ⟨s24, s25, s26, s27, s28, s29, s30, s31, s32, s7, s8, A1, c1, Ar, cr, out, A2, c2, A3, A4, c4, g7, g8, rfl, F⟩ := hJ
      have q0 := F.bx.cellV (i := 0) rfl
      have q1 := F.bx.cellV (i := 1) rfl
      have q2 := F.bx.cellV (i := 2) rfl
      have HF := Lib.hid F
      have HCL := Lib.hid hcl
      have HDI := Lib.hid hdi
      clear F hon hcl hdi ho
      go_simp
      exact hK.out _ _ ⟨_, _, _, _, _, _, _, _, _, _, _, A1, c1, Ar, cr, out, A2, c2, A3, A4, c4, g7, g8, rfl, ⟨HF.out.bx, HF.out.bb, HF.out.f0, HF.out.f1, HF.out.f2, HF.out.f3, HF.out.f4, HF.out.f5, HF.out.f6, fun _ => rfl, HF.out.f8, HF.out.f9, HF.out.z9, HF.out.y9, HF.out.f10, HF.out.z10, HF.out.y10⟩⟩
    | 8, ho =>
      have eo := Option.some.inj ho
      subst eo
      intro d a' wx K hJ hdi hon hcl hK
      obtain ⟨s24, s25, s26, s27, s28, s29, s30, s31, s32, s7, s8, A1, c1, Ar, cr, out, A2, c2, A3, A4, c4, g7, g8, rfl, F⟩ := hJ
      have e31 := F.f7 (hon 7 (by kernel_rfl))
      subst e31
      have hrx := HR.out.below F.bb
      have HRX := Lib.hid hrx
      clear hrx
      have HF := Lib.hid F
      have HCL := Lib.hid hcl
      have HDI := Lib.hid hdi
      clear F hon hcl hdi ho
      go_simp
      go_at_call 20
      refine (ref_any a b W H ps A m c _ HA.out HB.out ha0 hb0 hm HRX.out).mono ?_
      rintro e w1 ⟨B1, k1, rfl, r1, b1⟩
      have FM := HF.out.mono (KeepG.bel (lo := w.heap.size + 1) (t := 0) b1) (by decide) (by decide)
      exact hK.out _ _ ⟨_, _, _, _, _, _, _, _, _, _, _, A1, c1, Ar, cr, out, A2, c2, A3, B1, k1, g7, g8, rfl, ⟨FM.bx, FM.bb, FM.f0, FM.f1, FM.f2, FM.f3, FM.f4, FM.f5, FM.f6, FM.f7, fun _ => ⟨rfl, r1⟩, FM.f9, FM.z9, FM.y9, FM.f10, FM.z10, fun h => absurd (HCL.out 12 8 (by kernel_rfl) h) (by rw [HDI.out]; decide)⟩⟩
    | 9, ho =>
      have eo := Option.some.inj ho
      subst eo
      intro d a' wx K hJ hdi hon hcl hK
      obtain ⟨s24, s25, s26, s27, s28, s29, s30, s31, s32, s7, s8, A1, c1, Ar, cr, out, A2, c2, A3, A4, c4, g7, g8, rfl, F⟩ := hJ
      have hbs := F.bx.lt
      have HF := Lib.hid F
      have HCL := Lib.hid hcl
      have HDI := Lib.hid hdi
      clear F hon hcl hdi ho
      go_simp
      have FM := HF.out.mono (KeepG.bel (lo := w.heap.size + 1) (t := 0) (bal (bre wx) (.cells #[.int .i64 0, .int .i64 0, .slice none 0 0] 25))) (by decide) (by decide)
      exact hK.out _ _ ⟨_, _, _, _, _, _, _, _, _, _, _, A1, c1, Ar, cr, out, A2, c2, A3, A4, c4, wx.heap.size, g8, rfl, ⟨FM.bx, FM.bb, FM.f0, FM.f1, FM.f2, FM.f3, FM.f4, FM.f5, FM.f6, FM.f7, FM.f8, fun _ => ⟨rfl, hbs⟩, fun _ _ => Blk.new wx _ _, fun h => absurd (HCL.out 11 9 (by kernel_rfl) h) (by rw [HDI.out]; decide), FM.f10, FM.z10, FM.y10⟩⟩
    | 10, ho =>
      have eo := Option.some.inj ho
      subst eo
      intro d a' wx K hJ hdi hon hcl hK
      obtain ⟨s24, s25, s26, s27, s28, s29, s30, s31, s32, s7, s8, A1, c1, Ar, cr, out, A2, c2, A3, A4, c4, g7, g8, rfl, F⟩ := hJ
      have hbs := F.bx.lt
      have HF := Lib.hid F
      have HCL := Lib.hid hcl
      have HDI := Lib.hid hdi
      clear F hon hcl hdi ho
      go_simp
      have FM := HF.out.mono (KeepG.bel (lo := w.heap.size + 1) (t := 0) (bal (bre wx) (.cells #[.int .i64 0, .int .i64 0, .slice none 0 0] 36))) (by decide) (by decide)
      exact hK.out _ _ ⟨_, _, _, _, _, _, _, _, _, _, _, A1, c1, Ar, cr, out, A2, c2, A3, A4, c4, g7, wx.heap.size, rfl, ⟨FM.bx, FM.bb, FM.f0, FM.f1, FM.f2, FM.f3, FM.f4, FM.f5, FM.f6, FM.f7, FM.f8, FM.f9, FM.z9, FM.y9, fun _ => ⟨rfl, hbs⟩, fun _ _ => Blk.new wx _ _, fun h => absurd (HCL.out 12 10 (by kernel_rfl) h) (by rw [HDI.out]; decide)⟩⟩
    | 11, ho =>
      have eo := Option.some.inj ho
      subst eo
      intro d a' wx K hJ hdi hon hcl hK
      obtain ⟨s24, s25, s26, s27, s28, s29, s30, s31, s32, s7, s8, A1, c1, Ar, cr, out, A2, c2, A3, A4, c4, g7, g8, rfl, F⟩ := hJ
      obtain ⟨e7, hg7⟩ := F.f9 (hon 9 (by kernel_rfl))
      subst e7
      obtain ⟨e30, hr3⟩ := F.f6 (hon 6 (by kernel_rfl))
      subst e30
      have bz := F.z9 (hon 9 (by kernel_rfl)) hdi
      have zc0 := bz.cellV (i := 0) rfl
      have zc1 := bz.cellV (i := 1) rfl
      have zc2 := bz.cellV (i := 2) rfl
      have z0 := bz.frozen 0
      have z1 := bz.frozen 1
      have z2 := bz.frozen 2
      have HBZ := Lib.hid bz
      clear bz hr3
      have HF := Lib.hid F
      have HCL := Lib.hid hcl
      have HDI := Lib.hid hdi
      clear F hon hcl hdi ho
      go_simp
      obtain ⟨hk, hb2⟩ := box_set (lo := w.heap.size + 1) (x' := (W : Int)) (y' := (H : Int)) (B' := A3) (n' := W * H) (c' := W * H) HBZ.out hg7
      exact hK.out _ _ ⟨_, _, _, _, _, _, _, _, _, _, _, A1, c1, Ar, cr, out, A2, c2, A3, A4, c4, g7, g8, rfl, ⟨hk.blk HF.out.bx (.inr (Nat.lt_succ_self _)), (hk.lower (Nat.le_succ _)).below HF.out.bb, HF.out.f0, fun h => ⟨(HF.out.f1 h).1, hk.rd (HF.out.f1 h).2⟩, HF.out.f2, fun h => ⟨(HF.out.f3 h).1, hk.rdr (HF.out.f3 h).2⟩, fun h => ⟨(HF.out.f4 h).1, hk.rdr (HF.out.f4 h).2.1, (HF.out.f4 h).2.2⟩, HF.out.f5, fun h => ⟨(HF.out.f6 h).1, hk.rd (HF.out.f6 h).2⟩, HF.out.f7, fun h => ⟨(HF.out.f8 h).1, hk.rd (HF.out.f8 h).2⟩, HF.out.f9, (fun _ h => by cases h), fun _ => hb2, HF.out.f10, fun h h2 => hk.blk (HF.out.z10 h h2) (.inl (by decide)), fun h => hk.blk (HF.out.y10 h) (.inl (by decide))⟩⟩
    | 12, ho =>
      have eo := Option.some.inj ho
      subst eo
      intro d a' wx K hJ hdi hon hcl hK
      obtain ⟨s24, s25, s26, s27, s28, s29, s30, s31, s32, s7, s8, A1, c1, Ar, cr, out, A2, c2, A3, A4, c4, g7, g8, rfl, F⟩ := hJ
      obtain ⟨e8, hg8⟩ := F.f10 (hon 10 (by kernel_rfl))
      subst e8
      obtain ⟨e32, hr3⟩ := F.f8 (hon 8 (by kernel_rfl))
      subst e32
      have bz := F.z10 (hon 10 (by kernel_rfl)) hdi
      have zc0 := bz.cellV (i := 0) rfl
      have zc1 := bz.cellV (i := 1) rfl
      have zc2 := bz.cellV (i := 2) rfl
      have z0 := bz.frozen 0
      have z1 := bz.frozen 1
      have z2 := bz.frozen 2
      have HBZ := Lib.hid bz
      clear bz hr3
      have HF := Lib.hid F
      have HCL := Lib.hid hcl
      have HDI := Lib.hid hdi
      clear F hon hcl hdi ho
      go_simp
      obtain ⟨hk, hb2⟩ := box_set (lo := w.heap.size + 1) (x' := (W : Int)) (y' := (H : Int)) (B' := A4) (n' := W * H) (c' := c4) HBZ.out hg8
      exact hK.out _ _ ⟨_, _, _, _, _, _, _, _, _, _, _, A1, c1, Ar, cr, out, A2, c2, A3, A4, c4, g7, g8, rfl, ⟨hk.blk HF.out.bx (.inr (Nat.lt_succ_self _)), (hk.lower (Nat.le_succ _)).below HF.out.bb, HF.out.f0, fun h => ⟨(HF.out.f1 h).1, hk.rd (HF.out.f1 h).2⟩, HF.out.f2, fun h => ⟨(HF.out.f3 h).1, hk.rdr (HF.out.f3 h).2⟩, fun h => ⟨(HF.out.f4 h).1, hk.rdr (HF.out.f4 h).2.1, (HF.out.f4 h).2.2⟩, HF.out.f5, fun h => ⟨(HF.out.f6 h).1, hk.rd (HF.out.f6 h).2⟩, HF.out.f7, fun h => ⟨(HF.out.f8 h).1, hk.rd (HF.out.f8 h).2⟩, HF.out.f9, fun h h2 => hk.blk (HF.out.z9 h h2) (.inl (by decide)), fun h => hk.blk (HF.out.y9 h) (.inl (by decide)), HF.out.f10, (fun _ h => by cases h), fun _ => hb2⟩⟩
    | n + 13, ho => simp at ho
  · intro d a' wx hJ hall hcl
    obtain ⟨s24, s25, s26, s27, s28, s29, s30, s31, s32, s7, s8, A1, c1, Ar, cr, out, A2, c2, A3, A4, c4, g7, g8, rfl, F⟩ := hJ
    have e7 := (F.f9 (hall 9 (by decide))).1
    have e8 := (F.f10 (hall 10 (by decide))).1
    have b7 := F.y9 (hall 11 (by decide))
    have b8 := F.y10 (hall 12 (by decide))
    have r3 := (F.f6 (hall 6 (by decide))).2
    have r4 := (F.f8 (hall 8 (by decide))).2
    obtain ⟨e28, hr28, hca, hpl, hol28⟩ := F.f4 (hall 4 (by decide))
    have hbb := F.bb
    subst e7
    subst e8
    have hpl0 : (pl (W * H) ps m).length = W * H := pl_length _ _ _
    have hat : ∀ x y : Nat, x < W → y < H → gat W H (lay W (fun _ _ => some p) (anyP out) (pl (W * H) ps m)) x y = if inSm ss x y then p else gat W H (pl (W * H) ps m) x y := fun x y hx hy => fill_at hpl0 HOK.out hpl hx hy
    have HAT := Lib.hid hat
    have HB7 := Lib.hid b7
    have HB8 := Lib.hid b8
    have HR3 := Lib.hid r3
    have HR4 := Lib.hid r4
    have HBB := Lib.hid hbb
    have HSX := Lib.hid (HS.out.below hbb)
    clear e28 hr28 hol28 F hca hpl hall hcl b7 b8 r3 r4 hbb hat hpl0 HBX0 HBB0 HR
    go_wp2_with fail
    go_loopw [9] (fun s9 wr => ∃ y : Nat, s9 = .int .i64 y ∧ y ≤ H ∧ Below wx.heap.size wx wr) (fun i _ => H - (intOf i).toNat)
    case atStart => exact ⟨0, rfl, by omega, bre wx⟩
    case round =>
      obtain ⟨y, rfl, hy, hBy⟩ := hrel
      have k81 := (HB8.out.belowS hBy).cellV (i := 1) (v := .int .i64 H) rfl
      by_cases hyl : y < H
      · have hdy : decide ((y : Int) < (H : Int)) = true := by simp; omega
        have HBy := Lib.hid hBy
        clear hBy
        go_wp2_with fail
        go_loopw [10] (fun s10 wz => ∃ x : Nat, s10 = .int .i64 x ∧ x ≤ W ∧ Below wx.heap.size wx wz) (fun i _ => W - (intOf i).toNat)
        case atStart => exact ⟨0, rfl, by omega, HBy.out⟩
        case round =>
          obtain ⟨x, rfl, hx, hBx⟩ := hrel
          have k80 := (HB8.out.belowS hBx).cellV (i := 0) (v := .int .i64 W) rfl
          have HBx := Lib.hid hBx
          by_cases hxl : x < W
          · have hdx : decide ((x : Int) < (W : Int)) = true := by simp; omega
            have k81' := (HB8.out.belowS hBx).cellV (i := 1) (v := .int .i64 H) rfl
            have k82' := (HB8.out.belowS hBx).cellV (i := 2) (v := .slice A4 (W * H) c4) rfl
            have hxy := HAT.out x y hxl hyl
            clear hBx k81
            cases hin : inSm ss x y
            · rw [hin] at hxy
              have HXY := Lib.hid (hxy.trans (if_neg (by decide)))
              clear hxy
              go_wp2_with (first
                | (go_at_call 23; refine (rat_any W H (pl (W * H) ps m) x y A4 (W * H) c4 _ rfl (by omega) (by omega) (HR4.out.below HBx.out)).mono ?_; rintro e w2 ⟨rfl, b2⟩; have HB2 := Lib.hid (bstep HBx.out b2); clear b2)
                | (go_at_call 30; refine (inSm_any L nl cl ss x y _ (by omega) (HSX.out.below HB2.out) HOK.out).mono ?_; rintro e w3 ⟨rfl, b3⟩; rw [hin]; have HB3 := Lib.hid (bstep HB2.out b3); have k70 := (HB7.out.belowS HB3.out).cellV (i := 0) (v := .int .i64 W) rfl; have k71 := (HB7.out.belowS HB3.out).cellV (i := 1) (v := .int .i64 H) rfl; have k72 := (HB7.out.belowS HB3.out).cellV (i := 2) (v := .slice A3 (W * H) (W * H)) rfl; clear b3)
                | (go_at_call 14; refine (at_any W H (lay W (fun _ _ => some p) (anyP out) (pl (W * H) ps m)) x y A3 (W * H) (W * H) _ rfl (by omega) (by omega) (HR3.out.below HB3.out)).mono ?_; rintro e w4 ⟨rfl, b4⟩; rw [HXY.out]; have HB4 := Lib.hid (bstep HB3.out b4); clear b4))
              go_roundw
              case rel => exact ⟨x + 1, by go_num, by omega, HB4.out⟩
              case measure => simp [intOf]; omega
            · rw [hin] at hxy
              have HXY := Lib.hid (hxy.trans (if_pos rfl))
              clear hxy
              go_wp2_with (first
                | (go_at_call 23; refine (rat_any W H (pl (W * H) ps m) x y A4 (W * H) c4 _ rfl (by omega) (by omega) (HR4.out.below HBx.out)).mono ?_; rintro e w2 ⟨rfl, b2⟩; have HB2 := Lib.hid (bstep HBx.out b2); clear b2)
                | (go_at_call 30; refine (inSm_any L nl cl ss x y _ (by omega) (HSX.out.below HB2.out) HOK.out).mono ?_; rintro e w3 ⟨rfl, b3⟩; rw [hin]; have HB3 := Lib.hid (bstep HB2.out b3); have k70 := (HB7.out.belowS HB3.out).cellV (i := 0) (v := .int .i64 W) rfl; have k71 := (HB7.out.belowS HB3.out).cellV (i := 1) (v := .int .i64 H) rfl; have k72 := (HB7.out.belowS HB3.out).cellV (i := 2) (v := .slice A3 (W * H) (W * H)) rfl; clear b3)
                | (go_at_call 14; refine (at_any W H (lay W (fun _ _ => some p) (anyP out) (pl (W * H) ps m)) x y A3 (W * H) (W * H) _ rfl (by omega) (by omega) (HR3.out.below HB3.out)).mono ?_; rintro e w4 ⟨rfl, b4⟩; rw [HXY.out]; have HB4 := Lib.hid (bstep HB3.out b4); clear b4))
              go_roundw
              case rel => exact ⟨x + 1, by go_num, by omega, HB4.out⟩
              case measure => simp [intOf]; omega
          · have hdx : decide ((x : Int) < (W : Int)) = false := by simp; omega
            clear hBx k81
            go_wp2_with fail
            go_roundw
            case rel => exact ⟨y + 1, by go_num, by omega, HBx.out⟩
            case measure => simp [intOf]; omega
      · have hdy : decide ((y : Int) < (H : Int)) = false := by simp; omega
        have k70 := (HB7.out.belowS hBy).cellV (i := 0) (v := .int .i64 W) rfl
        have k71 := (HB7.out.belowS hBy).cellV (i := 1) (v := .int .i64 H) rfl
        have k72 := (HB7.out.belowS hBy).cellV (i := 2) (v := .slice A3 (W * H) (W * H)) rfl
        have HBy := Lib.hid hBy
        clear hBy
        go_wp2_with (first
          | (go_at_call 12; refine (size_any _ _ _ _ _ _).mono ?_; rintro e w5 ⟨rfl, b5⟩; have HB5 := Lib.hid (bstep HBy.out b5); have k80 := (HB8.out.belowS HB5.out).cellV (i := 0) (v := .int .i64 W) rfl; have k81' := (HB8.out.belowS HB5.out).cellV (i := 1) (v := .int .i64 H) rfl; clear b5)
          | (go_at_call 13; refine (awake_any _).mono ?_; rintro e w6 ⟨rfl, b6⟩; have HB6 := Lib.hid (bstep HB5.out b6); clear b6))
        go_ret
        exact ⟨rfl, bstep HBB.out HB6.out⟩

end Go.Proofs.Ytcdecglbkcllaab
