/-
  The walk of the law GridLays.
-/
import Derived.Test.YtcdecglbkcllaabGridLayB
import Derived.Test.YtcdecglbkcllaabGridFillE
namespace Go.Proofs.Ytcdecglbkcllaab
open Go.RowKit Go.Shelf

section
variable {lo t : Nat} {wx : World}
theorem box_set3 {g : Nat} {x y x' y' : Int} {B B' : Option Addr} {n c n' c' : Nat} (h : Blk wx g t #[.int .i64 x, .int .i64 y, .slice B n c]) (hl : lo ≤ g) :
    KeepG lo t wx (((wx.setCell ⟨g, 0, none⟩ (.int .i64 x')).setCell ⟨g, 1, none⟩ (.int .i64 y')).setCell ⟨g, 2, none⟩ (.slice B' n' c')) ∧
    Blk (((wx.setCell ⟨g, 0, none⟩ (.int .i64 x')).setCell ⟨g, 1, none⟩ (.int .i64 y')).setCell ⟨g, 2, none⟩ (.slice B' n' c')) g t #[.int .i64 x', .int .i64 y', .slice B' n' c'] ∧
    wx.grownBy (((wx.setCell ⟨g, 0, none⟩ (.int .i64 x')).setCell ⟨g, 1, none⟩ (.int .i64 y')).setCell ⟨g, 2, none⟩ (.slice B' n' c')) (some g) :=
  ⟨(box_set h hl).1, (box_set h hl).2, ((grown_setCell wx ⟨g, 0, none⟩ _).andThen (grown_setCell _ ⟨g, 1, none⟩ _) (fun j hj => .inr hj)).andThen (grown_setCell _ ⟨g, 2, none⟩ _) (fun j hj => .inr hj)⟩
end

set_option maxRecDepth 100000 in
set_option maxHeartbeats 2000000 in
theorem gridLays_skip (a b a2 b2 dx dy : Int) (A Ah : Option Addr) (m c mh ch : Nat) (L : Option Addr) (nl cl : Nat) (w : World) (h : 300 < m ∨ 300 < mh ∨ 12 < nl) :
    Calls Try.prog 7 #[.agg #[.int .u8 a, .int .u8 b, .slice A m c], .agg #[.int .u8 a2, .int .u8 b2, .slice Ah mh ch], .int .i64 dx, .int .i64 dy, .slice L nl cl] w fun e w' => e = .returned (.bool true) ∧ Below w.heap.size w w' := by
  have t : decide ((300 : Int) < (m : Int)) = true ∨ (decide ((300 : Int) < (m : Int)) = false ∧ (decide ((300 : Int) < (mh : Int)) = true ∨ (decide ((300 : Int) < (mh : Int)) = false ∧ decide ((12 : Int) < (nl : Int)) = true))) := by simp; omega
  clear h
  rcases t with d1 | ⟨d1, d2 | ⟨d2, d3⟩⟩
  all_goals
    go_enter Try.func7, Try.ntmps7
    go_wp2_with (go_at_call 13; refine (awake_any _).mono ?_; rintro e w3 ⟨rfl, hb3⟩)
    go_ret
    exact ⟨rfl, bstep (bal (bal (bre w) _) _) hb3⟩

/-- what a place of a grid reads that another one was laid on. -/
theorem lays_at {W H W2 H2 : Nat} {hpx px : List Int} {ss : List Sm} {out : List RC} {dx dy : Int} (hl : px.length = W * H) (hok : ∀ s ∈ ss, s.ok) (hp : ∀ x y, InR out x y ↔ InR ((ss.map Sm.rc).filter RC.cnt) x y) {x y : Nat} (hx : x < W) (hy : y < H) :
    gat W H (layR W W2 H2 hpx dx dy out px) x y = if (coordB dx && coordB dy) && (inSm ss x y && hasB W2 H2 ((x : Int) - dx) ((y : Int) - dy)) then gat W2 H2 hpx ((x : Int) - dx) ((y : Int) - dy) else gat W H px x y := by
  unfold layR
  cases hc : (coordB dx && coordB dy)
  · simp
  · rw [if_pos rfl, gat_lay hl hx hy]
    have : anyP out x y = inSm ss x y := by rw [Bool.eq_iff_iff, anyP_iff, inSm_iff hok]; exact hp x y
    rw [this]
    unfold layS
    cases inSm ss x y
    · simp
    · cases hasB W2 H2 ((x : Int) - dx) ((y : Int) - dy) <;> simp

/-- what holds in the region, whatever part of its operations is done. -/
structure LaysJ (a b a2 b2 dx dy : Int) (W H W2 H2 : Nat) (ps ps2 : List Int) (A Ah : Option Addr) (m c mh ch : Nat) (L : Option Addr) (nl cl : Nat) (ss : List Sm) (w : World) (d : Nat → Bool) (s34 : Value) (s35 : Value) (s36 : Value) (s37 : Value) (s38 : Value) (s39 : Value) (s40 : Value) (s41 : Value) (s42 : Value) (s43 : Value) (s44 : Value) (s45 : Value) (s46 : Value) (s47 : Value) (s11 : Value) (s12 : Value) (s13 : Value) (A1 : Option Addr) (c1 : Nat) (A2 : Option Addr) (c2 : Nat) (Ar : Option Addr) (cr : Nat) (out : List RC) (A3 : Option Addr) (c3 : Nat) (A4 : Option Addr) (c4 : Nat) (A5 : Option Addr) (c5 : Nat) (A6 : Option Addr) (c6 : Nat) (g1 : Nat) (g2 : Nat) (g3 : Nat) (wx : World) : Prop where
  bx : Blk wx w.heap.size 41 #[.int .u8 a, .int .u8 b, .slice A m c]
  bh : Blk wx (w.heap.size + 1) 41 #[.int .u8 a2, .int .u8 b2, .slice Ah mh ch]
  bb : Below w.heap.size w wx
  f0 : d 0 = true → s34 = .agg #[.int .u8 a, .int .u8 b, .slice A m c]
  f1 : d 1 = true → s35 = .agg #[.int .i64 W, .int .i64 H, .slice A1 (W * H) c1] ∧ Rd wx A1 (W * H) (U8 (pl (W * H) ps m)) ∧ W * H ≤ c1
  f2 : d 2 = true → s36 = .agg #[.int .u8 a2, .int .u8 b2, .slice Ah mh ch]
  f3 : d 3 = true → s37 = .agg #[.int .i64 W2, .int .i64 H2, .slice A2 (W2 * H2) c2] ∧ Rd wx A2 (W2 * H2) (U8 (pl (W2 * H2) ps2 mh))
  f4 : d 4 = true → s38 = .int .i64 dx
  f5 : d 5 = true → s39 = .int .i64 dy
  f6 : d 6 = true → s40 = .slice L nl cl
  f7 : d 7 = true → s41 = .slice Ar nl cr ∧ RdR wx Ar nl (ss.map Sm.rc)
  f8 : d 8 = true → s42 = .agg #[.slice A3 out.length c3] ∧ RdR wx A3 out.length out ∧ Canon out ∧ (∀ x y, InR out x y ↔ InR ((ss.map Sm.rc).filter RC.cnt) x y) ∧ out.length ≤ 1000000000000
  f9 : d 9 = true → s43 = .agg #[.int .i64 W, .int .i64 H, .slice A4 (W * H) c4] ∧ Rd wx A4 (W * H) (U8 (layR W W2 H2 (pl (W2 * H2) ps2 mh) dx dy out (pl (W * H) ps m)))
  f10 : d 10 = true → s44 = .agg #[.int .u8 a, .int .u8 b, .slice A m c]
  f11 : d 11 = true → s45 = .agg #[.int .i64 W, .int .i64 H, .slice A5 (W * H) c5] ∧ Rd wx A5 (W * H) (U8 (pl (W * H) ps m))
  f12 : d 12 = true → s46 = .agg #[.int .u8 a2, .int .u8 b2, .slice Ah mh ch]
  f13 : d 13 = true → s47 = .agg #[.int .i64 W2, .int .i64 H2, .slice A6 (W2 * H2) c6] ∧ Rd wx A6 (W2 * H2) (U8 (pl (W2 * H2) ps2 mh))
  f14 : d 14 = true → s11 = .pointer (some ⟨g1, 0, none⟩) ∧ w.heap.size + 2 ≤ g1
  z14 : d 14 = true → d 17 = false → Blk wx g1 25 #[.int .i64 0, .int .i64 0, .slice none 0 0]
  y14 : d 17 = true → Blk wx g1 25 #[.int .i64 W, .int .i64 H, .slice A4 (W * H) c4]
  f15 : d 15 = true → s12 = .pointer (some ⟨g2, 0, none⟩) ∧ w.heap.size + 2 ≤ g2 ∧ g2 < wx.heap.size
  z15 : d 15 = true → d 18 = false → Blk wx g2 36 #[.int .i64 0, .int .i64 0, .slice none 0 0]
  y15 : d 18 = true → Blk wx g2 36 #[.int .i64 W, .int .i64 H, .slice A5 (W * H) c5]
  f16 : d 16 = true → s13 = .pointer (some ⟨g3, 0, none⟩) ∧ w.heap.size + 2 ≤ g3 ∧ g3 < wx.heap.size
  z16 : d 16 = true → d 19 = false → Blk wx g3 36 #[.int .i64 0, .int .i64 0, .slice none 0 0]
  y16 : d 19 = true → Blk wx g3 36 #[.int .i64 W2, .int .i64 H2, .slice A6 (W2 * H2) c6]
  ne : d 15 = true → d 16 = true → g2 ≠ g3
theorem LaysJ.mono {a b a2 b2 dx dy : Int} {W H W2 H2 : Nat} {ps ps2 : List Int} {A Ah : Option Addr} {m c mh ch : Nat} {L : Option Addr} {nl cl : Nat} {ss : List Sm} {w : World} {d : Nat → Bool} {s34 : Value} {s35 : Value} {s36 : Value} {s37 : Value} {s38 : Value} {s39 : Value} {s40 : Value} {s41 : Value} {s42 : Value} {s43 : Value} {s44 : Value} {s45 : Value} {s46 : Value} {s47 : Value} {s11 : Value} {s12 : Value} {s13 : Value} {A1 : Option Addr} {c1 : Nat} {A2 : Option Addr} {c2 : Nat} {Ar : Option Addr} {cr : Nat} {out : List RC} {A3 : Option Addr} {c3 : Nat} {A4 : Option Addr} {c4 : Nat} {A5 : Option Addr} {c5 : Nat} {A6 : Option Addr} {c6 : Nat} {g1 : Nat} {g2 : Nat} {g3 : Nat} {wx wy : World} (F : LaysJ a b a2 b2 dx dy W H W2 H2 ps ps2 A Ah m c mh ch L nl cl ss w d s34 s35 s36 s37 s38 s39 s40 s41 s42 s43 s44 s45 s46 s47 s11 s12 s13 A1 c1 A2 c2 Ar cr out A3 c3 A4 c4 A5 c5 A6 c6 g1 g2 g3 wx) {t : Nat} (hk : KeepG (w.heap.size + 2) t wx wy) (hsz : wx.heap.size ≤ wy.heap.size) (h1 : t ≠ 25) (h2t : t ≠ 36) : LaysJ a b a2 b2 dx dy W H W2 H2 ps ps2 A Ah m c mh ch L nl cl ss w d s34 s35 s36 s37 s38 s39 s40 s41 s42 s43 s44 s45 s46 s47 s11 s12 s13 A1 c1 A2 c2 Ar cr out A3 c3 A4 c4 A5 c5 A6 c6 g1 g2 g3 wy :=
  ⟨hk.blk F.bx (.inr (by omega)), hk.blk F.bh (.inr (by omega)), (hk.lower (by omega)).below F.bb, F.f0, fun h => ⟨(F.f1 h).1, hk.rd (F.f1 h).2.1, (F.f1 h).2.2⟩, F.f2, fun h => ⟨(F.f3 h).1, hk.rd (F.f3 h).2⟩, F.f4, F.f5, F.f6, fun h => ⟨(F.f7 h).1, hk.rdr (F.f7 h).2⟩, fun h => ⟨(F.f8 h).1, hk.rdr (F.f8 h).2.1, (F.f8 h).2.2⟩, fun h => ⟨(F.f9 h).1, hk.rd (F.f9 h).2⟩, F.f10, fun h => ⟨(F.f11 h).1, hk.rd (F.f11 h).2⟩, F.f12, fun h => ⟨(F.f13 h).1, hk.rd (F.f13 h).2⟩, F.f14, fun h h2 => hk.blk (F.z14 h h2) (.inl (Ne.symm h1)), fun h => hk.blk (F.y14 h) (.inl (Ne.symm h1)), fun h => ⟨(F.f15 h).1, (F.f15 h).2.1, Nat.lt_of_lt_of_le (F.f15 h).2.2 hsz⟩, fun h h2 => hk.blk (F.z15 h h2) (.inl (Ne.symm h2t)), fun h => hk.blk (F.y15 h) (.inl (Ne.symm h2t)), fun h => ⟨(F.f16 h).1, (F.f16 h).2.1, Nat.lt_of_lt_of_le (F.f16 h).2.2 hsz⟩, fun h h2 => hk.blk (F.z16 h h2) (.inl (Ne.symm h2t)), fun h => hk.blk (F.y16 h) (.inl (Ne.symm h2t)), F.ne⟩
def LaysJJ (a b a2 b2 dx dy : Int) (W H W2 H2 : Nat) (ps ps2 : List Int) (A Ah : Option Addr) (m c mh ch : Nat) (L : Option Addr) (nl cl : Nat) (ss : List Sm) (w : World) (ds : List Deferred) (d : Nat → Bool) (act : Act) (wx : World) : Prop :=
  ∃ (s34 : Value) (s35 : Value) (s36 : Value) (s37 : Value) (s38 : Value) (s39 : Value) (s40 : Value) (s41 : Value) (s42 : Value) (s43 : Value) (s44 : Value) (s45 : Value) (s46 : Value) (s47 : Value) (s11 : Value) (s12 : Value) (s13 : Value) (A1 : Option Addr) (c1 : Nat) (A2 : Option Addr) (c2 : Nat) (Ar : Option Addr) (cr : Nat) (out : List RC) (A3 : Option Addr) (c3 : Nat) (A4 : Option Addr) (c4 : Nat) (A5 : Option Addr) (c5 : Nat) (A6 : Option Addr) (c6 : Nat) (g1 : Nat) (g2 : Nat) (g3 : Nat), act = ⟨#[.agg #[.int .u8 a, .int .u8 b, .slice A m c], .agg #[.int .u8 a2, .int .u8 b2, .slice Ah mh ch], .int .i64 dx, .int .i64 dy, .slice L nl cl, .pointer (some ⟨w.heap.size, 0, none⟩), .pointer (some ⟨w.heap.size + 1, 0, none⟩), undef, undef, undef, .bool false, s11, s12, s13, undef, undef, undef, undef, .pointer (some ⟨w.heap.size, 2, none⟩), .slice A m c, .int .i64 (m : Int), .bool false, .bool false, .pointer (some ⟨w.heap.size + 1, 2, none⟩), .slice Ah mh ch, .int .i64 (mh : Int), .bool false, .bool false, .bool false, .slice L nl cl, .int .i64 (nl : Int), .bool false, .bool false, undef, s34, s35, s36, s37, s38, s39, s40, s41, s42, s43, s44, s45, s46, s47, undef, undef, undef, undef, undef, undef, undef, undef, undef, undef, undef, undef, undef, undef, undef, undef, undef, undef, undef, undef, undef, undef, undef, undef, undef, undef, undef, undef, undef, undef, undef, undef, undef, undef, undef, undef, undef, undef, undef, undef, undef, undef, undef, undef, undef, undef, undef, undef, undef, undef, undef, undef, undef, undef, undef, undef, undef, undef, undef, undef, undef, undef, undef], ds⟩ ∧ LaysJ a b a2 b2 dx dy W H W2 H2 ps ps2 A Ah m c mh ch L nl cl ss w d s34 s35 s36 s37 s38 s39 s40 s41 s42 s43 s44 s45 s46 s47 s11 s12 s13 A1 c1 A2 c2 Ar cr out A3 c3 A4 c4 A5 c5 A6 c6 g1 g2 g3 wx


set_option maxRecDepth 100000 in
set_option maxHeartbeats 8000000 in
theorem gridLays_go (a b a2 b2 dx dy : Int) (W H W2 H2 : Nat) (ps ps2 : List Int) (A Ah : Option Addr) (m c mh ch : Nat) (L : Option Addr) (nl cl : Nat) (ss : List Sm) (w : World) (ha : a % 16 + 1 = W) (hb : b % 16 + 1 = H) (ha0 : 0 ≤ a ∧ a ≤ 255) (hb0 : 0 ≤ b ∧ b ≤ 255) (hm : m ≤ 300) (hr : Rd w A m (U8 ps))
    (haa : a2 % 16 + 1 = W2) (hbb : b2 % 16 + 1 = H2) (ha2 : 0 ≤ a2 ∧ a2 ≤ 255) (hb2 : 0 ≤ b2 ∧ b2 ≤ 255) (hmh : mh ≤ 300) (hrh : Rd w Ah mh (U8 ps2)) (hnl : nl ≤ 12) (hs : RdS w L nl ss) (hok : ∀ s ∈ ss, s.ok) :
    Calls Try.prog 7 #[.agg #[.int .u8 a, .int .u8 b, .slice A m c], .agg #[.int .u8 a2, .int .u8 b2, .slice Ah mh ch], .int .i64 dx, .int .i64 dy, .slice L nl cl] w fun e w' => e = .returned (.bool true) ∧ Below w.heap.size w w' := by
  have d1 : decide ((300 : Int) < (m : Int)) = false := by simp; omega
  have d2 : decide ((300 : Int) < (mh : Int)) = false := by simp; omega
  have d3 : decide ((12 : Int) < (nl : Int)) = false := by simp; omega
  have hW : 1 ≤ W ∧ W ≤ 16 := by omega
  have hH : 1 ≤ H ∧ H ≤ 16 := by omega
  have hW2 : 1 ≤ W2 ∧ W2 ≤ 16 := by omega
  have hH2 : 1 ≤ H2 ∧ H2 ≤ 16 := by omega
  have HR := Lib.hid hr
  have HRH := Lib.hid hrh
  have HS := Lib.hid hs
  have HOK := Lib.hid hok
  have HA := Lib.hid ha
  have HB := Lib.hid hb
  have HA2 := Lib.hid haa
  have HB2 := Lib.hid hbb
  clear hr ha hb hs hok hrh haa hbb
  go_enter Try.func7, Try.ntmps7
  go_upto_region 3 with fail
  have HBX0 := Lib.hid (show Blk ((w.alloc (.cells #[.int .u8 a, .int .u8 b, .slice A m c] 41)).alloc (.cells #[.int .u8 a2, .int .u8 b2, .slice Ah mh ch] 41)).drew w.heap.size 41 #[.int .u8 a, .int .u8 b, .slice A m c] from (Blk.new w _ _).alloc _)
  have HBH0 := Lib.hid (show Blk ((w.alloc (.cells #[.int .u8 a, .int .u8 b, .slice A m c] 41)).alloc (.cells #[.int .u8 a2, .int .u8 b2, .slice Ah mh ch] 41)).drew (w.heap.size + 1) 41 #[.int .u8 a2, .int .u8 b2, .slice Ah mh ch] from Blk.new2 w _ _ _)
  have HBB0 := Lib.hid ((bal (bal (bre w) (.cells #[.int .u8 a, .int .u8 b, .slice A m c] 41)) (.cells #[.int .u8 a2, .int .u8 b2, .slice Ah mh ch] 41)).drew)
  refine wp_region_inv Try.mixed (LaysJJ a b a2 b2 dx dy W H W2 H2 ps ps2 A Ah m c mh ch L nl cl ss w []) (by kernel_rfl) ?_ ?_ ?_
  · exact ⟨_, _, _, _, _, _, _, _, _, _, _, _, _, _, _, _, _, none, 0, none, 0, none, 0, [], none, 0, none, 0, none, 0, none, 0, 0, 0, 0, rfl, ⟨HBX0.out, HBH0.out, HBB0.out, (fun h => by cases h), (fun h => by cases h), (fun h => by cases h), (fun h => by cases h), (fun h => by cases h), (fun h => by cases h), (fun h => by cases h), (fun h => by cases h), (fun h => by cases h), (fun h => by cases h), (fun h => by cases h), (fun h => by cases h), (fun h => by cases h), (fun h => by cases h), (fun h => by cases h), (fun h _ => by cases h), (fun h => by cases h), (fun h => by cases h), (fun h _ => by cases h), (fun h => by cases h), (fun h => by cases h), (fun h _ => by cases h), (fun h => by cases h), (fun h _ => by cases h)⟩⟩
  · intro i o ho
    match i, ho with
    | 0, ho =>
      have eo := Option.some.inj ho
      subst eo
      intro d a' wx K hJ hdi hon hcl hK
      obtain ⟨s34, s35, s36, s37, s38, s39, s40, s41, s42, s43, s44, s45, s46, s47, s11, s12, s13, A1, c1, A2, c2, Ar, cr, out, A3, c3, A4, c4, A5, c5, A6, c6, g1, g2, g3, rfl, F⟩ := hJ
      have q0 := F.bx.cellV (i := 0) rfl
      have q1 := F.bx.cellV (i := 1) rfl
      have q2 := F.bx.cellV (i := 2) rfl
      have HF := Lib.hid F
      have HCL := Lib.hid hcl
      have HON := Lib.hid hon
      have HDI := Lib.hid hdi
      clear F hon hcl hdi ho
      go_simp
      exact hK.out _ _ ⟨_, _, _, _, _, _, _, _, _, _, _, _, _, _, _, _, _, A1, c1, A2, c2, Ar, cr, out, A3, c3, A4, c4, A5, c5, A6, c6, g1, g2, g3, rfl, ⟨HF.out.bx, HF.out.bh, HF.out.bb, fun _ => rfl, HF.out.f1, HF.out.f2, HF.out.f3, HF.out.f4, HF.out.f5, HF.out.f6, HF.out.f7, HF.out.f8, HF.out.f9, HF.out.f10, HF.out.f11, HF.out.f12, HF.out.f13, HF.out.f14, HF.out.z14, HF.out.y14, HF.out.f15, HF.out.z15, HF.out.y15, HF.out.f16, HF.out.z16, HF.out.y16, HF.out.ne⟩⟩
    | 1, ho =>
      have eo := Option.some.inj ho
      subst eo
      intro d a' wx K hJ hdi hon hcl hK
      obtain ⟨s34, s35, s36, s37, s38, s39, s40, s41, s42, s43, s44, s45, s46, s47, s11, s12, s13, A1, c1, A2, c2, Ar, cr, out, A3, c3, A4, c4, A5, c5, A6, c6, g1, g2, g3, rfl, F⟩ := hJ
      have e := F.f0 (hon 0 (by kernel_rfl))
      subst e
      have hrx := HR.out.below F.bb
      have HRX := Lib.hid hrx
      clear hrx
      have HF := Lib.hid F
      have HCL := Lib.hid hcl
      have HON := Lib.hid hon
      have HDI := Lib.hid hdi
      clear F hon hcl hdi ho
      go_simp
      go_at_call 17
      refine (make_any a b W H ps A m c _ HA.out HB.out ha0 hb0 hm HRX.out).mono ?_
      rintro e w1 ⟨B1, k1, rfl, r1, hk1, _, b1⟩
      have FM := HF.out.mono (KeepG.bel (lo := w.heap.size + 2) (t := 0) b1) (Below.size b1) (by decide) (by decide)
      exact hK.out _ _ ⟨_, _, _, _, _, _, _, _, _, _, _, _, _, _, _, _, _, B1, k1, A2, c2, Ar, cr, out, A3, c3, A4, c4, A5, c5, A6, c6, g1, g2, g3, rfl, ⟨FM.bx, FM.bh, FM.bb, FM.f0, fun _ => ⟨rfl, r1, hk1⟩, FM.f2, FM.f3, FM.f4, FM.f5, FM.f6, FM.f7, FM.f8, FM.f9, FM.f10, FM.f11, FM.f12, FM.f13, FM.f14, FM.z14, FM.y14, FM.f15, FM.z15, FM.y15, FM.f16, FM.z16, FM.y16, FM.ne⟩⟩
    | 2, ho =>
      have eo := Option.some.inj ho
      subst eo
      intro d a' wx K hJ hdi hon hcl hK
      obtain ⟨s34, s35, s36, s37, s38, s39, s40, s41, s42, s43, s44, s45, s46, s47, s11, s12, s13, A1, c1, A2, c2, Ar, cr, out, A3, c3, A4, c4, A5, c5, A6, c6, g1, g2, g3, rfl, F⟩ := hJ
      have q0 := F.bh.cellV (i := 0) rfl
      have q1 := F.bh.cellV (i := 1) rfl
      have q2 := F.bh.cellV (i := 2) rfl
      have HF := Lib.hid F
      have HCL := Lib.hid hcl
      have HON := Lib.hid hon
      have HDI := Lib.hid hdi
      clear F hon hcl hdi ho
      go_simp
      exact hK.out _ _ ⟨_, _, _, _, _, _, _, _, _, _, _, _, _, _, _, _, _, A1, c1, A2, c2, Ar, cr, out, A3, c3, A4, c4, A5, c5, A6, c6, g1, g2, g3, rfl, ⟨HF.out.bx, HF.out.bh, HF.out.bb, HF.out.f0, HF.out.f1, fun _ => rfl, HF.out.f3, HF.out.f4, HF.out.f5, HF.out.f6, HF.out.f7, HF.out.f8, HF.out.f9, HF.out.f10, HF.out.f11, HF.out.f12, HF.out.f13, HF.out.f14, HF.out.z14, HF.out.y14, HF.out.f15, HF.out.z15, HF.out.y15, HF.out.f16, HF.out.z16, HF.out.y16, HF.out.ne⟩⟩
    | 3, ho =>
      have eo := Option.some.inj ho
      subst eo
      intro d a' wx K hJ hdi hon hcl hK
      obtain ⟨s34, s35, s36, s37, s38, s39, s40, s41, s42, s43, s44, s45, s46, s47, s11, s12, s13, A1, c1, A2, c2, Ar, cr, out, A3, c3, A4, c4, A5, c5, A6, c6, g1, g2, g3, rfl, F⟩ := hJ
      have e := F.f2 (hon 2 (by kernel_rfl))
      subst e
      have hrx := HRH.out.below F.bb
      have HRX := Lib.hid hrx
      clear hrx
      have HF := Lib.hid F
      have HCL := Lib.hid hcl
      have HON := Lib.hid hon
      have HDI := Lib.hid hdi
      clear F hon hcl hdi ho
      go_simp
      go_at_call 17
      refine (make_any a2 b2 W2 H2 ps2 Ah mh ch _ HA2.out HB2.out ha2 hb2 hmh HRX.out).mono ?_
      rintro e w1 ⟨B1, k1, rfl, r1, _, _, b1⟩
      have FM := HF.out.mono (KeepG.bel (lo := w.heap.size + 2) (t := 0) b1) (Below.size b1) (by decide) (by decide)
      exact hK.out _ _ ⟨_, _, _, _, _, _, _, _, _, _, _, _, _, _, _, _, _, A1, c1, B1, k1, Ar, cr, out, A3, c3, A4, c4, A5, c5, A6, c6, g1, g2, g3, rfl, ⟨FM.bx, FM.bh, FM.bb, FM.f0, FM.f1, FM.f2, fun _ => ⟨rfl, r1⟩, FM.f4, FM.f5, FM.f6, FM.f7, FM.f8, FM.f9, FM.f10, FM.f11, FM.f12, FM.f13, FM.f14, FM.z14, FM.y14, FM.f15, FM.z15, FM.y15, FM.f16, FM.z16, FM.y16, FM.ne⟩⟩
    | 4, ho =>
      have eo := Option.some.inj ho
      subst eo
      intro d a' wx K hJ hdi hon hcl hK
      obtain ⟨s34, s35, s36, s37, s38, s39, s40, s41, s42, s43, s44, s45, s46, s47, s11, s12, s13, A1, c1, A2, c2, Ar, cr, out, A3, c3, A4, c4, A5, c5, A6, c6, g1, g2, g3, rfl, F⟩ := hJ
      have HF := Lib.hid F
      have HCL := Lib.hid hcl
      have HON := Lib.hid hon
      have HDI := Lib.hid hdi
      clear F hon hcl hdi ho
      go_simp
      exact hK.out _ _ ⟨_, _, _, _, _, _, _, _, _, _, _, _, _, _, _, _, _, A1, c1, A2, c2, Ar, cr, out, A3, c3, A4, c4, A5, c5, A6, c6, g1, g2, g3, rfl, ⟨HF.out.bx, HF.out.bh, HF.out.bb, HF.out.f0, HF.out.f1, HF.out.f2, HF.out.f3, fun _ => rfl, HF.out.f5, HF.out.f6, HF.out.f7, HF.out.f8, HF.out.f9, HF.out.f10, HF.out.f11, HF.out.f12, HF.out.f13, HF.out.f14, HF.out.z14, HF.out.y14, HF.out.f15, HF.out.z15, HF.out.y15, HF.out.f16, HF.out.z16, HF.out.y16, HF.out.ne⟩⟩
    | 5, ho =>
      have eo := Option.some.inj ho
      subst eo
      intro d a' wx K hJ hdi hon hcl hK
      obtain ⟨s34, s35, s36, s37, s38, s39, s40, s41, s42, s43, s44, s45, s46, s47, s11, s12, s13, A1, c1, A2, c2, Ar, cr, out, A3, c3, A4, c4, A5, c5, A6, c6, g1, g2, g3, rfl, F⟩ := hJ
      have HF := Lib.hid F
      have HCL := Lib.hid hcl
      have HON := Lib.hid hon
      have HDI := Lib.hid hdi
      clear F hon hcl hdi ho
      go_simp
      exact hK.out _ _ ⟨_, _, _, _, _, _, _, _, _, _, _, _, _, _, _, _, _, A1, c1, A2, c2, Ar, cr, out, A3, c3, A4, c4, A5, c5, A6, c6, g1, g2, g3, rfl, ⟨HF.out.bx, HF.out.bh, HF.out.bb, HF.out.f0, HF.out.f1, HF.out.f2, HF.out.f3, HF.out.f4, fun _ => rfl, HF.out.f6, HF.out.f7, HF.out.f8, HF.out.f9, HF.out.f10, HF.out.f11, HF.out.f12, HF.out.f13, HF.out.f14, HF.out.z14, HF.out.y14, HF.out.f15, HF.out.z15, HF.out.y15, HF.out.f16, HF.out.z16, HF.out.y16, HF.out.ne⟩⟩
    | 6, ho =>
      have eo := Option.some.inj ho
      subst eo
      intro d a' wx K hJ hdi hon hcl hK
      obtain ⟨s34, s35, s36, s37, s38, s39, s40, s41, s42, s43, s44, s45, s46, s47, s11, s12, s13, A1, c1, A2, c2, Ar, cr, out, A3, c3, A4, c4, A5, c5, A6, c6, g1, g2, g3, rfl, F⟩ := hJ
      have HF := Lib.hid F
      have HCL := Lib.hid hcl
      have HON := Lib.hid hon
      have HDI := Lib.hid hdi
      clear F hon hcl hdi ho
      go_simp
      exact hK.out _ _ ⟨_, _, _, _, _, _, _, _, _, _, _, _, _, _, _, _, _, A1, c1, A2, c2, Ar, cr, out, A3, c3, A4, c4, A5, c5, A6, c6, g1, g2, g3, rfl, ⟨HF.out.bx, HF.out.bh, HF.out.bb, HF.out.f0, HF.out.f1, HF.out.f2, HF.out.f3, HF.out.f4, HF.out.f5, fun _ => rfl, HF.out.f7, HF.out.f8, HF.out.f9, HF.out.f10, HF.out.f11, HF.out.f12, HF.out.f13, HF.out.f14, HF.out.z14, HF.out.y14, HF.out.f15, HF.out.z15, HF.out.y15, HF.out.f16, HF.out.z16, HF.out.y16, HF.out.ne⟩⟩
    | 7, ho =>
      have eo := Option.some.inj ho
      subst eo
      intro d a' wx K hJ hdi hon hcl hK
      obtain ⟨s34, s35, s36, s37, s38, s39, s40, s41, s42, s43, s44, s45, s46, s47, s11, s12, s13, A1, c1, A2, c2, Ar, cr, out, A3, c3, A4, c4, A5, c5, A6, c6, g1, g2, g3, rfl, F⟩ := hJ
      have e := F.f6 (hon 6 (by kernel_rfl))
      subst e
      have hrx := HS.out.below F.bb
      have HRX := Lib.hid hrx
      clear hrx
      have HF := Lib.hid F
      have HCL := Lib.hid hcl
      have HON := Lib.hid hon
      have HDI := Lib.hid hdi
      clear F hon hcl hdi ho
      go_simp
      go_at_call 29
      refine (smalls_any L nl cl ss _ (by omega) HRX.out HOK.out).mono ?_
      rintro e w1 ⟨B1, k1, rfl, r1, _, b1⟩
      have FM := HF.out.mono (KeepG.bel (lo := w.heap.size + 2) (t := 0) b1) (Below.size b1) (by decide) (by decide)
      exact hK.out _ _ ⟨_, _, _, _, _, _, _, _, _, _, _, _, _, _, _, _, _, A1, c1, A2, c2, B1, k1, out, A3, c3, A4, c4, A5, c5, A6, c6, g1, g2, g3, rfl, ⟨FM.bx, FM.bh, FM.bb, FM.f0, FM.f1, FM.f2, FM.f3, FM.f4, FM.f5, FM.f6, fun _ => ⟨rfl, r1⟩, FM.f8, FM.f9, FM.f10, FM.f11, FM.f12, FM.f13, FM.f14, FM.z14, FM.y14, FM.f15, FM.z15, FM.y15, FM.f16, FM.z16, FM.y16, FM.ne⟩⟩
    | 8, ho =>
      have eo := Option.some.inj ho
      subst eo
      intro d a' wx K hJ hdi hon hcl hK
      obtain ⟨s34, s35, s36, s37, s38, s39, s40, s41, s42, s43, s44, s45, s46, s47, s11, s12, s13, A1, c1, A2, c2, Ar, cr, out, A3, c3, A4, c4, A5, c5, A6, c6, g1, g2, g3, rfl, F⟩ := hJ
      obtain ⟨e, hrx⟩ := F.f7 (hon 7 (by kernel_rfl))
      subst e
      have HRX := Lib.hid hrx
      clear hrx
      have HF := Lib.hid F
      have HCL := Lib.hid hcl
      have HON := Lib.hid hon
      have HDI := Lib.hid hdi
      clear F hon hcl hdi ho
      go_simp
      go_at_call 28
      refine (of_any Ar nl cr (ss.map Sm.rc) _ (by omega) HRX.out (smalls_big HOK.out)).mono ?_
      rintro e w1 ⟨out1, B1, k1, rfl, r1, hca, hpl, hol, b1⟩
      have FM := HF.out.mono (KeepG.bel (lo := w.heap.size + 2) (t := 0) b1) (Below.size b1) (by decide) (by decide)
      exact hK.out _ _ ⟨_, _, _, _, _, _, _, _, _, _, _, _, _, _, _, _, _, A1, c1, A2, c2, Ar, cr, out1, B1, k1, A4, c4, A5, c5, A6, c6, g1, g2, g3, rfl, ⟨FM.bx, FM.bh, FM.bb, FM.f0, FM.f1, FM.f2, FM.f3, FM.f4, FM.f5, FM.f6, FM.f7, fun _ => ⟨rfl, r1, hca, hpl, hol⟩, (fun h => absurd (HCL.out 9 8 (by kernel_rfl) h) (by rw [HDI.out]; decide)), FM.f10, FM.f11, FM.f12, FM.f13, FM.f14, FM.z14, FM.y14, FM.f15, FM.z15, FM.y15, FM.f16, FM.z16, FM.y16, FM.ne⟩⟩
    | 9, ho =>
      have eo := Option.some.inj ho
      subst eo
      intro d a' wx K hJ hdi hon hcl hK
      obtain ⟨s34, s35, s36, s37, s38, s39, s40, s41, s42, s43, s44, s45, s46, s47, s11, s12, s13, A1, c1, A2, c2, Ar, cr, out, A3, c3, A4, c4, A5, c5, A6, c6, g1, g2, g3, rfl, F⟩ := hJ
      obtain ⟨e1, hr1, hc1⟩ := F.f1 (hon 1 (by kernel_rfl))
      subst e1
      obtain ⟨e3, hr2⟩ := F.f3 (hon 3 (by kernel_rfl))
      subst e3
      have e4 := F.f4 (hon 4 (by kernel_rfl))
      subst e4
      have e5 := F.f5 (hon 5 (by kernel_rfl))
      subst e5
      obtain ⟨e8, hr3, hca, hpl, hol⟩ := F.f8 (hon 8 (by kernel_rfl))
      subst e8
      have hcn := region_cnt hca hpl
      have HR1 := Lib.hid hr1
      have HR2 := Lib.hid hr2
      have HR3 := Lib.hid hr3
      have HCN := Lib.hid hcn
      clear hr1 hr2 hr3 hcn hca hpl
      have HF := Lib.hid F
      have HCL := Lib.hid hcl
      have HON := Lib.hid hon
      have HDI := Lib.hid hdi
      clear F hon hcl hdi ho
      go_simp
      go_at_call 31
      refine (lay_any W H W2 H2 (pl (W * H) ps m) (pl (W2 * H2) ps2 mh) A1 A2 A3 (W * H) c1 (W2 * H2) c2 out.length c3 out dx dy _ hc1 rfl (by omega) (by omega) HR1.out rfl (by omega) (by omega) HR2.out hol HR3.out HCN.out).mono ?_
      rintro e w1 ⟨B1, k1, rfl, r1, _, b1⟩
      have FM := HF.out.mono (KeepG.bel (lo := w.heap.size + 2) (t := 0) b1) (Below.size b1) (by decide) (by decide)
      exact hK.out _ _ ⟨_, _, _, _, _, _, _, _, _, _, _, _, _, _, _, _, _, A1, c1, A2, c2, Ar, cr, out, A3, c3, B1, k1, A5, c5, A6, c6, g1, g2, g3, rfl, ⟨FM.bx, FM.bh, FM.bb, FM.f0, FM.f1, FM.f2, FM.f3, FM.f4, FM.f5, FM.f6, FM.f7, FM.f8, fun _ => ⟨rfl, r1⟩, FM.f10, FM.f11, FM.f12, FM.f13, FM.f14, FM.z14, (fun h => absurd (HCL.out 17 9 (by kernel_rfl) h) (by rw [HDI.out]; decide)), FM.f15, FM.z15, FM.y15, FM.f16, FM.z16, FM.y16, FM.ne⟩⟩
    | 10, ho =>
      have eo := Option.some.inj ho
      subst eo
      intro d a' wx K hJ hdi hon hcl hK
      obtain ⟨s34, s35, s36, s37, s38, s39, s40, s41, s42, s43, s44, s45, s46, s47, s11, s12, s13, A1, c1, A2, c2, Ar, cr, out, A3, c3, A4, c4, A5, c5, A6, c6, g1, g2, g3, rfl, F⟩ := hJ
      have q0 := F.bx.cellV (i := 0) rfl
      have q1 := F.bx.cellV (i := 1) rfl
      have q2 := F.bx.cellV (i := 2) rfl
      have HF := Lib.hid F
      have HCL := Lib.hid hcl
      have HON := Lib.hid hon
      have HDI := Lib.hid hdi
      clear F hon hcl hdi ho
      go_simp
      exact hK.out _ _ ⟨_, _, _, _, _, _, _, _, _, _, _, _, _, _, _, _, _, A1, c1, A2, c2, Ar, cr, out, A3, c3, A4, c4, A5, c5, A6, c6, g1, g2, g3, rfl, ⟨HF.out.bx, HF.out.bh, HF.out.bb, HF.out.f0, HF.out.f1, HF.out.f2, HF.out.f3, HF.out.f4, HF.out.f5, HF.out.f6, HF.out.f7, HF.out.f8, HF.out.f9, fun _ => rfl, HF.out.f11, HF.out.f12, HF.out.f13, HF.out.f14, HF.out.z14, HF.out.y14, HF.out.f15, HF.out.z15, HF.out.y15, HF.out.f16, HF.out.z16, HF.out.y16, HF.out.ne⟩⟩
    | 11, ho =>
      have eo := Option.some.inj ho
      subst eo
      intro d a' wx K hJ hdi hon hcl hK
      obtain ⟨s34, s35, s36, s37, s38, s39, s40, s41, s42, s43, s44, s45, s46, s47, s11, s12, s13, A1, c1, A2, c2, Ar, cr, out, A3, c3, A4, c4, A5, c5, A6, c6, g1, g2, g3, rfl, F⟩ := hJ
      have e := F.f10 (hon 10 (by kernel_rfl))
      subst e
      have hrx := HR.out.below F.bb
      have HRX := Lib.hid hrx
      clear hrx
      have HF := Lib.hid F
      have HCL := Lib.hid hcl
      have HON := Lib.hid hon
      have HDI := Lib.hid hdi
      clear F hon hcl hdi ho
      go_simp
      go_at_call 20
      refine (ref_any a b W H ps A m c _ HA.out HB.out ha0 hb0 hm HRX.out).mono ?_
      rintro e w1 ⟨B1, k1, rfl, r1, b1⟩
      have FM := HF.out.mono (KeepG.bel (lo := w.heap.size + 2) (t := 0) b1) (Below.size b1) (by decide) (by decide)
      exact hK.out _ _ ⟨_, _, _, _, _, _, _, _, _, _, _, _, _, _, _, _, _, A1, c1, A2, c2, Ar, cr, out, A3, c3, A4, c4, B1, k1, A6, c6, g1, g2, g3, rfl, ⟨FM.bx, FM.bh, FM.bb, FM.f0, FM.f1, FM.f2, FM.f3, FM.f4, FM.f5, FM.f6, FM.f7, FM.f8, FM.f9, FM.f10, fun _ => ⟨rfl, r1⟩, FM.f12, FM.f13, FM.f14, FM.z14, FM.y14, FM.f15, FM.z15, (fun h => absurd (HCL.out 18 11 (by kernel_rfl) h) (by rw [HDI.out]; decide)), FM.f16, FM.z16, FM.y16, FM.ne⟩⟩
    | 12, ho =>
      have eo := Option.some.inj ho
      subst eo
      intro d a' wx K hJ hdi hon hcl hK
      obtain ⟨s34, s35, s36, s37, s38, s39, s40, s41, s42, s43, s44, s45, s46, s47, s11, s12, s13, A1, c1, A2, c2, Ar, cr, out, A3, c3, A4, c4, A5, c5, A6, c6, g1, g2, g3, rfl, F⟩ := hJ
      have q0 := F.bh.cellV (i := 0) rfl
      have q1 := F.bh.cellV (i := 1) rfl
      have q2 := F.bh.cellV (i := 2) rfl
      have HF := Lib.hid F
      have HCL := Lib.hid hcl
      have HON := Lib.hid hon
      have HDI := Lib.hid hdi
      clear F hon hcl hdi ho
      go_simp
      exact hK.out _ _ ⟨_, _, _, _, _, _, _, _, _, _, _, _, _, _, _, _, _, A1, c1, A2, c2, Ar, cr, out, A3, c3, A4, c4, A5, c5, A6, c6, g1, g2, g3, rfl, ⟨HF.out.bx, HF.out.bh, HF.out.bb, HF.out.f0, HF.out.f1, HF.out.f2, HF.out.f3, HF.out.f4, HF.out.f5, HF.out.f6, HF.out.f7, HF.out.f8, HF.out.f9, HF.out.f10, HF.out.f11, fun _ => rfl, HF.out.f13, HF.out.f14, HF.out.z14, HF.out.y14, HF.out.f15, HF.out.z15, HF.out.y15, HF.out.f16, HF.out.z16, HF.out.y16, HF.out.ne⟩⟩
    | 13, ho =>
      have eo := Option.some.inj ho
      subst eo
      intro d a' wx K hJ hdi hon hcl hK
      obtain ⟨s34, s35, s36, s37, s38, s39, s40, s41, s42, s43, s44, s45, s46, s47, s11, s12, s13, A1, c1, A2, c2, Ar, cr, out, A3, c3, A4, c4, A5, c5, A6, c6, g1, g2, g3, rfl, F⟩ := hJ
      have e := F.f12 (hon 12 (by kernel_rfl))
      subst e
      have hrx := HRH.out.below F.bb
      have HRX := Lib.hid hrx
      clear hrx
      have HF := Lib.hid F
      have HCL := Lib.hid hcl
      have HON := Lib.hid hon
      have HDI := Lib.hid hdi
      clear F hon hcl hdi ho
      go_simp
      go_at_call 20
      refine (ref_any a2 b2 W2 H2 ps2 Ah mh ch _ HA2.out HB2.out ha2 hb2 hmh HRX.out).mono ?_
      rintro e w1 ⟨B1, k1, rfl, r1, b1⟩
      have FM := HF.out.mono (KeepG.bel (lo := w.heap.size + 2) (t := 0) b1) (Below.size b1) (by decide) (by decide)
      exact hK.out _ _ ⟨_, _, _, _, _, _, _, _, _, _, _, _, _, _, _, _, _, A1, c1, A2, c2, Ar, cr, out, A3, c3, A4, c4, A5, c5, B1, k1, g1, g2, g3, rfl, ⟨FM.bx, FM.bh, FM.bb, FM.f0, FM.f1, FM.f2, FM.f3, FM.f4, FM.f5, FM.f6, FM.f7, FM.f8, FM.f9, FM.f10, FM.f11, FM.f12, fun _ => ⟨rfl, r1⟩, FM.f14, FM.z14, FM.y14, FM.f15, FM.z15, FM.y15, FM.f16, FM.z16, (fun h => absurd (HCL.out 19 13 (by kernel_rfl) h) (by rw [HDI.out]; decide)), FM.ne⟩⟩
    | 14, ho =>
      have eo := Option.some.inj ho
      subst eo
      intro d a' wx K hJ hdi hon hcl hK
      obtain ⟨s34, s35, s36, s37, s38, s39, s40, s41, s42, s43, s44, s45, s46, s47, s11, s12, s13, A1, c1, A2, c2, Ar, cr, out, A3, c3, A4, c4, A5, c5, A6, c6, g1, g2, g3, rfl, F⟩ := hJ
      have hbs := F.bh.lt
      have HF := Lib.hid F
      have HCL := Lib.hid hcl
      have HON := Lib.hid hon
      have HDI := Lib.hid hdi
      clear F hon hcl hdi ho
      go_simp
      have FM := HF.out.mono (KeepG.bel (lo := w.heap.size + 2) (t := 0) (bal (bre wx) (.cells #[.int .i64 0, .int .i64 0, .slice none 0 0] 25))) (Below.size (bal (bre wx) (.cells #[.int .i64 0, .int .i64 0, .slice none 0 0] 25))) (by decide) (by decide)
      exact hK.out _ _ ⟨_, _, _, _, _, _, _, _, _, _, _, _, _, _, _, _, _, A1, c1, A2, c2, Ar, cr, out, A3, c3, A4, c4, A5, c5, A6, c6, wx.heap.size, g2, g3, rfl, ⟨FM.bx, FM.bh, FM.bb, FM.f0, FM.f1, FM.f2, FM.f3, FM.f4, FM.f5, FM.f6, FM.f7, FM.f8, FM.f9, FM.f10, FM.f11, FM.f12, FM.f13, fun _ => ⟨rfl, hbs⟩, fun _ _ => Blk.new wx _ _, (fun h => absurd (HCL.out 17 14 (by kernel_rfl) h) (by rw [HDI.out]; decide)), FM.f15, FM.z15, FM.y15, FM.f16, FM.z16, FM.y16, FM.ne⟩⟩
    | 15, ho =>
      have eo := Option.some.inj ho
      subst eo
      intro d a' wx K hJ hdi hon hcl hK
      obtain ⟨s34, s35, s36, s37, s38, s39, s40, s41, s42, s43, s44, s45, s46, s47, s11, s12, s13, A1, c1, A2, c2, Ar, cr, out, A3, c3, A4, c4, A5, c5, A6, c6, g1, g2, g3, rfl, F⟩ := hJ
      have hbs := F.bh.lt
      have HF := Lib.hid F
      have HCL := Lib.hid hcl
      have HON := Lib.hid hon
      have HDI := Lib.hid hdi
      clear F hon hcl hdi ho
      go_simp
      have FM := HF.out.mono (KeepG.bel (lo := w.heap.size + 2) (t := 0) (bal (bre wx) (.cells #[.int .i64 0, .int .i64 0, .slice none 0 0] 36))) (Below.size (bal (bre wx) (.cells #[.int .i64 0, .int .i64 0, .slice none 0 0] 36))) (by decide) (by decide)
      exact hK.out _ _ ⟨_, _, _, _, _, _, _, _, _, _, _, _, _, _, _, _, _, A1, c1, A2, c2, Ar, cr, out, A3, c3, A4, c4, A5, c5, A6, c6, g1, wx.heap.size, g3, rfl, ⟨FM.bx, FM.bh, FM.bb, FM.f0, FM.f1, FM.f2, FM.f3, FM.f4, FM.f5, FM.f6, FM.f7, FM.f8, FM.f9, FM.f10, FM.f11, FM.f12, FM.f13, FM.f14, FM.z14, FM.y14, fun _ => ⟨rfl, hbs, by simp⟩, fun _ _ => Blk.new wx _ _, (fun h => absurd (HCL.out 18 15 (by kernel_rfl) h) (by rw [HDI.out]; decide)), FM.f16, FM.z16, FM.y16, fun _ h => Nat.ne_of_gt (HF.out.f16 h).2.2⟩⟩
    | 16, ho =>
      have eo := Option.some.inj ho
      subst eo
      intro d a' wx K hJ hdi hon hcl hK
      obtain ⟨s34, s35, s36, s37, s38, s39, s40, s41, s42, s43, s44, s45, s46, s47, s11, s12, s13, A1, c1, A2, c2, Ar, cr, out, A3, c3, A4, c4, A5, c5, A6, c6, g1, g2, g3, rfl, F⟩ := hJ
      have hbs := F.bh.lt
      have HF := Lib.hid F
      have HCL := Lib.hid hcl
      have HON := Lib.hid hon
      have HDI := Lib.hid hdi
      clear F hon hcl hdi ho
      go_simp
      have FM := HF.out.mono (KeepG.bel (lo := w.heap.size + 2) (t := 0) (bal (bre wx) (.cells #[.int .i64 0, .int .i64 0, .slice none 0 0] 36))) (Below.size (bal (bre wx) (.cells #[.int .i64 0, .int .i64 0, .slice none 0 0] 36))) (by decide) (by decide)
      exact hK.out _ _ ⟨_, _, _, _, _, _, _, _, _, _, _, _, _, _, _, _, _, A1, c1, A2, c2, Ar, cr, out, A3, c3, A4, c4, A5, c5, A6, c6, g1, g2, wx.heap.size, rfl, ⟨FM.bx, FM.bh, FM.bb, FM.f0, FM.f1, FM.f2, FM.f3, FM.f4, FM.f5, FM.f6, FM.f7, FM.f8, FM.f9, FM.f10, FM.f11, FM.f12, FM.f13, FM.f14, FM.z14, FM.y14, FM.f15, FM.z15, FM.y15, fun _ => ⟨rfl, hbs, by simp⟩, fun _ _ => Blk.new wx _ _, (fun h => absurd (HCL.out 19 16 (by kernel_rfl) h) (by rw [HDI.out]; decide)), fun h _ => Nat.ne_of_lt (HF.out.f15 h).2.2⟩⟩
    | 17, ho =>
      have eo := Option.some.inj ho
      subst eo
      intro d a' wx K hJ hdi hon hcl hK
      obtain ⟨s34, s35, s36, s37, s38, s39, s40, s41, s42, s43, s44, s45, s46, s47, s11, s12, s13, A1, c1, A2, c2, Ar, cr, out, A3, c3, A4, c4, A5, c5, A6, c6, g1, g2, g3, rfl, F⟩ := hJ
      have ef := F.f14 (hon 14 (by kernel_rfl))
      obtain ⟨ep, hgl⟩ := ef
      subst ep
      have ev := (F.f9 (hon 9 (by kernel_rfl))).1
      subst ev
      have bz := F.z14 (hon 14 (by kernel_rfl)) hdi
      have zc0 := bz.cellV (i := 0) rfl
      have zc1 := bz.cellV (i := 1) rfl
      have zc2 := bz.cellV (i := 2) rfl
      have z0 := bz.frozen 0
      have z1 := bz.frozen 1
      have z2 := bz.frozen 2
      have HBZ := Lib.hid bz
      have hsz0 := bz.lt
      clear bz
      have HF := Lib.hid F
      have HCL := Lib.hid hcl
      have HON := Lib.hid hon
      have HDI := Lib.hid hdi
      clear F hon hcl hdi ho
      go_simp
      obtain ⟨hk, hb2, hgr⟩ := box_set3 (lo := w.heap.size + 2) (x' := (W : Int)) (y' := (H : Int)) (B' := A4) (n' := W * H) (c' := c4) HBZ.out (by omega)
      have hsz := hgr.size
      exact hK.out _ _ ⟨_, _, _, _, _, _, _, _, _, _, _, _, _, _, _, _, _, A1, c1, A2, c2, Ar, cr, out, A3, c3, A4, c4, A5, c5, A6, c6, g1, g2, g3, rfl, ⟨hk.blk HF.out.bx (.inr (by omega)), hk.blk HF.out.bh (.inr (by omega)), (hk.lower (by omega)).below HF.out.bb, HF.out.f0, fun h => ⟨(HF.out.f1 h).1, hk.rd (HF.out.f1 h).2.1, (HF.out.f1 h).2.2⟩, HF.out.f2, fun h => ⟨(HF.out.f3 h).1, hk.rd (HF.out.f3 h).2⟩, HF.out.f4, HF.out.f5, HF.out.f6, fun h => ⟨(HF.out.f7 h).1, hk.rdr (HF.out.f7 h).2⟩, fun h => ⟨(HF.out.f8 h).1, hk.rdr (HF.out.f8 h).2.1, (HF.out.f8 h).2.2⟩, fun h => ⟨(HF.out.f9 h).1, hk.rd (HF.out.f9 h).2⟩, HF.out.f10, fun h => ⟨(HF.out.f11 h).1, hk.rd (HF.out.f11 h).2⟩, HF.out.f12, fun h => ⟨(HF.out.f13 h).1, hk.rd (HF.out.f13 h).2⟩, HF.out.f14, (fun _ h => by cases h), fun _ => hb2, fun h => ⟨(HF.out.f15 h).1, (HF.out.f15 h).2.1, Nat.lt_of_lt_of_le (HF.out.f15 h).2.2 hsz⟩, fun h h2 => hk.blk (HF.out.z15 h h2) (.inl (by decide)), fun h => hk.blk (HF.out.y15 h) (.inl (by decide)), fun h => ⟨(HF.out.f16 h).1, (HF.out.f16 h).2.1, Nat.lt_of_lt_of_le (HF.out.f16 h).2.2 hsz⟩, fun h h2 => hk.blk (HF.out.z16 h h2) (.inl (by decide)), fun h => hk.blk (HF.out.y16 h) (.inl (by decide)), HF.out.ne⟩⟩
    | 18, ho =>
      have eo := Option.some.inj ho
      subst eo
      intro d a' wx K hJ hdi hon hcl hK
      obtain ⟨s34, s35, s36, s37, s38, s39, s40, s41, s42, s43, s44, s45, s46, s47, s11, s12, s13, A1, c1, A2, c2, Ar, cr, out, A3, c3, A4, c4, A5, c5, A6, c6, g1, g2, g3, rfl, F⟩ := hJ
      have ef := F.f15 (hon 15 (by kernel_rfl))
      obtain ⟨ep, hgl⟩ := ef
      subst ep
      have ev := (F.f11 (hon 11 (by kernel_rfl))).1
      subst ev
      have bz := F.z15 (hon 15 (by kernel_rfl)) hdi
      have zc0 := bz.cellV (i := 0) rfl
      have zc1 := bz.cellV (i := 1) rfl
      have zc2 := bz.cellV (i := 2) rfl
      have z0 := bz.frozen 0
      have z1 := bz.frozen 1
      have z2 := bz.frozen 2
      have HBZ := Lib.hid bz
      have hsz0 := bz.lt
      clear bz
      have HF := Lib.hid F
      have HCL := Lib.hid hcl
      have HON := Lib.hid hon
      have HDI := Lib.hid hdi
      clear F hon hcl hdi ho
      go_simp
      obtain ⟨hk, hb2, hgr⟩ := box_set3 (lo := w.heap.size + 2) (x' := (W : Int)) (y' := (H : Int)) (B' := A5) (n' := W * H) (c' := c5) HBZ.out (by omega)
      have hsz := hgr.size
      exact hK.out _ _ ⟨_, _, _, _, _, _, _, _, _, _, _, _, _, _, _, _, _, A1, c1, A2, c2, Ar, cr, out, A3, c3, A4, c4, A5, c5, A6, c6, g1, g2, g3, rfl, ⟨hk.blk HF.out.bx (.inr (by omega)), hk.blk HF.out.bh (.inr (by omega)), (hk.lower (by omega)).below HF.out.bb, HF.out.f0, fun h => ⟨(HF.out.f1 h).1, hk.rd (HF.out.f1 h).2.1, (HF.out.f1 h).2.2⟩, HF.out.f2, fun h => ⟨(HF.out.f3 h).1, hk.rd (HF.out.f3 h).2⟩, HF.out.f4, HF.out.f5, HF.out.f6, fun h => ⟨(HF.out.f7 h).1, hk.rdr (HF.out.f7 h).2⟩, fun h => ⟨(HF.out.f8 h).1, hk.rdr (HF.out.f8 h).2.1, (HF.out.f8 h).2.2⟩, fun h => ⟨(HF.out.f9 h).1, hk.rd (HF.out.f9 h).2⟩, HF.out.f10, fun h => ⟨(HF.out.f11 h).1, hk.rd (HF.out.f11 h).2⟩, HF.out.f12, fun h => ⟨(HF.out.f13 h).1, hk.rd (HF.out.f13 h).2⟩, HF.out.f14, fun h h2 => hk.blk (HF.out.z14 h h2) (.inl (by decide)), fun h => hk.blk (HF.out.y14 h) (.inl (by decide)), fun h => ⟨(HF.out.f15 h).1, (HF.out.f15 h).2.1, Nat.lt_of_lt_of_le (HF.out.f15 h).2.2 hsz⟩, (fun _ h => by cases h), fun _ => hb2, fun h => ⟨(HF.out.f16 h).1, (HF.out.f16 h).2.1, Nat.lt_of_lt_of_le (HF.out.f16 h).2.2 hsz⟩, fun h h2 => (HF.out.z16 h h2).grown hgr (fun e => HF.out.ne (HON.out 15 (by kernel_rfl)) h (by injection e with e; exact e.symm)), fun h => (HF.out.y16 h).grown hgr (fun e => HF.out.ne (HON.out 15 (by kernel_rfl)) (HCL.out 19 16 (by kernel_rfl) h) (by injection e with e; exact e.symm)), HF.out.ne⟩⟩
    | 19, ho =>
      have eo := Option.some.inj ho
      subst eo
      intro d a' wx K hJ hdi hon hcl hK
      obtain ⟨s34, s35, s36, s37, s38, s39, s40, s41, s42, s43, s44, s45, s46, s47, s11, s12, s13, A1, c1, A2, c2, Ar, cr, out, A3, c3, A4, c4, A5, c5, A6, c6, g1, g2, g3, rfl, F⟩ := hJ
      have ef := F.f16 (hon 16 (by kernel_rfl))
      obtain ⟨ep, hgl⟩ := ef
      subst ep
      have ev := (F.f13 (hon 13 (by kernel_rfl))).1
      subst ev
      have bz := F.z16 (hon 16 (by kernel_rfl)) hdi
      have zc0 := bz.cellV (i := 0) rfl
      have zc1 := bz.cellV (i := 1) rfl
      have zc2 := bz.cellV (i := 2) rfl
      have z0 := bz.frozen 0
      have z1 := bz.frozen 1
      have z2 := bz.frozen 2
      have HBZ := Lib.hid bz
      have hsz0 := bz.lt
      clear bz
      have HF := Lib.hid F
      have HCL := Lib.hid hcl
      have HON := Lib.hid hon
      have HDI := Lib.hid hdi
      clear F hon hcl hdi ho
      go_simp
      obtain ⟨hk, hb2, hgr⟩ := box_set3 (lo := w.heap.size + 2) (x' := (W2 : Int)) (y' := (H2 : Int)) (B' := A6) (n' := W2 * H2) (c' := c6) HBZ.out (by omega)
      have hsz := hgr.size
      exact hK.out _ _ ⟨_, _, _, _, _, _, _, _, _, _, _, _, _, _, _, _, _, A1, c1, A2, c2, Ar, cr, out, A3, c3, A4, c4, A5, c5, A6, c6, g1, g2, g3, rfl, ⟨hk.blk HF.out.bx (.inr (by omega)), hk.blk HF.out.bh (.inr (by omega)), (hk.lower (by omega)).below HF.out.bb, HF.out.f0, fun h => ⟨(HF.out.f1 h).1, hk.rd (HF.out.f1 h).2.1, (HF.out.f1 h).2.2⟩, HF.out.f2, fun h => ⟨(HF.out.f3 h).1, hk.rd (HF.out.f3 h).2⟩, HF.out.f4, HF.out.f5, HF.out.f6, fun h => ⟨(HF.out.f7 h).1, hk.rdr (HF.out.f7 h).2⟩, fun h => ⟨(HF.out.f8 h).1, hk.rdr (HF.out.f8 h).2.1, (HF.out.f8 h).2.2⟩, fun h => ⟨(HF.out.f9 h).1, hk.rd (HF.out.f9 h).2⟩, HF.out.f10, fun h => ⟨(HF.out.f11 h).1, hk.rd (HF.out.f11 h).2⟩, HF.out.f12, fun h => ⟨(HF.out.f13 h).1, hk.rd (HF.out.f13 h).2⟩, HF.out.f14, fun h h2 => hk.blk (HF.out.z14 h h2) (.inl (by decide)), fun h => hk.blk (HF.out.y14 h) (.inl (by decide)), fun h => ⟨(HF.out.f15 h).1, (HF.out.f15 h).2.1, Nat.lt_of_lt_of_le (HF.out.f15 h).2.2 hsz⟩, fun h h2 => (HF.out.z15 h h2).grown hgr (fun e => HF.out.ne h (HON.out 16 (by kernel_rfl)) (by injection e)), fun h => (HF.out.y15 h).grown hgr (fun e => HF.out.ne (HCL.out 18 15 (by kernel_rfl) h) (HON.out 16 (by kernel_rfl)) (by injection e)), fun h => ⟨(HF.out.f16 h).1, (HF.out.f16 h).2.1, Nat.lt_of_lt_of_le (HF.out.f16 h).2.2 hsz⟩, (fun _ h => by cases h), fun _ => hb2, HF.out.ne⟩⟩
    | n + 20, ho => simp at ho
  · intro d a' wx hJ hall hcl
    obtain ⟨s34, s35, s36, s37, s38, s39, s40, s41, s42, s43, s44, s45, s46, s47, s11, s12, s13, A1, c1, A2, c2, Ar, cr, out, A3, c3, A4, c4, A5, c5, A6, c6, g1, g2, g3, rfl, F⟩ := hJ
    have e11 := (F.f14 (hall 14 (by decide))).1
    have e12 := (F.f15 (hall 15 (by decide))).1
    have e13 := (F.f16 (hall 16 (by decide))).1
    have b7 := F.y14 (hall 17 (by decide))
    have b8 := F.y15 (hall 18 (by decide))
    have b9 := F.y16 (hall 19 (by decide))
    have r9 := (F.f9 (hall 9 (by decide))).2
    have r11 := (F.f11 (hall 11 (by decide))).2
    have r13 := (F.f13 (hall 13 (by decide))).2
    have hpl := (F.f8 (hall 8 (by decide))).2.2.2.1
    have hbb := F.bb
    subst e11
    subst e12
    subst e13
    have hpl0 : (pl (W * H) ps m).length = W * H := pl_length _ _ _
    have hat : ∀ x y : Nat, x < W → y < H → gat W H (layR W W2 H2 (pl (W2 * H2) ps2 mh) dx dy out (pl (W * H) ps m)) x y = if (coordB dx && coordB dy) && (inSm ss x y && hasB W2 H2 ((x : Int) - dx) ((y : Int) - dy)) then gat W2 H2 (pl (W2 * H2) ps2 mh) ((x : Int) - dx) ((y : Int) - dy) else gat W H (pl (W * H) ps m) x y := fun x y hx hy => lays_at hpl0 HOK.out hpl hx hy
    have HAT := Lib.hid hat
    have HB7 := Lib.hid b7
    have HB8 := Lib.hid b8
    have HB9 := Lib.hid b9
    have HR9 := Lib.hid r9
    have HR11 := Lib.hid r11
    have HR13 := Lib.hid r13
    have HBB := Lib.hid hbb
    have HSX := Lib.hid (HS.out.below hbb)
    clear F hpl hall hcl b7 b8 b9 r9 r11 r13 hbb hat hpl0 HBX0 HBH0 HBB0 HR HRH HA HB HA2 HB2
    go_upto_region 4 with fail
    go_cut [14] (fun s14 wy => s14 = .bool (!(coordB dx && coordB dy)) ∧ wy = wx)
    case first =>
      have t : decide (dx < -1048576) = true ∨ (decide (dx < -1048576) = false ∧ (decide (1048576 < dx) = true ∨ (decide (1048576 < dx) = false ∧ (decide (dy < -1048576) = true ∨ (decide (dy < -1048576) = false ∧ (decide (1048576 < dy) = true ∨ decide (1048576 < dy) = false)))))) := by simp; omega
      rcases t with d1 | ⟨d1, d2 | ⟨d2, d3 | ⟨d3, d4 | d4⟩⟩⟩
      all_goals
        go_wp2_with fail
        go_meet
        refine ⟨?_, rfl⟩
        first | rfl | (congr 1; simp [coordB] at *; omega)
    case rest =>
      obtain ⟨rfl, hwc⟩ := hcut
      have hwc2 := hwc.symm
      subst hwc2
      obtain ⟨far, hfar⟩ : ∃ far, (coordB dx && coordB dy) = far := ⟨_, rfl⟩
      rw [hfar] at HAT ⊢
      have hco : far = true → (-1048576 ≤ dx ∧ dx ≤ 1048576) ∧ (-1048576 ≤ dy ∧ dy ≤ 1048576) := fun h => by rw [h] at hfar; simpa [coordB] using hfar
      have HCO := Lib.hid hco
      clear hfar hco
      cases far
      · go_wp2_with fail
        go_loopw [15] (fun s15 wr => ∃ y : Nat, s15 = .int .i64 y ∧ y ≤ H ∧ Below wx.heap.size wx wr) (fun i _ => H - (intOf i).toNat)
        case atStart => exact ⟨0, rfl, by omega, bre wx⟩
        case round =>
          obtain ⟨y, rfl, hy, hBy⟩ := hrel
          have k81 := (HB8.out.belowS hBy).cellV (i := 1) (v := .int .i64 H) rfl
          by_cases hyl : y < H
          · have hdy : decide ((y : Int) < (H : Int)) = true := by simp; omega
            have HBy := Lib.hid hBy
            clear hBy
            go_wp2_with fail
            go_loopw [16] (fun s16 wz => ∃ x : Nat, s16 = .int .i64 x ∧ x ≤ W ∧ Below wx.heap.size wx wz) (fun i _ => W - (intOf i).toNat)
            case atStart => exact ⟨0, rfl, by omega, HBy.out⟩
            case round =>
              obtain ⟨x, rfl, hx, hBx⟩ := hrel
              have k80 := (HB8.out.belowS hBx).cellV (i := 0) (v := .int .i64 W) rfl
              have HBx := Lib.hid hBx
              by_cases hxl : x < W
              · have hdx : decide ((x : Int) < (W : Int)) = true := by simp; omega
                have k81' := (HB8.out.belowS hBx).cellV (i := 1) (v := .int .i64 H) rfl
                have k82' := (HB8.out.belowS hBx).cellV (i := 2) (v := .slice A5 (W * H) c5) rfl
                have hxy := HAT.out x y hxl hyl
                clear hBx k81
                have HXY := Lib.hid (show gat W H (layR W W2 H2 (pl (W2 * H2) ps2 mh) dx dy out (pl (W * H) ps m)) x y = gat W H (pl (W * H) ps m) x y from hxy.trans (by simp))
                clear hxy
                go_upto_region 12 with (go_at_call 23; refine (rat_any W H (pl (W * H) ps m) x y A5 (W * H) c5 _ rfl (by omega) (by omega) (HR11.out.below HBx.out)).mono ?_; rintro e w2 ⟨rfl, b2⟩; have HB2x := Lib.hid (bstep HBx.out b2); clear b2; have k70 := (HB7.out.belowS HB2x.out).cellV (i := 0) (v := .int .i64 W) rfl; have k71 := (HB7.out.belowS HB2x.out).cellV (i := 1) (v := .int .i64 H) rfl; have k72 := (HB7.out.belowS HB2x.out).cellV (i := 2) (v := .slice A4 (W * H) c4) rfl)
                go_wp2_with (go_at_call 14; refine (at_any W H (layR W W2 H2 (pl (W2 * H2) ps2 mh) dx dy out (pl (W * H) ps m)) x y A4 (W * H) c4 _ rfl (by omega) (by omega) (HR9.out.below HB2x.out)).mono ?_; rintro e w6 ⟨rfl, b6⟩; rw [HXY.out]; have HB6 := Lib.hid (bstep HB2x.out b6); clear b6)
                go_roundw
                case rel => exact ⟨x + 1, by go_num, by omega, HB6.out⟩
                case measure => simp [intOf]; omega
              · have hdx : decide ((x : Int) < (W : Int)) = false := by simp; omega
                clear hBx k81
                go_wp2_with fail
                go_roundw
                case rel => exact ⟨y + 1, by go_num, by omega, HBx.out⟩
                case measure => simp [intOf]; omega
          · have hdy : decide ((y : Int) < (H : Int)) = false := by simp; omega
            have HBy := Lib.hid hBy
            clear hBy
            go_wp2_with (go_at_call 13; refine (awake_any _).mono ?_; rintro e w6 ⟨rfl, b6⟩; have HB6 := Lib.hid (bstep HBy.out b6); clear b6)
            go_ret
            exact ⟨rfl, bstep HBB.out HB6.out⟩
      · obtain ⟨⟨hx1, hx2⟩, hy1, hy2⟩ := HCO.out rfl
        go_wp2_with fail
        go_loopw [15] (fun s15 wr => ∃ y : Nat, s15 = .int .i64 y ∧ y ≤ H ∧ Below wx.heap.size wx wr) (fun i _ => H - (intOf i).toNat)
        case atStart => exact ⟨0, rfl, by omega, bre wx⟩
        case round =>
          obtain ⟨y, rfl, hy, hBy⟩ := hrel
          have k81 := (HB8.out.belowS hBy).cellV (i := 1) (v := .int .i64 H) rfl
          by_cases hyl : y < H
          · have hdy : decide ((y : Int) < (H : Int)) = true := by simp; omega
            have HBy := Lib.hid hBy
            clear hBy
            go_wp2_with fail
            go_loopw [16] (fun s16 wz => ∃ x : Nat, s16 = .int .i64 x ∧ x ≤ W ∧ Below wx.heap.size wx wz) (fun i _ => W - (intOf i).toNat)
            case atStart => exact ⟨0, rfl, by omega, HBy.out⟩
            case round =>
              obtain ⟨x, rfl, hx, hBx⟩ := hrel
              have k80 := (HB8.out.belowS hBx).cellV (i := 0) (v := .int .i64 W) rfl
              have HBx := Lib.hid hBx
              by_cases hxl : x < W
              · have hdx : decide ((x : Int) < (W : Int)) = true := by simp; omega
                have k81' := (HB8.out.belowS hBx).cellV (i := 1) (v := .int .i64 H) rfl
                have k82' := (HB8.out.belowS hBx).cellV (i := 2) (v := .slice A5 (W * H) c5) rfl
                have hxy := HAT.out x y hxl hyl
                clear hBx k81
                cases hin : inSm ss x y
                · rw [hin] at hxy
                  have HXY := Lib.hid (show gat W H (layR W W2 H2 (pl (W2 * H2) ps2 mh) dx dy out (pl (W * H) ps m)) x y = gat W H (pl (W * H) ps m) x y from hxy.trans (by simp))
                  clear hxy
                  go_upto_region 12 with (go_at_call 23; refine (rat_any W H (pl (W * H) ps m) x y A5 (W * H) c5 _ rfl (by omega) (by omega) (HR11.out.below HBx.out)).mono ?_; rintro e w2 ⟨rfl, b2⟩; have HB2x := Lib.hid (bstep HBx.out b2); clear b2)
                  go_wp2_with (first
                    | (go_at_call 30; refine (inSm_any L nl cl ss x y _ (by omega) (HSX.out.below HB2x.out) HOK.out).mono ?_; rintro e w3 ⟨rfl, b3⟩; rw [hin]; have HB3 := Lib.hid (bstep HB2x.out b3); clear b3; have k70 := (HB7.out.belowS HB3.out).cellV (i := 0) (v := .int .i64 W) rfl; have k71 := (HB7.out.belowS HB3.out).cellV (i := 1) (v := .int .i64 H) rfl; have k72 := (HB7.out.belowS HB3.out).cellV (i := 2) (v := .slice A4 (W * H) c4) rfl)
                    | (go_at_call 32; refine (rin_any W2 H2 _ _ A6 (W2 * H2) c6 _).mono ?_; rintro e w4 ⟨rfl, hw4⟩; rw [hhas]; have HB4 := Lib.hid (show Below wx.heap.size wx w4 from (by rw [hw4]; exact bal HB3.out _)); clear hw4; have k90 := (HB9.out.belowS HB4.out).cellV (i := 0) (v := .int .i64 W2) rfl; have k91 := (HB9.out.belowS HB4.out).cellV (i := 1) (v := .int .i64 H2) rfl; have k92 := (HB9.out.belowS HB4.out).cellV (i := 2) (v := .slice A6 (W2 * H2) c6) rfl)
                    | (go_at_call 23; refine (rat_any W2 H2 (pl (W2 * H2) ps2 mh) ((x : Int) - dx) ((y : Int) - dy) A6 (W2 * H2) c6 _ rfl (by omega) (by omega) (HR13.out.below HB4.out)).mono ?_; rintro e w5 ⟨rfl, b5⟩; have HB5 := Lib.hid (bstep HB4.out b5); clear b5)
                    | (go_at_call 14; refine (at_any W H (layR W W2 H2 (pl (W2 * H2) ps2 mh) dx dy out (pl (W * H) ps m)) x y A4 (W * H) c4 _ rfl (by omega) (by omega) (HR9.out.below HB3.out)).mono ?_; rintro e w6 ⟨rfl, b6⟩; rw [HXY.out]; have HB6 := Lib.hid (bstep HB3.out b6); clear b6))
                  go_roundw
                  case rel => exact ⟨x + 1, by go_num, by omega, HB6.out⟩
                  case measure => simp [intOf]; omega
                · cases hhas : hasB W2 H2 ((x : Int) - dx) ((y : Int) - dy)
                  · rw [hin, hhas] at hxy
                    have HXY := Lib.hid (show gat W H (layR W W2 H2 (pl (W2 * H2) ps2 mh) dx dy out (pl (W * H) ps m)) x y = gat W H (pl (W * H) ps m) x y from hxy.trans (by simp))
                    clear hxy
                    go_upto_region 12 with (go_at_call 23; refine (rat_any W H (pl (W * H) ps m) x y A5 (W * H) c5 _ rfl (by omega) (by omega) (HR11.out.below HBx.out)).mono ?_; rintro e w2 ⟨rfl, b2⟩; have HB2x := Lib.hid (bstep HBx.out b2); clear b2)
                    go_wp2_with (first
                      | (go_at_call 30; refine (inSm_any L nl cl ss x y _ (by omega) (HSX.out.below HB2x.out) HOK.out).mono ?_; rintro e w3 ⟨rfl, b3⟩; rw [hin]; have HB3 := Lib.hid (bstep HB2x.out b3); clear b3; have k90 := (HB9.out.belowS HB3.out).cellV (i := 0) (v := .int .i64 W2) rfl; have k91 := (HB9.out.belowS HB3.out).cellV (i := 1) (v := .int .i64 H2) rfl; have k92 := (HB9.out.belowS HB3.out).cellV (i := 2) (v := .slice A6 (W2 * H2) c6) rfl)
                      | (go_at_call 32; refine (rin_any W2 H2 _ _ A6 (W2 * H2) c6 _).mono ?_; rintro e w4 ⟨rfl, hw4⟩; rw [hhas]; have HB4 := Lib.hid (show Below wx.heap.size wx w4 from (by rw [hw4]; exact bal HB3.out _)); clear hw4; have k70 := (HB7.out.belowS HB4.out).cellV (i := 0) (v := .int .i64 W) rfl; have k71 := (HB7.out.belowS HB4.out).cellV (i := 1) (v := .int .i64 H) rfl; have k72 := (HB7.out.belowS HB4.out).cellV (i := 2) (v := .slice A4 (W * H) c4) rfl)
                      | (go_at_call 23; refine (rat_any W2 H2 (pl (W2 * H2) ps2 mh) ((x : Int) - dx) ((y : Int) - dy) A6 (W2 * H2) c6 _ rfl (by omega) (by omega) (HR13.out.below HB4.out)).mono ?_; rintro e w5 ⟨rfl, b5⟩; have HB5 := Lib.hid (bstep HB4.out b5); clear b5)
                      | (go_at_call 14; refine (at_any W H (layR W W2 H2 (pl (W2 * H2) ps2 mh) dx dy out (pl (W * H) ps m)) x y A4 (W * H) c4 _ rfl (by omega) (by omega) (HR9.out.below HB4.out)).mono ?_; rintro e w6 ⟨rfl, b6⟩; rw [HXY.out]; have HB6 := Lib.hid (bstep HB4.out b6); clear b6))
                    go_roundw
                    case rel => exact ⟨x + 1, by go_num, by omega, HB6.out⟩
                    case measure => simp [intOf]; omega
                  · rw [hin, hhas] at hxy
                    have HXY := Lib.hid (show gat W H (layR W W2 H2 (pl (W2 * H2) ps2 mh) dx dy out (pl (W * H) ps m)) x y = gat W2 H2 (pl (W2 * H2) ps2 mh) ((x : Int) - dx) ((y : Int) - dy) from hxy.trans (by simp))
                    clear hxy
                    go_upto_region 12 with (go_at_call 23; refine (rat_any W H (pl (W * H) ps m) x y A5 (W * H) c5 _ rfl (by omega) (by omega) (HR11.out.below HBx.out)).mono ?_; rintro e w2 ⟨rfl, b2⟩; have HB2x := Lib.hid (bstep HBx.out b2); clear b2)
                    go_wp2_with (first
                      | (go_at_call 30; refine (inSm_any L nl cl ss x y _ (by omega) (HSX.out.below HB2x.out) HOK.out).mono ?_; rintro e w3 ⟨rfl, b3⟩; rw [hin]; have HB3 := Lib.hid (bstep HB2x.out b3); clear b3; have k90 := (HB9.out.belowS HB3.out).cellV (i := 0) (v := .int .i64 W2) rfl; have k91 := (HB9.out.belowS HB3.out).cellV (i := 1) (v := .int .i64 H2) rfl; have k92 := (HB9.out.belowS HB3.out).cellV (i := 2) (v := .slice A6 (W2 * H2) c6) rfl)
                      | (go_at_call 32; refine (rin_any W2 H2 _ _ A6 (W2 * H2) c6 _).mono ?_; rintro e w4 ⟨rfl, hw4⟩; rw [hhas]; have HB4 := Lib.hid (show Below wx.heap.size wx w4 from (by rw [hw4]; exact bal HB3.out _)); clear hw4; have k90 := (HB9.out.belowS HB4.out).cellV (i := 0) (v := .int .i64 W2) rfl; have k91 := (HB9.out.belowS HB4.out).cellV (i := 1) (v := .int .i64 H2) rfl; have k92 := (HB9.out.belowS HB4.out).cellV (i := 2) (v := .slice A6 (W2 * H2) c6) rfl)
                      | (go_at_call 23; refine (rat_any W2 H2 (pl (W2 * H2) ps2 mh) ((x : Int) - dx) ((y : Int) - dy) A6 (W2 * H2) c6 _ rfl (by omega) (by omega) (HR13.out.below HB4.out)).mono ?_; rintro e w5 ⟨rfl, b5⟩; have HB5 := Lib.hid (bstep HB4.out b5); clear b5; have k70 := (HB7.out.belowS HB5.out).cellV (i := 0) (v := .int .i64 W) rfl; have k71 := (HB7.out.belowS HB5.out).cellV (i := 1) (v := .int .i64 H) rfl; have k72 := (HB7.out.belowS HB5.out).cellV (i := 2) (v := .slice A4 (W * H) c4) rfl)
                      | (go_at_call 14; refine (at_any W H (layR W W2 H2 (pl (W2 * H2) ps2 mh) dx dy out (pl (W * H) ps m)) x y A4 (W * H) c4 _ rfl (by omega) (by omega) (HR9.out.below HB5.out)).mono ?_; rintro e w6 ⟨rfl, b6⟩; rw [HXY.out]; have HB6 := Lib.hid (bstep HB5.out b6); clear b6))
                    go_roundw
                    case rel => exact ⟨x + 1, by go_num, by omega, HB6.out⟩
                    case measure => simp [intOf]; omega
              · have hdx : decide ((x : Int) < (W : Int)) = false := by simp; omega
                clear hBx k81
                go_wp2_with fail
                go_roundw
                case rel => exact ⟨y + 1, by go_num, by omega, HBx.out⟩
                case measure => simp [intOf]; omega
          · have hdy : decide ((y : Int) < (H : Int)) = false := by simp; omega
            have HBy := Lib.hid hBy
            clear hBy
            go_wp2_with (go_at_call 13; refine (awake_any _).mono ?_; rintro e w6 ⟨rfl, b6⟩; have HB6 := Lib.hid (bstep HBy.out b6); clear b6)
            go_ret
            exact ⟨rfl, bstep HBB.out HB6.out⟩

end Go.Proofs.Ytcdecglbkcllaab
