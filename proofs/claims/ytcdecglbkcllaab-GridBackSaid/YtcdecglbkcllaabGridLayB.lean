/-
  The walk of a grid's Lay.
-/
import Derived.Test.YtcdecglbkcllaabGridLayA
namespace Go.Proofs.Ytcdecglbkcllaab
open Go.RowKit Go.Shelf

theorem lay_do (W H n bh bx by' bo gp hw hh nh ch : Nat) (Ah : Option Addr) (hpx : List Int) (dx dy : Int) (px : List Int) (hW : W ≤ 128) (hH : H ≤ 128) (hn : n = W * H) (hl : px.length = n) (hhw : hw ≤ 128) (hhh : hh ≤ 128) (hnh : nh = hw * hh) (hdx : -1048576 ≤ dx ∧ dx ≤ 1048576) (hdy : -1048576 ≤ dy ∧ dy ≤ 1048576)
    (h1 : bh ≠ gp) (h2 : bx ≠ gp) (h3 : by' ≠ gp) (h4 : bo ≠ gp) (hA : 0 < nh → ∀ a, Ah = some a → a.block ≠ gp) :
    DoFn 52 #[.pointer (some ⟨bh, 0, none⟩), .pointer (some ⟨bx, 0, none⟩), .pointer (some ⟨by', 0, none⟩), .pointer (some ⟨bo, 0, none⟩)] (LayK W H n bh bx by' bo gp hw hh nh ch Ah hpx dx dy) W H gp (layS hw hh hpx dx dy) px :=
  fun M y a b yi ai bi w e1 e2 e3 hy hab hb hk hg => lay1_any W H n bh bx by' bo gp hw hh nh ch Ah hpx dx dy a b y yi ai bi M px w e1 e2 e3 hW hH hn hl hy hab hb hhw hhh hnh hdx hdy hk hg h1 h2 h3 h4 hA

set_option maxRecDepth 100000 in
set_option maxHeartbeats 2000000 in
theorem lay_far (W H hw hh : Int) (A Ah Ar : Option Addr) (n c nh ch nr cr : Nat) (dx dy : Int) (w : World) (hd : (coordB dx && coordB dy) = false) :
    Calls Try.prog 31 #[.agg #[.int .i64 W, .int .i64 H, .slice A n c], .agg #[.int .i64 hw, .int .i64 hh, .slice Ah nh ch], .int .i64 dx, .int .i64 dy, .agg #[.slice Ar nr cr]] w fun e w' => e = .returned (.agg #[.int .i64 W, .int .i64 H, .slice A n c]) ∧ Below w.heap.size w w' := by
  have hb := bal (bal (bal (bal (bal (bal (bre w) (.cells #[.int .i64 W, .int .i64 H, .slice A n c] 25)) (.cells #[.int .i64 hw, .int .i64 hh, .slice Ah nh ch] 25)) (.cells #[.int .i64 dx] 3)) (.cells #[.int .i64 dy] 3)) (.cells #[.slice Ar nr cr] 62)) (.cells #[.int .i64 W, .int .i64 H, .slice A n c] 25)
  have HB := Lib.hid hb
  clear hb
  cases h1 : coordB dx
  · clear hd
    go_enter Try.func31, Try.ntmps31
    go_wp2_with (go_at_call 36; refine (coord_any _ _).mono ?_; rintro e w' ⟨rfl, rfl⟩)
    exact bodyPost_ret (v := .agg #[.int .i64 W, .int .i64 H, .slice A n c]) (by simp [results, Try.results31, go_sem]) rfl ⟨rfl, HB.out⟩
  · have h2 : coordB dy = false := by simpa [h1] using hd
    clear hd
    go_enter Try.func31, Try.ntmps31
    go_wp2_with (go_at_call 36; refine (coord_any _ _).mono ?_; rintro e w' ⟨rfl, rfl⟩)
    exact bodyPost_ret (v := .agg #[.int .i64 W, .int .i64 H, .slice A n c]) (by simp [results, Try.results31, go_sem]) rfl ⟨rfl, HB.out⟩

set_option maxRecDepth 100000 in
set_option maxHeartbeats 4000000 in
theorem lay_near (W H hw hh : Nat) (px hpx : List Int) (A Ah Ar : Option Addr) (n c nh ch nr cr : Nat) (rs : List RC) (dx dy : Int) (w : World) (h1 : coordB dx = true) (h2 : coordB dy = true) (hn : n = W * H) (hW : W ≤ 128) (hH : H ≤ 128) (hr : Rd w A n (U8 px)) (hnh : nh = hw * hh) (hhw : hw ≤ 128) (hhh : hh ≤ 128) (hrh : Rd w Ah nh (U8 hpx)) (hnr : nr ≤ 1000000000000) (hrr : RdR w Ar nr rs) (hc : ∀ r ∈ rs, r.cnt = true) :
    Calls Try.prog 31 #[.agg #[.int .i64 W, .int .i64 H, .slice A n c], .agg #[.int .i64 hw, .int .i64 hh, .slice Ah nh ch], .int .i64 dx, .int .i64 dy, .agg #[.slice Ar nr cr]] w fun e w' => ∃ A', e = .returned (.agg #[.int .i64 W, .int .i64 H, .slice A' n n]) ∧ Rd w' A' n (U8 (lay W (layS hw hh hpx dx dy) (anyP rs) px)) ∧ Below w.heap.size w w' := by
  have hnm := mul_le_128 hW hH
  rw [← hn] at hnm
  have hl : px.length = n := by have := hr.1; simpa [U8] using this
  have hdx : -1048576 ≤ dx ∧ dx ≤ 1048576 := by simpa [coordB] using h1
  have hdy : -1048576 ≤ dy ∧ dy ≤ 1048576 := by simpa [coordB] using h2
  have hAh : 0 < nh → ∀ a, Ah = some a → a.block < w.heap.size := fun h0 a e => hrh.lt h0 a e
  have HN := Lib.hid hn
  have HNH := Lib.hid hnh
  have HR := Lib.hid hr
  have HRH := Lib.hid hrh
  have HRR := Lib.hid hrr
  have HC := Lib.hid hc
  have HL := Lib.hid hl
  have HDX := Lib.hid hdx
  have HDY := Lib.hid hdy
  have HAH := Lib.hid hAh
  clear hr hn hrr hc hl hrh hnh hdx hdy hAh
  go_enter Try.func31, Try.ntmps31
  have p1 := Blk.new (w.alloc (.cells #[.int .i64 W, .int .i64 H, .slice A n c] 25)) 25 #[.int .i64 hw, .int .i64 hh, .slice Ah nh ch]
  have p2 := Blk.new ((w.alloc (.cells #[.int .i64 W, .int .i64 H, .slice A n c] 25)).alloc (.cells #[.int .i64 hw, .int .i64 hh, .slice Ah nh ch] 25)) 3 #[.int .i64 dx]
  have p3 := Blk.new (((w.alloc (.cells #[.int .i64 W, .int .i64 H, .slice A n c] 25)).alloc (.cells #[.int .i64 hw, .int .i64 hh, .slice Ah nh ch] 25)).alloc (.cells #[.int .i64 dx] 3)) 3 #[.int .i64 dy]
  have p4 := Blk.new ((((w.alloc (.cells #[.int .i64 W, .int .i64 H, .slice A n c] 25)).alloc (.cells #[.int .i64 hw, .int .i64 hh, .slice Ah nh ch] 25)).alloc (.cells #[.int .i64 dx] 3)).alloc (.cells #[.int .i64 dy] 3)) 62 #[.slice Ar nr cr]
  have p5 := Blk.new (((((w.alloc (.cells #[.int .i64 W, .int .i64 H, .slice A n c] 25)).alloc (.cells #[.int .i64 hw, .int .i64 hh, .slice Ah nh ch] 25)).alloc (.cells #[.int .i64 dx] 3)).alloc (.cells #[.int .i64 dy] 3)).alloc (.cells #[.slice Ar nr cr] 62)) 25 #[.int .i64 0, .int .i64 0, .slice none 0 0]
  have b0 := bal (bal (bal (bal (bal (bal (bre w) (.cells #[.int .i64 W, .int .i64 H, .slice A n c] 25)) (.cells #[.int .i64 hw, .int .i64 hh, .slice Ah nh ch] 25)) (.cells #[.int .i64 dx] 3)) (.cells #[.int .i64 dy] 3)) (.cells #[.slice Ar nr cr] 62)) (.cells #[.int .i64 0, .int .i64 0, .slice none 0 0] 25)
  simp only [World.size_alloc] at p1 p2 p3 p4 p5
  have q1 := (((p1.alloc (.cells #[.int .i64 dx] 3)).alloc (.cells #[.int .i64 dy] 3)).alloc (.cells #[.slice Ar nr cr] 62)).alloc (.cells #[.int .i64 0, .int .i64 0, .slice none 0 0] 25)
  have q2 := ((p2.alloc (.cells #[.int .i64 dy] 3)).alloc (.cells #[.slice Ar nr cr] 62)).alloc (.cells #[.int .i64 0, .int .i64 0, .slice none 0 0] 25)
  have q3 := (p3.alloc (.cells #[.slice Ar nr cr] 62)).alloc (.cells #[.int .i64 0, .int .i64 0, .slice none 0 0] 25)
  have q4 := p4.alloc (.cells #[.int .i64 0, .int .i64 0, .slice none 0 0] 25)
  have HB0 := Lib.hid b0
  have HQ1 := Lib.hid q1
  have HQ2 := Lib.hid q2
  have HQ3 := Lib.hid q3
  have HQ4 := Lib.hid q4
  have HQ5 := Lib.hid p5
  clear b0 p1 p2 p3 p4 p5 q1 q2 q3 q4
  go_upto_region 4 with (first
    | (go_at_call 36; refine (coord_any _ _).mono ?_; rintro e w' ⟨rfl, rfl⟩)
    | (go_at_call 37; refine (twin_any _ _ _ _ _ px _ hnm (HR.out.below HB0.out)).mono ?_; rintro e w1 ⟨g, rfl, hown, hb1⟩; have HO := Lib.hid hown; have HB1 := Lib.hid hb1; have z1 := hb1.size; simp only [World.size_alloc] at z1; clear hown hb1))
  obtain ⟨hge, hpx⟩ := own_blk HO.out
  simp only [World.size_alloc] at hge
  have hgl := hpx.lt
  have bX := bal (bre w1) (.cells #[.int .i64 W, .int .i64 H, .slice (some ⟨g, 0, none⟩) n n] 25)
  have hbx := Blk.new w1 25 #[.int .i64 W, .int .i64 H, .slice (some ⟨g, 0, none⟩) n n]
  have k1 := (HQ1.out.belowS HB1.out).belowS bX
  have k2 := (HQ2.out.belowS HB1.out).belowS bX
  have k3 := (HQ3.out.belowS HB1.out).belowS bX
  have k4 := (HQ4.out.belowS HB1.out).belowS bX
  have k5 := (HQ5.out.belowS HB1.out).belowS bX
  have hpx2 := hpx.belowS bX
  have hBX : Below w.heap.size w (w1.alloc (.cells #[.int .i64 W, .int .i64 H, .slice (some ⟨g, 0, none⟩) n n] 25)) := bstep (bstep HB0.out HB1.out) bX
  obtain ⟨X, hX⟩ : ∃ X, w1.alloc (.cells #[.int .i64 W, .int .i64 H, .slice (some ⟨g, 0, none⟩) n n] 25) = X := ⟨_, rfl⟩
  obtain ⟨B, hB⟩ : ∃ B, w1.heap.size = B := ⟨_, rfl⟩
  rw [hX] at hbx hpx2 hBX k1 k2 k3 k4 k5 ⊢
  rw [hB] at hbx hgl z1 ⊢
  have HRX := Lib.hid (HRR.out.below hBX)
  have HRHX := Lib.hid (HRH.out.below hBX)
  have HPX := Lib.hid hpx2
  have HBX := Lib.hid hBX
  have HKX := Lib.hid hbx
  have HK1 := Lib.hid k1
  have HK2 := Lib.hid k2
  have HK3 := Lib.hid k3
  have HK5 := Lib.hid k5
  have c4 := k4.cellV (i := 0) (v := .slice Ar nr cr) rfl
  have c0 := hbx.cellV (i := 0) rfl
  have c01 := hbx.cellV (i := 1) rfl
  have c02 := hbx.cellV (i := 2) rfl
  clear hX hB HB1 HO HQ1 HQ2 HQ3 HQ4 HQ5 bX hbx k1 k2 k3 k4 k5 hpx hpx2 hBX
  go_upto_region 5 with (go_at_call 38; refine (spans_do 52 _ (.inr rfl) (LayK W H n (w.heap.size + 1) (w.heap.size + 1 + 1) (w.heap.size + 1 + 1 + 1) B g hw hh nh ch Ah hpx dx dy) W H g n n nr cr _ _ (layS hw hh hpx dx dy) px rs _ (lay_do W H n _ _ _ _ g hw hh nh ch Ah hpx dx dy px hW hH HN.out HL.out hhw hhh HNH.out HDX.out HDY.out (by omega) (by omega) (by omega) (by omega) (fun h0 a e => by have := HAH.out h0 a e; omega)) (fun w1 w2 hk hg => hk.grown hg (by omega) (by omega) (by omega) (by omega) (fun h0 a e => by have := HAH.out h0 a e; omega)) hW hH (HL.out.trans HN.out) hnr HRX.out HC.out ⟨HK1.out, HK2.out, HK3.out, HKX.out, HRHX.out⟩ HPX.out).mono ?_; rintro e w2 ⟨rfl, hg2, hgr2⟩; have HG2 := Lib.hid hg2; have HGR := Lib.hid hgr2; clear hg2 hgr2)
  have r5 := HK5.out.grown HGR.out (by intro e; injection e with e; omega)
  have rX := HKX.out.grown HGR.out (by intro e; injection e with e; omega)
  have hB2 : Below w.heap.size w w2 := HBX.out.grown HGR.out HBX.out.size (fun q e => by cases e; omega)
  have HB2 := Lib.hid hB2
  clear c4 c0 c01 c02 HK1 HK2 HK3 HK5 HKX
  have c0 := rX.cellV (i := 0) rfl
  have c1 := rX.cellV (i := 1) rfl
  have c2 := rX.cellV (i := 2) rfl
  have d0 := r5.cellV (i := 0) rfl
  have d1 := r5.cellV (i := 1) rfl
  have d2 := r5.cellV (i := 2) rfl
  have f0 := r5.frozen 0
  have f1 := r5.frozen 1
  have f2 := r5.frozen 2
  clear rX r5 hB2
  go_wp2_with fail
  refine bodyPost_ret (v := .agg #[.int .i64 W, .int .i64 H, .slice (some ⟨g, 0, none⟩) n n]) (by simp [results, Try.results31, go_sem, d0, d1, d2]) rfl ⟨some ⟨g, 0, none⟩, rfl, ?_, ?_⟩
  · have hr := Rd.of_own (blk_own HG2.out (base := 0) (n := n) (Nat.zero_le _) (by simp [U8, lay_len, HL.out]) (by simp only [maxLen]; omega))
    have hne : ∀ a : Addr, some (⟨g, 0, none⟩ : Addr) = some a → a.block ≠ w.heap.size + 1 + 1 + 1 + 1 + 1 := fun a e => by cases e; dsimp only; omega
    exact ((hr.far (p := ⟨w.heap.size + 1 + 1 + 1 + 1 + 1, 0, none⟩) hne _).far (p := ⟨w.heap.size + 1 + 1 + 1 + 1 + 1, 1, none⟩) hne _).far (p := ⟨w.heap.size + 1 + 1 + 1 + 1 + 1, 2, none⟩) hne _
  · exact bset (p := ⟨_, _, _⟩) (bset (p := ⟨_, _, _⟩) (bset (p := ⟨_, _, _⟩) HB2.out (by dsimp only; omega) _) (by dsimp only; omega) _) (by dsimp only; omega) _

/-- what a grid, laid on another one, has. -/
def layR (W hw hh : Nat) (hpx : List Int) (dx dy : Int) (rs : List RC) (px : List Int) : List Int := if (coordB dx && coordB dy) = true then lay W (layS hw hh hpx dx dy) (anyP rs) px else px
theorem lay_any (W H hw hh : Nat) (px hpx : List Int) (A Ah Ar : Option Addr) (n c nh ch nr cr : Nat) (rs : List RC) (dx dy : Int) (w : World) (hcn : n ≤ c) (hn : n = W * H) (hW : W ≤ 128) (hH : H ≤ 128) (hr : Rd w A n (U8 px)) (hnh : nh = hw * hh) (hhw : hw ≤ 128) (hhh : hh ≤ 128) (hrh : Rd w Ah nh (U8 hpx)) (hnr : nr ≤ 1000000000000) (hrr : RdR w Ar nr rs) (hc : ∀ r ∈ rs, r.cnt = true) :
    Calls Try.prog 31 #[.agg #[.int .i64 W, .int .i64 H, .slice A n c], .agg #[.int .i64 hw, .int .i64 hh, .slice Ah nh ch], .int .i64 dx, .int .i64 dy, .agg #[.slice Ar nr cr]] w fun e w' => ∃ A' c', e = .returned (.agg #[.int .i64 W, .int .i64 H, .slice A' n c']) ∧ Rd w' A' n (U8 (layR W hw hh hpx dx dy rs px)) ∧ n ≤ c' ∧ Below w.heap.size w w' := by
  unfold layR
  cases hd : (coordB dx && coordB dy)
  · rw [if_neg (by decide)]
    exact (lay_far W H hw hh A Ah Ar n c nh ch nr cr dx dy w hd).mono fun e w' ⟨he, hb⟩ => ⟨A, c, he, hr.below hb, hcn, hb⟩
  · rw [if_pos rfl]
    simp only [Bool.and_eq_true] at hd
    exact (lay_near W H hw hh px hpx A Ah Ar n c nh ch nr cr rs dx dy w hd.1 hd.2 hn hW hH hr hnh hhw hhh hrh hnr hrr hc).mono fun e w' ⟨A', he, hr', hb⟩ => ⟨A', n, he, hr', Nat.le_refl _, hb⟩

end Go.Proofs.Ytcdecglbkcllaab
