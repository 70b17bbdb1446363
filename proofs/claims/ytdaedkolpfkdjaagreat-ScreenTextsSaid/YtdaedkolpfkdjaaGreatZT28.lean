/-
  The walk of a grid's Lay.
  What screen.Show shows, place by place.
  The walk of a tree's Remove: its closure, and what it asks first.
  The walk of a tree's take: a window's place among its parent's kids goes.
  Plainly: a window that isn't mapped might as well not be there; a window that is raised shows no less.
  A tree from which a window has gone: how many nodes are left.
  How many entries a map has that is keyed by numbers: as many as there are numbers that have one.
-/
import Derived.Test.YtdaedkolpfkdjaaGreatZT27
import Derived.Test.YtdaedkolpfkdjaaGreatZT26
import Derived.Test.YtdaedkolpfkdjaaGreatZT25
import Derived.Test.YtdaedkolpfkdjaaGreatZT23
import Derived.Test.YtdaedkolpfkdjaaGreatZT06
import Derived.Test.YtdaedkolpfkdjaaGreatZT01
section
namespace Go.Proofs.YtdaedkolpfkdjaaGreat.Gr
open Go.RowKit Go.Shelf

theorem lay_do (W H n bh bx by' bo gp hw hh nh ch : Nat) (Ah : Option Addr) (hpx : List Int) (dx dy : Int) (px : List Int) (hW : W ≤ 128) (hH : H ≤ 128) (hn : n = W * H) (hl : px.length = n) (hhw : hw ≤ 128) (hhh : hh ≤ 128) (hnh : nh = hw * hh) (hdx : -1048576 ≤ dx ∧ dx ≤ 1048576) (hdy : -1048576 ≤ dy ∧ dy ≤ 1048576)
    (h1 : bh ≠ gp) (h2 : bx ≠ gp) (h3 : by' ≠ gp) (h4 : bo ≠ gp) (hA : 0 < nh → ∀ a, Ah = some a → a.block ≠ gp) :
    DoFn 157 #[.pointer (some ⟨bh, 0, none⟩), .pointer (some ⟨bx, 0, none⟩), .pointer (some ⟨by', 0, none⟩), .pointer (some ⟨bo, 0, none⟩)] (LayK W H n bh bx by' bo gp hw hh nh ch Ah hpx dx dy) W H gp (layS hw hh hpx dx dy) px :=
  fun M y a b yi ai bi w e1 e2 e3 hy hab hb hk hg => lay1_any W H n bh bx by' bo gp hw hh nh ch Ah hpx dx dy a b y yi ai bi M px w e1 e2 e3 hW hH hn hl hy hab hb hhw hhh hnh hdx hdy hk hg h1 h2 h3 h4 hA

set_option maxRecDepth 100000 in
set_option maxHeartbeats 2000000 in
theorem lay_far (W H hw hh : Int) (A Ah Ar : Option Addr) (n c nh ch nr cr : Nat) (dx dy : Int) (w : World) (hd : (coordB dx && coordB dy) = false) :
    Calls Tryz.prog 98 #[.agg #[.int .i64 W, .int .i64 H, .slice A n c], .agg #[.int .i64 hw, .int .i64 hh, .slice Ah nh ch], .int .i64 dx, .int .i64 dy, .agg #[.slice Ar nr cr]] w fun e w' => e = .returned (.agg #[.int .i64 W, .int .i64 H, .slice A n c]) ∧ Below w.heap.size w w' := by
  have hb := bal (bal (bal (bal (bal (bal (bre w) (.cells #[.int .i64 W, .int .i64 H, .slice A n c] 75)) (.cells #[.int .i64 hw, .int .i64 hh, .slice Ah nh ch] 75)) (.cells #[.int .i64 dx] 3)) (.cells #[.int .i64 dy] 3)) (.cells #[.slice Ar nr cr] 57)) (.cells #[.int .i64 W, .int .i64 H, .slice A n c] 75)
  have HB := Lib.hid hb
  clear hb
  cases h1 : coordB dx
  · clear hd
    go_enter Tryz.func98, Tryz.ntmps98
    go_wp2_with (go_at_call 103; refine (coord_any _ _).mono ?_; rintro e w' ⟨rfl, rfl⟩)
    exact bodyPost_ret (v := .agg #[.int .i64 W, .int .i64 H, .slice A n c]) (by simp [results, Tryz.results98, go_sem]) rfl ⟨rfl, HB.out⟩
  · have h2 : coordB dy = false := by simpa [h1] using hd
    clear hd
    go_enter Tryz.func98, Tryz.ntmps98
    go_wp2_with (go_at_call 103; refine (coord_any _ _).mono ?_; rintro e w' ⟨rfl, rfl⟩)
    exact bodyPost_ret (v := .agg #[.int .i64 W, .int .i64 H, .slice A n c]) (by simp [results, Tryz.results98, go_sem]) rfl ⟨rfl, HB.out⟩

set_option maxRecDepth 100000 in
set_option maxHeartbeats 4000000 in
theorem lay_near (W H hw hh : Nat) (px hpx : List Int) (A Ah Ar : Option Addr) (n c nh ch nr cr : Nat) (rs : List RC) (dx dy : Int) (w : World) (h1 : coordB dx = true) (h2 : coordB dy = true) (hn : n = W * H) (hW : W ≤ 128) (hH : H ≤ 128) (hr : Rd w A n (U8 px)) (hnh : nh = hw * hh) (hhw : hw ≤ 128) (hhh : hh ≤ 128) (hrh : Rd w Ah nh (U8 hpx)) (hnr : nr ≤ 1000000000000) (hrr : RdR w Ar nr rs) (hc : ∀ r ∈ rs, r.cnt = true) :
    Calls Tryz.prog 98 #[.agg #[.int .i64 W, .int .i64 H, .slice A n c], .agg #[.int .i64 hw, .int .i64 hh, .slice Ah nh ch], .int .i64 dx, .int .i64 dy, .agg #[.slice Ar nr cr]] w fun e w' => ∃ A', e = .returned (.agg #[.int .i64 W, .int .i64 H, .slice A' n n]) ∧ Rd w' A' n (U8 (lay W (layS hw hh hpx dx dy) (anyP rs) px)) ∧ Below w.heap.size w w' := by
  have hnm := mul_le_128 hW hH
  rw [← hn] at hnm
  have hl : px.length = n := by have := hr.1; simpa [U8] using this
  have hdx : -1048576 ≤ dx ∧ dx ≤ 1048576 := by simpa [coordB] using h1
  have hdy : -1048576 ≤ dy ∧ dy ≤ 1048576 := by simpa [coordB] using h2
  have hAh : 0 < nh → ∀ a, Ah = some a → a.block < w.heap.size := fun h0 a e => hrh.lt h0 a e
  have HN := Lib.hid hn
  have HNH := Lib.hid hnh
  have HR := Lib.hid hr
  have HRH := Lib.hid hrh
  have HRR := Lib.hid hrr
  have HC := Lib.hid hc
  have HL := Lib.hid hl
  have HDX := Lib.hid hdx
  have HDY := Lib.hid hdy
  have HAH := Lib.hid hAh
  clear hr hn hrr hc hl hrh hnh hdx hdy hAh
  go_enter Tryz.func98, Tryz.ntmps98
  have p1 := Blk.new (w.alloc (.cells #[.int .i64 W, .int .i64 H, .slice A n c] 75)) 75 #[.int .i64 hw, .int .i64 hh, .slice Ah nh ch]
  have p2 := Blk.new ((w.alloc (.cells #[.int .i64 W, .int .i64 H, .slice A n c] 75)).alloc (.cells #[.int .i64 hw, .int .i64 hh, .slice Ah nh ch] 75)) 3 #[.int .i64 dx]
  have p3 := Blk.new (((w.alloc (.cells #[.int .i64 W, .int .i64 H, .slice A n c] 75)).alloc (.cells #[.int .i64 hw, .int .i64 hh, .slice Ah nh ch] 75)).alloc (.cells #[.int .i64 dx] 3)) 3 #[.int .i64 dy]
  have p4 := Blk.new ((((w.alloc (.cells #[.int .i64 W, .int .i64 H, .slice A n c] 75)).alloc (.cells #[.int .i64 hw, .int .i64 hh, .slice Ah nh ch] 75)).alloc (.cells #[.int .i64 dx] 3)).alloc (.cells #[.int .i64 dy] 3)) 57 #[.slice Ar nr cr]
  have p5 := Blk.new (((((w.alloc (.cells #[.int .i64 W, .int .i64 H, .slice A n c] 75)).alloc (.cells #[.int .i64 hw, .int .i64 hh, .slice Ah nh ch] 75)).alloc (.cells #[.int .i64 dx] 3)).alloc (.cells #[.int .i64 dy] 3)).alloc (.cells #[.slice Ar nr cr] 57)) 75 #[.int .i64 0, .int .i64 0, .slice none 0 0]
  have b0 := bal (bal (bal (bal (bal (bal (bre w) (.cells #[.int .i64 W, .int .i64 H, .slice A n c] 75)) (.cells #[.int .i64 hw, .int .i64 hh, .slice Ah nh ch] 75)) (.cells #[.int .i64 dx] 3)) (.cells #[.int .i64 dy] 3)) (.cells #[.slice Ar nr cr] 57)) (.cells #[.int .i64 0, .int .i64 0, .slice none 0 0] 75)
  simp only [World.size_alloc] at p1 p2 p3 p4 p5
  have q1 := (((p1.alloc (.cells #[.int .i64 dx] 3)).alloc (.cells #[.int .i64 dy] 3)).alloc (.cells #[.slice Ar nr cr] 57)).alloc (.cells #[.int .i64 0, .int .i64 0, .slice none 0 0] 75)
  have q2 := ((p2.alloc (.cells #[.int .i64 dy] 3)).alloc (.cells #[.slice Ar nr cr] 57)).alloc (.cells #[.int .i64 0, .int .i64 0, .slice none 0 0] 75)
  have q3 := (p3.alloc (.cells #[.slice Ar nr cr] 57)).alloc (.cells #[.int .i64 0, .int .i64 0, .slice none 0 0] 75)
  have q4 := p4.alloc (.cells #[.int .i64 0, .int .i64 0, .slice none 0 0] 75)
  have HB0 := Lib.hid b0
  have HQ1 := Lib.hid q1
  have HQ2 := Lib.hid q2
  have HQ3 := Lib.hid q3
  have HQ4 := Lib.hid q4
  have HQ5 := Lib.hid p5
  clear b0 p1 p2 p3 p4 p5 q1 q2 q3 q4
  go_upto_region 4 with (first
    | (go_at_call 103; refine (coord_any _ _).mono ?_; rintro e w' ⟨rfl, rfl⟩)
    | (go_at_call 100; refine (twin_any _ _ _ _ _ px _ hnm (HR.out.below HB0.out)).mono ?_; rintro e w1 ⟨g, rfl, hown, hb1⟩; have HO := Lib.hid hown; have HB1 := Lib.hid hb1; have z1 := hb1.size; simp only [World.size_alloc] at z1; clear hown hb1))
  obtain ⟨hge, hpx⟩ := own_blk HO.out
  simp only [World.size_alloc] at hge
  have hgl := hpx.lt
  have bX := bal (bre w1) (.cells #[.int .i64 W, .int .i64 H, .slice (some ⟨g, 0, none⟩) n n] 75)
  have hbx := Blk.new w1 75 #[.int .i64 W, .int .i64 H, .slice (some ⟨g, 0, none⟩) n n]
  have k1 := (HQ1.out.belowS HB1.out).belowS bX
  have k2 := (HQ2.out.belowS HB1.out).belowS bX
  have k3 := (HQ3.out.belowS HB1.out).belowS bX
  have k4 := (HQ4.out.belowS HB1.out).belowS bX
  have k5 := (HQ5.out.belowS HB1.out).belowS bX
  have hpx2 := hpx.belowS bX
  have hBX : Below w.heap.size w (w1.alloc (.cells #[.int .i64 W, .int .i64 H, .slice (some ⟨g, 0, none⟩) n n] 75)) := bstep (bstep HB0.out HB1.out) bX
  obtain ⟨X, hX⟩ : ∃ X, w1.alloc (.cells #[.int .i64 W, .int .i64 H, .slice (some ⟨g, 0, none⟩) n n] 75) = X := ⟨_, rfl⟩
  obtain ⟨B, hB⟩ : ∃ B, w1.heap.size = B := ⟨_, rfl⟩
  rw [hX] at hbx hpx2 hBX k1 k2 k3 k4 k5 ⊢
  rw [hB] at hbx hgl z1 ⊢
  have HRX := Lib.hid (HRR.out.below hBX)
  have HRHX := Lib.hid (HRH.out.below hBX)
  have HPX := Lib.hid hpx2
  have HBX := Lib.hid hBX
  have HKX := Lib.hid hbx
  have HK1 := Lib.hid k1
  have HK2 := Lib.hid k2
  have HK3 := Lib.hid k3
  have HK5 := Lib.hid k5
  have c4 := k4.cellV (i := 0) (v := .slice Ar nr cr) rfl
  have c0 := hbx.cellV (i := 0) rfl
  have c01 := hbx.cellV (i := 1) rfl
  have c02 := hbx.cellV (i := 2) rfl
  clear hX hB HB1 HO HQ1 HQ2 HQ3 HQ4 HQ5 bX hbx k1 k2 k3 k4 k5 hpx hpx2 hBX
  go_upto_region 5 with (go_at_call 156; refine (spans_do 157 _ (.inr rfl) (LayK W H n (w.heap.size + 1) (w.heap.size + 1 + 1) (w.heap.size + 1 + 1 + 1) B g hw hh nh ch Ah hpx dx dy) W H g n n nr cr _ _ (layS hw hh hpx dx dy) px rs _ (lay_do W H n _ _ _ _ g hw hh nh ch Ah hpx dx dy px hW hH HN.out HL.out hhw hhh HNH.out HDX.out HDY.out (by omega) (by omega) (by omega) (by omega) (fun h0 a e => by have := HAH.out h0 a e; omega)) (fun w1 w2 hk hg => hk.grown hg (by omega) (by omega) (by omega) (by omega) (fun h0 a e => by have := HAH.out h0 a e; omega)) hW hH (HL.out.trans HN.out) hnr HRX.out HC.out ⟨HK1.out, HK2.out, HK3.out, HKX.out, HRHX.out⟩ HPX.out).mono ?_; rintro e w2 ⟨rfl, hg2, hgr2⟩; have HG2 := Lib.hid hg2; have HGR := Lib.hid hgr2; clear hg2 hgr2)
  have r5 := HK5.out.grown HGR.out (by intro e; injection e with e; omega)
  have rX := HKX.out.grown HGR.out (by intro e; injection e with e; omega)
  have hB2 : Below w.heap.size w w2 := HBX.out.grown HGR.out HBX.out.size (fun q e => by cases e; omega)
  have HB2 := Lib.hid hB2
  clear c4 c0 c01 c02 HK1 HK2 HK3 HK5 HKX
  have c0 := rX.cellV (i := 0) rfl
  have c1 := rX.cellV (i := 1) rfl
  have c2 := rX.cellV (i := 2) rfl
  have d0 := r5.cellV (i := 0) rfl
  have d1 := r5.cellV (i := 1) rfl
  have d2 := r5.cellV (i := 2) rfl
  have f0 := r5.frozen 0
  have f1 := r5.frozen 1
  have f2 := r5.frozen 2
  clear rX r5 hB2
  go_wp2_with fail
  refine bodyPost_ret (v := .agg #[.int .i64 W, .int .i64 H, .slice (some ⟨g, 0, none⟩) n n]) (by simp [results, Tryz.results98, go_sem, d0, d1, d2]) rfl ⟨some ⟨g, 0, none⟩, rfl, ?_, ?_⟩
  · have hr := Rd.of_own (blk_own HG2.out (base := 0) (n := n) (Nat.zero_le _) (by simp [U8, lay_len, HL.out]) (by simp only [maxLen]; omega))
    have hne : ∀ a : Addr, some (⟨g, 0, none⟩ : Addr) = some a → a.block ≠ w.heap.size + 1 + 1 + 1 + 1 + 1 := fun a e => by cases e; dsimp only; omega
    exact ((hr.far (p := ⟨w.heap.size + 1 + 1 + 1 + 1 + 1, 0, none⟩) hne _).far (p := ⟨w.heap.size + 1 + 1 + 1 + 1 + 1, 1, none⟩) hne _).far (p := ⟨w.heap.size + 1 + 1 + 1 + 1 + 1, 2, none⟩) hne _
  · exact bset (p := ⟨_, _, _⟩) (bset (p := ⟨_, _, _⟩) (bset (p := ⟨_, _, _⟩) HB2.out (by dsimp only; omega) _) (by dsimp only; omega) _) (by dsimp only; omega) _

/-- what a grid, laid on another one, has. -/
def layR (W hw hh : Nat) (hpx : List Int) (dx dy : Int) (rs : List RC) (px : List Int) : List Int := if (coordB dx && coordB dy) = true then lay W (layS hw hh hpx dx dy) (anyP rs) px else px
theorem lay_any (W H hw hh : Nat) (px hpx : List Int) (A Ah Ar : Option Addr) (n c nh ch nr cr : Nat) (rs : List RC) (dx dy : Int) (w : World) (hcn : n ≤ c) (hn : n = W * H) (hW : W ≤ 128) (hH : H ≤ 128) (hr : Rd w A n (U8 px)) (hnh : nh = hw * hh) (hhw : hw ≤ 128) (hhh : hh ≤ 128) (hrh : Rd w Ah nh (U8 hpx)) (hnr : nr ≤ 1000000000000) (hrr : RdR w Ar nr rs) (hc : ∀ r ∈ rs, r.cnt = true) :
    Calls Tryz.prog 98 #[.agg #[.int .i64 W, .int .i64 H, .slice A n c], .agg #[.int .i64 hw, .int .i64 hh, .slice Ah nh ch], .int .i64 dx, .int .i64 dy, .agg #[.slice Ar nr cr]] w fun e w' => ∃ A' c', e = .returned (.agg #[.int .i64 W, .int .i64 H, .slice A' n c']) ∧ Rd w' A' n (U8 (layR W hw hh hpx dx dy rs px)) ∧ n ≤ c' ∧ Below w.heap.size w w' := by
  unfold layR
  cases hd : (coordB dx && coordB dy)
  · rw [if_neg (by decide)]
    exact (lay_far W H hw hh A Ah Ar n c nh ch nr cr dx dy w hd).mono fun e w' ⟨he, hb⟩ => ⟨A, c, he, hr.below hb, hcn, hb⟩
  · rw [if_pos rfl]
    simp only [Bool.and_eq_true] at hd
    exact (lay_near W H hw hh px hpx A Ah Ar n c nh ch nr cr rs dx dy w hd.1 hd.2 hn hW hH hr hnh hhw hhh hrh hnr hrr hc).mono fun e w' ⟨A', he, hr', hb⟩ => ⟨A', n, he, hr', Nat.le_refl _, hb⟩

end Go.Proofs.YtdaedkolpfkdjaaGreat.Gr
end

section
namespace Go.Proofs.YtdaedkolpfkdjaaGreat
open Go.RowKit Go.Maps Go.Shelf

theorem gr_gat_lay {W H : Nat} {S : Nat → Nat → Option Int} {M : Nat → Nat → Bool} {px : List Int} (hl : px.length = W * H) {x y : Nat} (hx : x < W) (hy : y < H) :
    Gr.gat W H (Gr.lay W S M px) x y = if M x y then (S x y).getD (Gr.gat W H px x y) else Gr.gat W H px x y := by
  have hh : Gr.hasB W H x y = true := (Gr.has_iff _ _ _ _).2 (by omega)
  have hi := Gr.has_idx hh
  unfold Gr.gat
  rw [if_pos hh, if_pos hh]
  simp only [Int.toNat_natCast] at *
  rw [List.getD_eq_getElem?_getD, List.getD_eq_getElem?_getD, Gr.lay_get]
  obtain ⟨d1, d2⟩ := Gr.idx_div (W := W) (x := x) (y := y) hx
  rw [d1, d2]
  obtain ⟨q, hq⟩ : ∃ q, px[y * W + x]? = some q := ⟨_, List.getElem?_eq_getElem (by rw [hl]; exact hi)⟩
  rw [hq]
  simp
theorem gr_layR_len (W W2 H2 : Nat) (hpx : List Int) (dx dy : Int) (out : List RC) (px : List Int) : (Gr.layR W W2 H2 hpx dx dy out px).length = px.length := by
  unfold Gr.layR
  split
  · exact Gr.lay_len _ _ _ _
  · rfl
theorem gr_lay_at {W H W2 H2 : Nat} {hpx px : List Int} {out : List RC} {dx dy : Int} (hl : px.length = W * H) (hc : (Gr.coordB dx && Gr.coordB dy) = true) {x y : Nat} (hx : x < W) (hy : y < H) :
    Gr.gat W H (Gr.layR W W2 H2 hpx dx dy out px) x y = if inB out x y && Gr.hasB W2 H2 ((x : Int) - dx) ((y : Int) - dy) then Gr.gat W2 H2 hpx ((x : Int) - dx) ((y : Int) - dy) else Gr.gat W H px x y := by
  unfold Gr.layR
  rw [if_pos hc, gr_gat_lay hl hx hy]
  have : Gr.anyP out x y = inB out x y := by rw [Bool.eq_iff_iff, Gr.anyP_iff, inB_iff]
  rw [this]
  unfold Gr.layS
  cases inB out (x : Int) (y : Int)
  · simp
  · cases Gr.hasB W2 H2 ((x : Int) - dx) ((y : Int) - dy) <;> simp
theorem gat_out {W H : Nat} {px : List Int} {x y : Int} (h : Gr.hasB W H x y = false) : Gr.gat W H px x y = 0 := by
  unfold Gr.gat
  rw [h]
  rfl
/-- what an item has at a place of the root. -/
def scrI (cs : Its) (o : Int × Int) (i x y : Int) : Int := match cs i with
  | some it => Gr.gat it.W it.H it.px (x - o.1) (y - o.2)
  | none => 0
/-- the screen. -/
def scrP (RW RH : Nat) (ns : Nodes) (bx : Int → Option VB) (cs : Its) (x y : Int) : Int := if rectP RW RH x y then scrI cs (ogG ns bx (topN ns bx x y)) (topN ns bx x y) x y else 0
/-- the screen behind some windows. -/
structure ScrAt (RW RH W H : Nat) (ns : Nodes) (bx : Int → Option VB) (cs : Its) (l : List Int) (px : List Int) : Prop where
  len : px.length = W * H
  px : ∀ x y : Nat, x < W → y < H → Gr.gat W H px x y = if rectP RW RH x y = true ∧ topN ns bx x y ∈ l then scrI cs (ogG ns bx (topN ns bx x y)) (topN ns bx x y) x y else 0
section
variable {RW RH W H : Nat} {ns : Nodes} {bx : Int → Option VB} {cs : Its} {l px : List Int} {i : Int}
theorem ScrAt.start : ScrAt RW RH W H ns bx cs [] (List.replicate (W * H) 0) := ⟨by simp, fun x y hx hy => by
  rw [if_neg (by simp)]
  unfold Gr.gat
  split
  · rw [List.getD_eq_getElem?_getD, List.getElem?_replicate]
    split <;> rfl
  · rfl⟩
theorem ScrAt.skip (h : ScrAt RW RH W H ns bx cs l px) (hi : cs i = none ∨ ∀ x y, shG RW RH ns bx x y i = false) : ScrAt RW RH W H ns bx cs (l ++ [i]) px := ⟨h.len, fun x y hx hy => by
  rw [h.px x y hx hy]
  cases hr : rectP RW RH (x : Int) (y : Int) with
  | false => simp
  | true =>
    by_cases ht : topN ns bx (x : Int) (y : Int) = i
    · rcases hi with h0 | h0
      · have e : scrI cs (ogG ns bx (topN ns bx x y)) (topN ns bx x y) x y = 0 := by rw [ht]; unfold scrI; rw [h0]
        rw [e]
        split <;> split <;> rfl
      · have := h0 x y
        unfold shG at this
        rw [hr, ht] at this
        simp at this
    · have : (topN ns bx (x : Int) (y : Int) ∈ l ++ [i]) ↔ topN ns bx (x : Int) (y : Int) ∈ l := by
        rw [List.mem_append, List.mem_singleton]
        exact ⟨fun h => h.resolve_right ht, .inl⟩
      simp only [this]⟩
theorem ScrAt.lay (h : ScrAt RW RH W H ns bx cs l px) {it : IT} (hi : cs i = some it) {out : List RC} (hp : ∀ x y, inB out x y = shG RW RH ns bx x y i) (hc : (Gr.coordB (ogG ns bx i).1 && Gr.coordB (ogG ns bx i).2) = true) : ScrAt RW RH W H ns bx cs (l ++ [i]) (Gr.layR W it.W it.H it.px (ogG ns bx i).1 (ogG ns bx i).2 out px) := ⟨(gr_layR_len _ _ _ _ _ _ _ _).trans h.len, fun x y hx hy => by
  rw [gr_lay_at h.len hc hx hy, hp, h.px x y hx hy]
  unfold shG
  cases hr : rectP RW RH (x : Int) (y : Int) with
  | false => simp
  | true =>
    by_cases ht : topN ns bx (x : Int) (y : Int) = i
    · have e : scrI cs (ogG ns bx (topN ns bx x y)) (topN ns bx x y) x y = Gr.gat it.W it.H it.px ((x : Int) - (ogG ns bx i).1) ((y : Int) - (ogG ns bx i).2) := by rw [ht]; unfold scrI; rw [hi]
      rw [e]
      simp only [ht, Bool.true_and, decide_true, true_and, List.mem_append, List.mem_singleton, or_true, if_true]
      cases hh : Gr.hasB it.W it.H ((x : Int) - (ogG ns bx i).1) ((y : Int) - (ogG ns bx i).2) with
      | true => rfl
      | false => rw [gat_out hh]; simp
    · have h1 : decide (i = topN ns bx (x : Int) (y : Int)) = false := decide_eq_false fun e => ht e.symm
      have h2 : (topN ns bx (x : Int) (y : Int) ∈ l ++ [i]) ↔ topN ns bx (x : Int) (y : Int) ∈ l := by
        rw [List.mem_append, List.mem_singleton]
        exact ⟨fun h => h.resolve_right ht, .inl⟩
      simp only [h1, h2, Bool.and_false, Bool.false_and, Bool.false_eq_true, if_false]⟩
theorem top_ord (hn : TreeOk ns) (x y : Int) : topN ns bx x y ∈ ordW ns bx 1 := by
  obtain ⟨h1, h2⟩ := topF_vw (bx := bx) hn (belowAt ns 1).length 1 x y (hasN_root ns) (vw_root hn)
  unfold ordW
  exact List.mem_filter.2 ⟨(below_root hn).2 h1, h2⟩
theorem ScrAt.all (h : ScrAt RW RH W H ns bx cs (ordW ns bx 1) px) (hn : TreeOk ns) (x y : Nat) (hx : x < W) (hy : y < H) : Gr.gat W H px x y = scrP RW RH ns bx cs x y := by
  rw [h.px x y hx hy]
  unfold scrP
  simp only [top_ord hn, and_true]
end
theorem coordB_og {w : World} {v : Value} {RW RH : Nat} {ns : Nodes} {bx : Int → Option VB} {og : Int → Int × Int} (h : SeenG w v RW RH ns bx og) (hn : TreeOk ns) (i : Int) : (Gr.coordB (ogG ns bx i).1 && Gr.coordB (ogG ns bx i).2) = true := by
  rw [← h.og_eq hn]
  obtain ⟨A, n, c, mv, nm, f, hv⟩ := h.is
  obtain ⟨_, _, _, _, _, _, _, hb, _⟩ := hv.look i
  unfold Gr.coordB
  rw [Bool.and_eq_true, decide_eq_true_eq, decide_eq_true_eq]
  omega
/-- a view tells a window's place; and which there are. -/
theorem SeenG.origin {w : World} {v : Value} {RW RH : Nat} {ns : Nodes} {bx : Int → Option VB} {og : Int → Int × Int} (h : SeenG w v RW RH ns bx og) (hn : TreeOk ns) (i : Int) (hi : 0 ≤ i ∧ i ≤ 4294967295) :
    Calls Tryz.prog 97 #[v, .int .u32 i] w fun e w' => e = .returned (.tuple #[.agg #[.int .i64 (ogG ns bx i).1, .int .i64 (ogG ns bx i).2], .bool (hasN ns i && vw ns bx i)]) ∧ Below w.heap.size w w' := by
  have e := h.og_eq hn i
  obtain ⟨A, n, c, mv, nm, f, hv⟩ := h.is
  have := vorigin_any i hi hv
  rw [look_some hn, e] at this
  exact this
theorem SeenG.windows {w : World} {v : Value} {RW RH : Nat} {ns : Nodes} {bx : Int → Option VB} {og : Int → Int × Int} (h : SeenG w v RW RH ns bx og) :
    Calls Tryz.prog 26 #[v] w fun e w' => ∃ u, e = .returned u ∧ w'.ownsRow w.heap.size 48 1 u (ordW ns bx 1).length (U32 (ordW ns bx 1)) ∧ (∀ i ∈ ordW ns bx 1, 0 ≤ i ∧ i ≤ 4294967295) ∧ (ordW ns bx 1).length ≤ 1001 ∧ Below w.heap.size w w' := by
  obtain ⟨A, n, c, mv, nm, f, hv⟩ := h.is
  have hl : (ordW ns bx 1).length = n := by simpa [U32] using hv.order.1
  refine (vwindows_any hv).mono ?_
  rintro e w' ⟨u, rfl, ho, hb⟩
  rw [← hl] at ho
  exact ⟨u, rfl, ho, hv.ids, by rw [hl]; exact hv.few, hb⟩

end Go.Proofs.YtdaedkolpfkdjaaGreat
end

section
namespace Go.Proofs.YtdaedkolpfkdjaaGreat
open Go.RowKit Go.Maps Go.Shelf

/-- the removal's own value: its captured variables. -/
def rwalkF (bt bw bo : Nat) : Value := .func (.func 83) #[] #[.pointer (some ⟨bt, 0, none⟩), .pointer (some ⟨bw, 0, none⟩), .pointer (some ⟨bo, 0, none⟩)]
/-- a list on the way: the first i places have been moved up. -/
def midL (l : List Int) (k i : Nat) : List Int := (l.eraseIdx k).take i ++ l.drop i
def zs1 (n : Nat) : List Value := (Builtin.zeroCells #[.int .u32 0] n).toList
end Go.Proofs.YtdaedkolpfkdjaaGreat
end

section
namespace Go.Proofs.YtdaedkolpfkdjaaGreat
open Go.RowKit Go.Maps Go.Shelf

end Go.Proofs.YtdaedkolpfkdjaaGreat
end

section
namespace Go.Proofs.YtdaedkolpfkdjaaGreat

section
variable {ns : Nodes} {bx : Int → Option VB}
/-- a tree without a window, and all below it. -/
def cutN (ns : Nodes) (k : Int) : Nodes := ns.filter fun q => !(belowAt ns k).contains q.1
theorem mem_cutN {k : Int} {q : Int × Int} : q ∈ cutN ns k ↔ q ∈ ns ∧ q.1 ∉ belowAt ns k := by
  unfold cutN
  rw [List.mem_filter]
  simp
theorem cut_up (h : TreeOk ns) {k i : Int} (hi : i ∉ belowAt ns k) : upOf (cutN ns k) i = upOf ns i := by
  have hnd : ((cutN ns k).map (·.1)).Nodup := h.nodup.sublist (List.filter_sublist.map _)
  cases hu : upOf ns i with
  | some p => exact upOf_mem hnd (mem_cutN.2 ⟨upOf_some hu, hi⟩)
  | none =>
    cases hc : upOf (cutN ns k) i with
    | none => rfl
    | some p =>
      have := upOf_mem h.nodup (mem_cutN.1 (upOf_some hc)).1
      rw [hu] at this
      cases this
theorem kid_out (h : TreeOk ns) {k i j : Int} (hk : hasN ns k = true) (hi : i ∉ belowAt ns k) (hj : j ∈ kidsOf ns i) : j ∈ belowAt ns k ↔ j = k := by
  have hp := upOf_mem h.nodup (kids_mem.1 hj)
  rw [below_iff h hk] at hi ⊢
  rw [(path_step h hp).1, List.mem_cons]
  constructor
  · rintro (e | e)
    · exact e.symm
    · exact absurd e hi
  · exact fun e => .inl e.symm
theorem cut_kids (h : TreeOk ns) {k i : Int} (hk : hasN ns k = true) (hi : i ∉ belowAt ns k) : kidsOf (cutN ns k) i = (kidsOf ns i).filter fun j => decide (j ≠ k) := by
  unfold kidsOf cutN
  rw [List.filter_filter, List.filter_map, List.filter_filter]
  congr 1
  refine List.filter_congr (fun q hq => ?_)
  cases e : q.2 == i with
  | false => simp
  | true =>
    rw [beq_iff_eq] at e
    have hj : q.1 ∈ kidsOf ns i := kids_mem.2 (by rw [← e]; exact hq)
    have := kid_out h hk hi hj
    simp only [Bool.true_and, Bool.and_true, Function.comp]
    rw [Bool.eq_iff_iff]
    simp [this]
theorem cut_has (h : TreeOk ns) {k i : Int} (hi : i ∉ belowAt ns k) : hasN (cutN ns k) i = hasN ns i := by
  unfold hasN
  rw [cut_up h hi]
end

section
variable {ns : Nodes} {bx : Int → Option VB}
/-- a tree in which a window is raised to the top of its siblings. -/
def topmost (ns : Nodes) (k p : Int) : Nodes := (ns.filter fun q => decide (q.1 ≠ k)) ++ [(k, p)]
end
end Go.Proofs.YtdaedkolpfkdjaaGreat
end

section
namespace Go.Proofs.YtdaedkolpfkdjaaGreat
open Go.RowKit Go.Maps Go.Shelf

theorem cut_up_all {ns : Nodes} (h : TreeOk ns) (k j : Int) : upOf (cutN ns k) j = if j ∈ belowAt ns k then none else upOf ns j := by
  by_cases hj : j ∈ belowAt ns k
  · rw [if_pos hj]
    cases hu : upOf (cutN ns k) j with
    | none => rfl
    | some p => exact absurd hj (mem_cutN.1 (upOf_some hu)).2
  · rw [if_neg hj]
    exact cut_up h hj
/-- a map from which some keys have gone. -/
def goneF (f : Int → Option Value) (l : List Int) : Int → Option Value := fun j => if j ∈ l then none else f j
theorem goneF_nil (f : Int → Option Value) : goneF f [] = f := by
  funext j
  simp [goneF]
theorem goneF_perm (f : Int → Option Value) {l m : List Int} (h : l.Perm m) : goneF f l = goneF f m := by
  funext j
  unfold goneF
  by_cases hj : j ∈ l
  · rw [if_pos hj, if_pos (h.mem_iff.1 hj)]
  · rw [if_neg hj, if_neg (fun e => hj (h.mem_iff.2 e))]
end Go.Proofs.YtdaedkolpfkdjaaGreat
end

section
namespace Go.Proofs.YtdaedkolpfkdjaaGreat
open Go.RowKit Go.Maps

section
variable {P : Program} {k : TypeId} {q : IntKind} {w : World} {b n : Nat} {f : Int → Option Value}
theorem sameKey_int (i : Int) : (Lit.int q i).sameKey (.int q i) = true := by simp [Lit.sameKey]
theorem MapIs.keyList (hk : P.underlying k = some (.int q)) (h : MapIs P k q w b n f) : ∃ ks : List Int, ks.Nodup ∧ ks.length = n ∧ ∀ i, i ∈ ks ↔ (f i).isSome = true := by
  obtain ⟨D, hD, hs, hh, _⟩ := h
  have hT := hD.tidy (int_keyed hk)
  obtain ⟨es, cl, h1, hF, h3, h4⟩ := hD
  obtain ⟨E, hE, hp⟩ := hT
  have hint : ∀ p ∈ E, ∃ i, p.1 = .int q i := by
    intro p hpE
    rw [hE] at h4
    injection h4 with h4
    rw [h4, mem_sorted, List.mem_map] at hpE
    obtain ⟨x, hx, rfl⟩ := hpE
    obtain ⟨y, hy⟩ := hF.reads x hx
    have hkey := WideElems.rd_key hy
    have e : (WideElems.rg P k rawR x).1 = y.1 := by simp [WideElems.rg, hy]
    rw [e]
    simp [keyOf, hk] at hkey
    cases hx2 : x.key <;> rw [hx2] at hkey <;> simp [mapKey, hk] at hkey
    obtain ⟨_, h9⟩ := hkey
    exact ⟨_, h9.symm⟩
  subst hE
  rw [size_eq] at hs
  refine ⟨E.map fun p => match p.1 with | .int _ i => i | _ => 0, ?_, by rw [List.length_map, hs], fun i => ⟨fun hi => ?_, fun hi => ?_⟩⟩
  · rw [List.Nodup, List.pairwise_map]
    refine hp.imp_of_mem (fun {a c} ha hc hne e => hne ?_)
    obtain ⟨i, hi⟩ := hint a ha
    obtain ⟨j, hj⟩ := hint c hc
    rw [hi, hj] at e ⊢
    dsimp only at e
    rw [e]
  · obtain ⟨p, hpE, rfl⟩ := List.mem_map.1 hi
    obtain ⟨i, hi⟩ := hint p hpE
    rw [← hh, hi]
    dsimp only
    rw [has_eq, List.any_eq_true]
    exact ⟨p, hpE, by rw [hi]; exact sameKey_int i⟩
  · rw [← hh, has_eq, List.any_eq_true] at hi
    obtain ⟨p, hpE, hs2⟩ := hi
    have := WideAt.sameKey_eq hs2
    exact List.mem_map.2 ⟨p, hpE, by rw [this]⟩
theorem sub_len : ∀ {l m : List Int}, l.Nodup → (∀ x ∈ l, x ∈ m) → l.length ≤ m.length
  | [], _, _, _ => Nat.zero_le _
  | a :: l, m, hn, h => by
    have ha := h a (by simp)
    rw [List.nodup_cons] at hn
    have := sub_len (l := l) (m := m.erase a) hn.2 (fun x hx => (List.mem_erase_of_ne (fun e => hn.1 (by rw [← e]; exact hx))).2 (h x (by simp [hx])))
    rw [List.length_erase_of_mem ha] at this
    have hp := List.length_pos_of_mem ha
    simp only [List.length_cons]
    omega
/-- as many entries as there are numbers that have one. -/
theorem MapIs.count (hk : P.underlying k = some (.int q)) (h : MapIs P k q w b n f) {L : List Int} (hL : L.Nodup) (hf : ∀ i, i ∈ L ↔ (f i).isSome = true) : n = L.length := by
  obtain ⟨ks, h1, h2, h3⟩ := h.keyList hk
  rw [← h2]
  exact Nat.le_antisymm (sub_len h1 fun x hx => (hf x).2 ((h3 x).1 hx)) (sub_len hL fun x hx => (h3 x).2 ((hf x).1 hx))
theorem MapIs.atMost (hk : P.underlying k = some (.int q)) (h : MapIs P k q w b n f) {L : List Int} (hf : ∀ i, (f i).isSome = true → i ∈ L) : n ≤ L.length := by
  obtain ⟨ks, h1, h2, h3⟩ := h.keyList hk
  rw [← h2]
  exact sub_len h1 fun x hx => hf x ((h3 x).1 hx)
end
end Go.Proofs.YtdaedkolpfkdjaaGreat
end
