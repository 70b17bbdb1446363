/-
  The walk of a grid's Lay.
  What screen.Show shows, place by place.
  The document's screen, plainly: the topmost window at a place, and the place in it.
  Screens, plainly: a window that isn't mapped plays no part; windows that are alike look alike.
  The walks of the document's answers of a scene: Counts, In, Has; a window's Has; Viewable; Origin.
  The walks of the document's answers of a scene: Origin; the window at a place; those below one.
  The walk of the document's own area of a window (in).
-/
import Derived.Test.YtdaedkolpfkdjaaGreatZJ30
import Derived.Test.YtdaedkolpfkdjaaGreatZJ26
import Derived.Test.YtdaedkolpfkdjaaGreatZJ25
import Derived.Test.YtdaedkolpfkdjaaGreatZJ27
import Derived.Test.YtdaedkolpfkdjaaGreatZJ23
import Derived.BigRegion
import Derived.Test.YtdaedkolpfkdjaaGreatZJ28
section
namespace Go.Proofs.YtdaedkolpfkdjaaGreat.Gr
open Go.RowKit Go.Shelf

theorem lay_do (W H n bh bx by' bo gp hw hh nh ch : Nat) (Ah : Option Addr) (hpx : List Int) (dx dy : Int) (px : List Int) (hW : W ≤ 128) (hH : H ≤ 128) (hn : n = W * H) (hl : px.length = n) (hhw : hw ≤ 128) (hhh : hh ≤ 128) (hnh : nh = hw * hh) (hdx : -1048576 ≤ dx ∧ dx ≤ 1048576) (hdy : -1048576 ≤ dy ∧ dy ≤ 1048576)
    (h1 : bh ≠ gp) (h2 : bx ≠ gp) (h3 : by' ≠ gp) (h4 : bo ≠ gp) (hA : 0 < nh → ∀ a, Ah = some a → a.block ≠ gp) :
    DoFn 157 #[.pointer (some ⟨bh, 0, none⟩), .pointer (some ⟨bx, 0, none⟩), .pointer (some ⟨by', 0, none⟩), .pointer (some ⟨bo, 0, none⟩)] (LayK W H n bh bx by' bo gp hw hh nh ch Ah hpx dx dy) W H gp (layS hw hh hpx dx dy) px :=
  fun M y a b yi ai bi w e1 e2 e3 hy hab hb hk hg => lay1_any W H n bh bx by' bo gp hw hh nh ch Ah hpx dx dy a b y yi ai bi M px w e1 e2 e3 hW hH hn hl hy hab hb hhw hhh hnh hdx hdy hk hg h1 h2 h3 h4 hA

set_option maxRecDepth 100000 in
set_option maxHeartbeats 2000000 in
theorem lay_far (W H hw hh : Int) (A Ah Ar : Option Addr) (n c nh ch nr cr : Nat) (dx dy : Int) (w : World) (hd : (coordB dx && coordB dy) = false) :
    Calls Tryz.prog 98 #[.agg #[.int .i64 W, .int .i64 H, .slice A n c], .agg #[.int .i64 hw, .int .i64 hh, .slice Ah nh ch], .int .i64 dx, .int .i64 dy, .agg #[.slice Ar nr cr]] w fun e w' => e = .returned (.agg #[.int .i64 W, .int .i64 H, .slice A n c]) ∧ Below w.heap.size w w' := by
  have hb := bal (bal (bal (bal (bal (bal (bre w) (.cells #[.int .i64 W, .int .i64 H, .slice A n c] 75)) (.cells #[.int .i64 hw, .int .i64 hh, .slice Ah nh ch] 75)) (.cells #[.int .i64 dx] 3)) (.cells #[.int .i64 dy] 3)) (.cells #[.slice Ar nr cr] 57)) (.cells #[.int .i64 W, .int .i64 H, .slice A n c] 75)
  have HB := Lib.hid hb
  clear hb
  cases h1 : coordB dx
  · clear hd
    go_enter Tryz.func98, Tryz.ntmps98
    go_wp2_with (go_at_call 103; refine (coord_any _ _).mono ?_; rintro e w' ⟨rfl, rfl⟩)
    exact bodyPost_ret (v := .agg #[.int .i64 W, .int .i64 H, .slice A n c]) (by simp [results, Tryz.results98, go_sem]) rfl ⟨rfl, HB.out⟩
  · have h2 : coordB dy = false := by simpa [h1] using hd
    clear hd
    go_enter Tryz.func98, Tryz.ntmps98
    go_wp2_with (go_at_call 103; refine (coord_any _ _).mono ?_; rintro e w' ⟨rfl, rfl⟩)
    exact bodyPost_ret (v := .agg #[.int .i64 W, .int .i64 H, .slice A n c]) (by simp [results, Tryz.results98, go_sem]) rfl ⟨rfl, HB.out⟩

set_option maxRecDepth 100000 in
set_option maxHeartbeats 4000000 in
theorem lay_near (W H hw hh : Nat) (px hpx : List Int) (A Ah Ar : Option Addr) (n c nh ch nr cr : Nat) (rs : List RC) (dx dy : Int) (w : World) (h1 : coordB dx = true) (h2 : coordB dy = true) (hn : n = W * H) (hW : W ≤ 128) (hH : H ≤ 128) (hr : Rd w A n (U8 px)) (hnh : nh = hw * hh) (hhw : hw ≤ 128) (hhh : hh ≤ 128) (hrh : Rd w Ah nh (U8 hpx)) (hnr : nr ≤ 1000000000000) (hrr : RdR w Ar nr rs) (hc : ∀ r ∈ rs, r.cnt = true) :
    Calls Tryz.prog 98 #[.agg #[.int .i64 W, .int .i64 H, .slice A n c], .agg #[.int .i64 hw, .int .i64 hh, .slice Ah nh ch], .int .i64 dx, .int .i64 dy, .agg #[.slice Ar nr cr]] w fun e w' => ∃ A', e = .returned (.agg #[.int .i64 W, .int .i64 H, .slice A' n n]) ∧ Rd w' A' n (U8 (lay W (layS hw hh hpx dx dy) (anyP rs) px)) ∧ Below w.heap.size w w' := by
  have hnm := mul_le_128 hW hH
  rw [← hn] at hnm
  have hl : px.length = n := by have := hr.1; simpa [U8] using this
  have hdx : -1048576 ≤ dx ∧ dx ≤ 1048576 := by simpa [coordB] using h1
  have hdy : -1048576 ≤ dy ∧ dy ≤ 1048576 := by simpa [coordB] using h2
  have hAh : 0 < nh → ∀ a, Ah = some a → a.block < w.heap.size := fun h0 a e => hrh.lt h0 a e
  have HN := Lib.hid hn
  have HNH := Lib.hid hnh
  have HR := Lib.hid hr
  have HRH := Lib.hid hrh
  have HRR := Lib.hid hrr
  have HC := Lib.hid hc
  have HL := Lib.hid hl
  have HDX := Lib.hid hdx
  have HDY := Lib.hid hdy
  have HAH := Lib.hid hAh
  clear hr hn hrr hc hl hrh hnh hdx hdy hAh
  go_enter Tryz.func98, Tryz.ntmps98
  have p1 := Blk.new (w.alloc (.cells #[.int .i64 W, .int .i64 H, .slice A n c] 75)) 75 #[.int .i64 hw, .int .i64 hh, .slice Ah nh ch]
  have p2 := Blk.new ((w.alloc (.cells #[.int .i64 W, .int .i64 H, .slice A n c] 75)).alloc (.cells #[.int .i64 hw, .int .i64 hh, .slice Ah nh ch] 75)) 3 #[.int .i64 dx]
  have p3 := Blk.new (((w.alloc (.cells #[.int .i64 W, .int .i64 H, .slice A n c] 75)).alloc (.cells #[.int .i64 hw, .int .i64 hh, .slice Ah nh ch] 75)).alloc (.cells #[.int .i64 dx] 3)) 3 #[.int .i64 dy]
  have p4 := Blk.new ((((w.alloc (.cells #[.int .i64 W, .int .i64 H, .slice A n c] 75)).alloc (.cells #[.int .i64 hw, .int .i64 hh, .slice Ah nh ch] 75)).alloc (.cells #[.int .i64 dx] 3)).alloc (.cells #[.int .i64 dy] 3)) 57 #[.slice Ar nr cr]
  have p5 := Blk.new (((((w.alloc (.cells #[.int .i64 W, .int .i64 H, .slice A n c] 75)).alloc (.cells #[.int .i64 hw, .int .i64 hh, .slice Ah nh ch] 75)).alloc (.cells #[.int .i64 dx] 3)).alloc (.cells #[.int .i64 dy] 3)).alloc (.cells #[.slice Ar nr cr] 57)) 75 #[.int .i64 0, .int .i64 0, .slice none 0 0]
  have b0 := bal (bal (bal (bal (bal (bal (bre w) (.cells #[.int .i64 W, .int .i64 H, .slice A n c] 75)) (.cells #[.int .i64 hw, .int .i64 hh, .slice Ah nh ch] 75)) (.cells #[.int .i64 dx] 3)) (.cells #[.int .i64 dy] 3)) (.cells #[.slice Ar nr cr] 57)) (.cells #[.int .i64 0, .int .i64 0, .slice none 0 0] 75)
  simp only [World.size_alloc] at p1 p2 p3 p4 p5
  have q1 := (((p1.alloc (.cells #[.int .i64 dx] 3)).alloc (.cells #[.int .i64 dy] 3)).alloc (.cells #[.slice Ar nr cr] 57)).alloc (.cells #[.int .i64 0, .int .i64 0, .slice none 0 0] 75)
  have q2 := ((p2.alloc (.cells #[.int .i64 dy] 3)).alloc (.cells #[.slice Ar nr cr] 57)).alloc (.cells #[.int .i64 0, .int .i64 0, .slice none 0 0] 75)
  have q3 := (p3.alloc (.cells #[.slice Ar nr cr] 57)).alloc (.cells #[.int .i64 0, .int .i64 0, .slice none 0 0] 75)
  have q4 := p4.alloc (.cells #[.int .i64 0, .int .i64 0, .slice none 0 0] 75)
  have HB0 := Lib.hid b0
  have HQ1 := Lib.hid q1
  have HQ2 := Lib.hid q2
  have HQ3 := Lib.hid q3
  have HQ4 := Lib.hid q4
  have HQ5 := Lib.hid p5
  clear b0 p1 p2 p3 p4 p5 q1 q2 q3 q4
  go_upto_region 4 with (first
    | (go_at_call 103; refine (coord_any _ _).mono ?_; rintro e w' ⟨rfl, rfl⟩)
    | (go_at_call 100; refine (twin_any _ _ _ _ _ px _ hnm (HR.out.below HB0.out)).mono ?_; rintro e w1 ⟨g, rfl, hown, hb1⟩; have HO := Lib.hid hown; have HB1 := Lib.hid hb1; have z1 := hb1.size; simp only [World.size_alloc] at z1; clear hown hb1))
  obtain ⟨hge, hpx⟩ := own_blk HO.out
  simp only [World.size_alloc] at hge
  have hgl := hpx.lt
  have bX := bal (bre w1) (.cells #[.int .i64 W, .int .i64 H, .slice (some ⟨g, 0, none⟩) n n] 75)
  have hbx := Blk.new w1 75 #[.int .i64 W, .int .i64 H, .slice (some ⟨g, 0, none⟩) n n]
  have k1 := (HQ1.out.belowS HB1.out).belowS bX
  have k2 := (HQ2.out.belowS HB1.out).belowS bX
  have k3 := (HQ3.out.belowS HB1.out).belowS bX
  have k4 := (HQ4.out.belowS HB1.out).belowS bX
  have k5 := (HQ5.out.belowS HB1.out).belowS bX
  have hpx2 := hpx.belowS bX
  have hBX : Below w.heap.size w (w1.alloc (.cells #[.int .i64 W, .int .i64 H, .slice (some ⟨g, 0, none⟩) n n] 75)) := bstep (bstep HB0.out HB1.out) bX
  obtain ⟨X, hX⟩ : ∃ X, w1.alloc (.cells #[.int .i64 W, .int .i64 H, .slice (some ⟨g, 0, none⟩) n n] 75) = X := ⟨_, rfl⟩
  obtain ⟨B, hB⟩ : ∃ B, w1.heap.size = B := ⟨_, rfl⟩
  rw [hX] at hbx hpx2 hBX k1 k2 k3 k4 k5 ⊢
  rw [hB] at hbx hgl z1 ⊢
  have HRX := Lib.hid (HRR.out.below hBX)
  have HRHX := Lib.hid (HRH.out.below hBX)
  have HPX := Lib.hid hpx2
  have HBX := Lib.hid hBX
  have HKX := Lib.hid hbx
  have HK1 := Lib.hid k1
  have HK2 := Lib.hid k2
  have HK3 := Lib.hid k3
  have HK5 := Lib.hid k5
  have c4 := k4.cellV (i := 0) (v := .slice Ar nr cr) rfl
  have c0 := hbx.cellV (i := 0) rfl
  have c01 := hbx.cellV (i := 1) rfl
  have c02 := hbx.cellV (i := 2) rfl
  clear hX hB HB1 HO HQ1 HQ2 HQ3 HQ4 HQ5 bX hbx k1 k2 k3 k4 k5 hpx hpx2 hBX
  go_upto_region 5 with (go_at_call 156; refine (spans_do 157 _ (.inr rfl) (LayK W H n (w.heap.size + 1) (w.heap.size + 1 + 1) (w.heap.size + 1 + 1 + 1) B g hw hh nh ch Ah hpx dx dy) W H g n n nr cr _ _ (layS hw hh hpx dx dy) px rs _ (lay_do W H n _ _ _ _ g hw hh nh ch Ah hpx dx dy px hW hH HN.out HL.out hhw hhh HNH.out HDX.out HDY.out (by omega) (by omega) (by omega) (by omega) (fun h0 a e => by have := HAH.out h0 a e; omega)) (fun w1 w2 hk hg => hk.grown hg (by omega) (by omega) (by omega) (by omega) (fun h0 a e => by have := HAH.out h0 a e; omega)) hW hH (HL.out.trans HN.out) hnr HRX.out HC.out ⟨HK1.out, HK2.out, HK3.out, HKX.out, HRHX.out⟩ HPX.out).mono ?_; rintro e w2 ⟨rfl, hg2, hgr2⟩; have HG2 := Lib.hid hg2; have HGR := Lib.hid hgr2; clear hg2 hgr2)
  have r5 := HK5.out.grown HGR.out (by intro e; injection e with e; omega)
  have rX := HKX.out.grown HGR.out (by intro e; injection e with e; omega)
  have hB2 : Below w.heap.size w w2 := HBX.out.grown HGR.out HBX.out.size (fun q e => by cases e; omega)
  have HB2 := Lib.hid hB2
  clear c4 c0 c01 c02 HK1 HK2 HK3 HK5 HKX
  have c0 := rX.cellV (i := 0) rfl
  have c1 := rX.cellV (i := 1) rfl
  have c2 := rX.cellV (i := 2) rfl
  have d0 := r5.cellV (i := 0) rfl
  have d1 := r5.cellV (i := 1) rfl
  have d2 := r5.cellV (i := 2) rfl
  have f0 := r5.frozen 0
  have f1 := r5.frozen 1
  have f2 := r5.frozen 2
  clear rX r5 hB2
  go_wp2_with fail
  refine bodyPost_ret (v := .agg #[.int .i64 W, .int .i64 H, .slice (some ⟨g, 0, none⟩) n n]) (by simp [results, Tryz.results98, go_sem, d0, d1, d2]) rfl ⟨some ⟨g, 0, none⟩, rfl, ?_, ?_⟩
  · have hr := Rd.of_own (blk_own HG2.out (base := 0) (n := n) (Nat.zero_le _) (by simp [U8, lay_len, HL.out]) (by simp only [maxLen]; omega))
    have hne : ∀ a : Addr, some (⟨g, 0, none⟩ : Addr) = some a → a.block ≠ w.heap.size + 1 + 1 + 1 + 1 + 1 := fun a e => by cases e; dsimp only; omega
    exact ((hr.far (p := ⟨w.heap.size + 1 + 1 + 1 + 1 + 1, 0, none⟩) hne _).far (p := ⟨w.heap.size + 1 + 1 + 1 + 1 + 1, 1, none⟩) hne _).far (p := ⟨w.heap.size + 1 + 1 + 1 + 1 + 1, 2, none⟩) hne _
  · exact bset (p := ⟨_, _, _⟩) (bset (p := ⟨_, _, _⟩) (bset (p := ⟨_, _, _⟩) HB2.out (by dsimp only; omega) _) (by dsimp only; omega) _) (by dsimp only; omega) _

/-- what a grid, laid on another one, has. -/
def layR (W hw hh : Nat) (hpx : List Int) (dx dy : Int) (rs : List RC) (px : List Int) : List Int := if (coordB dx && coordB dy) = true then lay W (layS hw hh hpx dx dy) (anyP rs) px else px
theorem lay_any (W H hw hh : Nat) (px hpx : List Int) (A Ah Ar : Option Addr) (n c nh ch nr cr : Nat) (rs : List RC) (dx dy : Int) (w : World) (hcn : n ≤ c) (hn : n = W * H) (hW : W ≤ 128) (hH : H ≤ 128) (hr : Rd w A n (U8 px)) (hnh : nh = hw * hh) (hhw : hw ≤ 128) (hhh : hh ≤ 128) (hrh : Rd w Ah nh (U8 hpx)) (hnr : nr ≤ 1000000000000) (hrr : RdR w Ar nr rs) (hc : ∀ r ∈ rs, r.cnt = true) :
    Calls Tryz.prog 98 #[.agg #[.int .i64 W, .int .i64 H, .slice A n c], .agg #[.int .i64 hw, .int .i64 hh, .slice Ah nh ch], .int .i64 dx, .int .i64 dy, .agg #[.slice Ar nr cr]] w fun e w' => ∃ A' c', e = .returned (.agg #[.int .i64 W, .int .i64 H, .slice A' n c']) ∧ Rd w' A' n (U8 (layR W hw hh hpx dx dy rs px)) ∧ n ≤ c' ∧ Below w.heap.size w w' := by
  unfold layR
  cases hd : (coordB dx && coordB dy)
  · rw [if_neg (by decide)]
    exact (lay_far W H hw hh A Ah Ar n c nh ch nr cr dx dy w hd).mono fun e w' ⟨he, hb⟩ => ⟨A, c, he, hr.below hb, hcn, hb⟩
  · rw [if_pos rfl]
    simp only [Bool.and_eq_true] at hd
    exact (lay_near W H hw hh px hpx A Ah Ar n c nh ch nr cr rs dx dy w hd.1 hd.2 hn hW hH hr hnh hhw hhh hrh hnr hrr hc).mono fun e w' ⟨A', he, hr', hb⟩ => ⟨A', n, he, hr', Nat.le_refl _, hb⟩

end Go.Proofs.YtdaedkolpfkdjaaGreat.Gr
end

section
namespace Go.Proofs.YtdaedkolpfkdjaaGreat
open Go.RowKit Go.Maps Go.Shelf

theorem gr_gat_lay {W H : Nat} {S : Nat → Nat → Option Int} {M : Nat → Nat → Bool} {px : List Int} (hl : px.length = W * H) {x y : Nat} (hx : x < W) (hy : y < H) :
    Gr.gat W H (Gr.lay W S M px) x y = if M x y then (S x y).getD (Gr.gat W H px x y) else Gr.gat W H px x y := by
  have hh : Gr.hasB W H x y = true := (Gr.has_iff _ _ _ _).2 (by omega)
  have hi := Gr.has_idx hh
  unfold Gr.gat
  rw [if_pos hh, if_pos hh]
  simp only [Int.toNat_natCast] at *
  rw [List.getD_eq_getElem?_getD, List.getD_eq_getElem?_getD, Gr.lay_get]
  obtain ⟨d1, d2⟩ := Gr.idx_div (W := W) (x := x) (y := y) hx
  rw [d1, d2]
  obtain ⟨q, hq⟩ : ∃ q, px[y * W + x]? = some q := ⟨_, List.getElem?_eq_getElem (by rw [hl]; exact hi)⟩
  rw [hq]
  simp
theorem gr_layR_len (W W2 H2 : Nat) (hpx : List Int) (dx dy : Int) (out : List RC) (px : List Int) : (Gr.layR W W2 H2 hpx dx dy out px).length = px.length := by
  unfold Gr.layR
  split
  · exact Gr.lay_len _ _ _ _
  · rfl
theorem gr_lay_at {W H W2 H2 : Nat} {hpx px : List Int} {out : List RC} {dx dy : Int} (hl : px.length = W * H) (hc : (Gr.coordB dx && Gr.coordB dy) = true) {x y : Nat} (hx : x < W) (hy : y < H) :
    Gr.gat W H (Gr.layR W W2 H2 hpx dx dy out px) x y = if inB out x y && Gr.hasB W2 H2 ((x : Int) - dx) ((y : Int) - dy) then Gr.gat W2 H2 hpx ((x : Int) - dx) ((y : Int) - dy) else Gr.gat W H px x y := by
  unfold Gr.layR
  rw [if_pos hc, gr_gat_lay hl hx hy]
  have : Gr.anyP out x y = inB out x y := by rw [Bool.eq_iff_iff, Gr.anyP_iff, inB_iff]
  rw [this]
  unfold Gr.layS
  cases inB out (x : Int) (y : Int)
  · simp
  · cases Gr.hasB W2 H2 ((x : Int) - dx) ((y : Int) - dy) <;> simp
theorem gat_out {W H : Nat} {px : List Int} {x y : Int} (h : Gr.hasB W H x y = false) : Gr.gat W H px x y = 0 := by
  unfold Gr.gat
  rw [h]
  rfl
/-- what an item has at a place of the root. -/
def scrI (cs : Its) (o : Int × Int) (i x y : Int) : Int := match cs i with
  | some it => Gr.gat it.W it.H it.px (x - o.1) (y - o.2)
  | none => 0
/-- the screen. -/
def scrP (RW RH : Nat) (ns : Nodes) (bx : Int → Option VB) (cs : Its) (x y : Int) : Int := if rectP RW RH x y then scrI cs (ogG ns bx (topN ns bx x y)) (topN ns bx x y) x y else 0
/-- the screen behind some windows. -/
structure ScrAt (RW RH W H : Nat) (ns : Nodes) (bx : Int → Option VB) (cs : Its) (l : List Int) (px : List Int) : Prop where
  len : px.length = W * H
  px : ∀ x y : Nat, x < W → y < H → Gr.gat W H px x y = if rectP RW RH x y = true ∧ topN ns bx x y ∈ l then scrI cs (ogG ns bx (topN ns bx x y)) (topN ns bx x y) x y else 0
section
variable {RW RH W H : Nat} {ns : Nodes} {bx : Int → Option VB} {cs : Its} {l px : List Int} {i : Int}
theorem ScrAt.start : ScrAt RW RH W H ns bx cs [] (List.replicate (W * H) 0) := ⟨by simp, fun x y hx hy => by
  rw [if_neg (by simp)]
  unfold Gr.gat
  split
  · rw [List.getD_eq_getElem?_getD, List.getElem?_replicate]
    split <;> rfl
  · rfl⟩
theorem ScrAt.skip (h : ScrAt RW RH W H ns bx cs l px) (hi : cs i = none ∨ ∀ x y, shG RW RH ns bx x y i = false) : ScrAt RW RH W H ns bx cs (l ++ [i]) px := ⟨h.len, fun x y hx hy => by
  rw [h.px x y hx hy]
  cases hr : rectP RW RH (x : Int) (y : Int) with
  | false => simp
  | true =>
    by_cases ht : topN ns bx (x : Int) (y : Int) = i
    · rcases hi with h0 | h0
      · have e : scrI cs (ogG ns bx (topN ns bx x y)) (topN ns bx x y) x y = 0 := by rw [ht]; unfold scrI; rw [h0]
        rw [e]
        split <;> split <;> rfl
      · have := h0 x y
        unfold shG at this
        rw [hr, ht] at this
        simp at this
    · have : (topN ns bx (x : Int) (y : Int) ∈ l ++ [i]) ↔ topN ns bx (x : Int) (y : Int) ∈ l := by
        rw [List.mem_append, List.mem_singleton]
        exact ⟨fun h => h.resolve_right ht, .inl⟩
      simp only [this]⟩
theorem ScrAt.lay (h : ScrAt RW RH W H ns bx cs l px) {it : IT} (hi : cs i = some it) {out : List RC} (hp : ∀ x y, inB out x y = shG RW RH ns bx x y i) (hc : (Gr.coordB (ogG ns bx i).1 && Gr.coordB (ogG ns bx i).2) = true) : ScrAt RW RH W H ns bx cs (l ++ [i]) (Gr.layR W it.W it.H it.px (ogG ns bx i).1 (ogG ns bx i).2 out px) := ⟨(gr_layR_len _ _ _ _ _ _ _ _).trans h.len, fun x y hx hy => by
  rw [gr_lay_at h.len hc hx hy, hp, h.px x y hx hy]
  unfold shG
  cases hr : rectP RW RH (x : Int) (y : Int) with
  | false => simp
  | true =>
    by_cases ht : topN ns bx (x : Int) (y : Int) = i
    · have e : scrI cs (ogG ns bx (topN ns bx x y)) (topN ns bx x y) x y = Gr.gat it.W it.H it.px ((x : Int) - (ogG ns bx i).1) ((y : Int) - (ogG ns bx i).2) := by rw [ht]; unfold scrI; rw [hi]
      rw [e]
      simp only [ht, Bool.true_and, decide_true, true_and, List.mem_append, List.mem_singleton, or_true, if_true]
      cases hh : Gr.hasB it.W it.H ((x : Int) - (ogG ns bx i).1) ((y : Int) - (ogG ns bx i).2) with
      | true => rfl
      | false => rw [gat_out hh]; simp
    · have h1 : decide (i = topN ns bx (x : Int) (y : Int)) = false := decide_eq_false fun e => ht e.symm
      have h2 : (topN ns bx (x : Int) (y : Int) ∈ l ++ [i]) ↔ topN ns bx (x : Int) (y : Int) ∈ l := by
        rw [List.mem_append, List.mem_singleton]
        exact ⟨fun h => h.resolve_right ht, .inl⟩
      simp only [h1, h2, Bool.and_false, Bool.false_and, Bool.false_eq_true, if_false]⟩
theorem top_ord (hn : TreeOk ns) (x y : Int) : topN ns bx x y ∈ ordW ns bx 1 := by
  obtain ⟨h1, h2⟩ := topF_vw (bx := bx) hn (belowAt ns 1).length 1 x y (hasN_root ns) (vw_root hn)
  unfold ordW
  exact List.mem_filter.2 ⟨(below_root hn).2 h1, h2⟩
theorem ScrAt.all (h : ScrAt RW RH W H ns bx cs (ordW ns bx 1) px) (hn : TreeOk ns) (x y : Nat) (hx : x < W) (hy : y < H) : Gr.gat W H px x y = scrP RW RH ns bx cs x y := by
  rw [h.px x y hx hy]
  unfold scrP
  simp only [top_ord hn, and_true]
end
theorem coordB_og {w : World} {v : Value} {RW RH : Nat} {ns : Nodes} {bx : Int → Option VB} {og : Int → Int × Int} (h : SeenG w v RW RH ns bx og) (hn : TreeOk ns) (i : Int) : (Gr.coordB (ogG ns bx i).1 && Gr.coordB (ogG ns bx i).2) = true := by
  rw [← h.og_eq hn]
  obtain ⟨A, n, c, mv, nm, f, hv⟩ := h.is
  obtain ⟨_, _, _, _, _, _, _, hb, _⟩ := hv.look i
  unfold Gr.coordB
  rw [Bool.and_eq_true, decide_eq_true_eq, decide_eq_true_eq]
  omega
/-- a view tells a window's place; and which there are. -/
theorem SeenG.origin {w : World} {v : Value} {RW RH : Nat} {ns : Nodes} {bx : Int → Option VB} {og : Int → Int × Int} (h : SeenG w v RW RH ns bx og) (hn : TreeOk ns) (i : Int) (hi : 0 ≤ i ∧ i ≤ 4294967295) :
    Calls Tryz.prog 97 #[v, .int .u32 i] w fun e w' => e = .returned (.tuple #[.agg #[.int .i64 (ogG ns bx i).1, .int .i64 (ogG ns bx i).2], .bool (hasN ns i && vw ns bx i)]) ∧ Below w.heap.size w w' := by
  have e := h.og_eq hn i
  obtain ⟨A, n, c, mv, nm, f, hv⟩ := h.is
  have := vorigin_any i hi hv
  rw [look_some hn, e] at this
  exact this
theorem SeenG.windows {w : World} {v : Value} {RW RH : Nat} {ns : Nodes} {bx : Int → Option VB} {og : Int → Int × Int} (h : SeenG w v RW RH ns bx og) :
    Calls Tryz.prog 26 #[v] w fun e w' => ∃ u, e = .returned u ∧ w'.ownsRow w.heap.size 48 1 u (ordW ns bx 1).length (U32 (ordW ns bx 1)) ∧ (∀ i ∈ ordW ns bx 1, 0 ≤ i ∧ i ≤ 4294967295) ∧ (ordW ns bx 1).length ≤ 1001 ∧ Below w.heap.size w w' := by
  obtain ⟨A, n, c, mv, nm, f, hv⟩ := h.is
  have hl : (ordW ns bx 1).length = n := by simpa [U32] using hv.order.1
  refine (vwindows_any hv).mono ?_
  rintro e w' ⟨u, rfl, ho, hb⟩
  rw [← hl] at ho
  exact ⟨u, rfl, ho, hv.ids, by rw [hl]; exact hv.few, hb⟩

end Go.Proofs.YtdaedkolpfkdjaaGreat
end

section
namespace Go.Proofs.YtdaedkolpfkdjaaGreat
open Go.RowKit Go.Maps Go.Shelf

section
variable {l : List DW} {RW RH : Int}
/-- the place in the window that is the topmost one at a place of a window. -/
def locD (l : List DW) : Nat → Int → Int → Int → Int × Int
  | 0, _, x, y => (x, y)
  | f + 1, p, x, y => if lastHit (hitW p x y) l.zipIdx < 0 then (x, y) else
      locD l f (lastHit (hitW p x y) l.zipIdx) (x - ((l[(lastHit (hitW p x y) l.zipIdx).toNat]?).map DW.X).getD 0) (y - ((l[(lastHit (hitW p x y) l.zipIdx).toNat]?).map DW.Y).getD 0)
theorem locD_no {f : Nat} {p x y : Int} (h : lastHit (hitW p x y) l.zipIdx < 0) : locD l (f + 1) p x y = (x, y) := by unfold locD; rw [if_pos h]
theorem locD_yes {f : Nat} {p x y : Int} {i : Nat} {d : DW} (h : lastHit (hitW p x y) l.zipIdx = (i : Int)) (hd : l[i]? = some d) : locD l (f + 1) p x y = locD l f i (x - d.X) (y - d.Y) := by
  show (if lastHit (hitW p x y) l.zipIdx < 0 then (x, y) else _) = _
  rw [if_neg (by omega), h, show ((i : Int)).toNat = i from by omega, hd]
  rfl
theorem locD_org (hu : UpOk l) : ∀ (f : Nat) (p x y : Int) (o : Int × Int), -1 ≤ p → orgN (nodesW l) (bxW RW RH l) (idW p) = o → locD l f p x y = (x + o.1 - (orgN (nodesW l) (bxW RW RH l) (idW (atD l f p x y))).1, y + o.2 - (orgN (nodesW l) (bxW RW RH l) (idW (atD l f p x y))).2)
  | 0, p, x, y, o, _, ho => by
    show (x, y) = (x + o.1 - (orgN (nodesW l) (bxW RW RH l) (idW p)).1, y + o.2 - (orgN (nodesW l) (bxW RW RH l) (idW p)).2)
    rw [ho, Prod.mk.injEq]
    omega
  | f + 1, p, x, y, o, hp, ho => by
    by_cases hh : lastHit (hitW p x y) l.zipIdx < 0
    · rw [locD_no hh, atD_no hh, ho, Prod.mk.injEq]
      omega
    · obtain ⟨i, d, e, hd, hit⟩ := lastHit_is hh
      have hP := hitW_up hit
      have hou := orgW (RW := RW) (RH := RH) hu hd
      rw [hP, ho] at hou
      rw [locD_yes e hd, atD_yes e hd, locD_org hu f i (x - d.X) (y - d.Y) _ (by omega) hou, Prod.mk.injEq]
      dsimp only
      omega
/-- has a window a place? -/
def hasD (l : List DW) (RW RH : Int) (p x y : Int) : Prop := (p = -1 ∧ (0 ≤ x ∧ x < RW) ∧ 0 ≤ y ∧ y < RH) ∨ ∃ (i : Nat) (d : DW), p = i ∧ l[i]? = some d ∧ d.has x y = true
theorem hasD_at : ∀ (f : Nat) (p x y : Int), hasD l RW RH p x y → hasD l RW RH (atD l f p x y) (locD l f p x y).1 (locD l f p x y).2
  | 0, _, _, _, h => h
  | f + 1, p, x, y, h => by
    by_cases hh : lastHit (hitW p x y) l.zipIdx < 0
    · rw [locD_no hh, atD_no hh]; exact h
    · obtain ⟨i, d, e, hd, hit⟩ := lastHit_is hh
      rw [locD_yes e hd, atD_yes e hd]
      unfold hitW at hit
      simp only [Bool.and_eq_true] at hit
      exact hasD_at f i _ _ (.inr ⟨i, d, rfl, hd, hit.2.2⟩)
theorem has_box {d : DW} {x y : Int} (h : d.has x y = true) : (0 ≤ x ∧ x < d.W) ∧ 0 ≤ y ∧ y < d.H := by
  unfold DW.has at h
  rw [Bool.and_eq_true, inB_iff] at h
  obtain ⟨⟨q, hq, h1⟩, _⟩ := h
  rw [List.mem_singleton] at hq
  subst hq
  dsimp only at h1
  omega
theorem rectP_iff {W H : Int} (x y : Int) : rectP W H x y = true ↔ (0 ≤ x ∧ x < W) ∧ 0 ≤ y ∧ y < H := by
  unfold rectP
  rw [inB_iff]
  constructor
  · rintro ⟨q, hq, h1⟩
    rw [List.mem_singleton] at hq
    subst hq
    dsimp only at h1
    omega
  · intro h
    exact ⟨_, List.mem_singleton_self _, by dsimp only; omega⟩
end
/-- the steps that a search down may take. -/
def F34 (l : List R34) : Nat := (belowAt (nodesW (dws l)) 1).length
/-- the document's topmost window at a place, and the place in it. -/
def topI (l : List R34) (x y : Int) : Int := atD (dws l) (F34 l) (-1) x y + 1
def topL (l : List R34) (x y : Int) : Int × Int := locD (dws l) (F34 l) (-1) x y
/-- the document's pixel there. -/
def pixAt (l : List R34) (i : Nat) (q : Int × Int) : Int := match l[i]? with
  | some d => d.px.getD (q.2.toNat * d.W + q.1.toNat) 0
  | none => 0
def pixD (l : List R34) (RW RH : Nat) (x y : Int) : Int := if rectP RW RH x y then pixAt l (topI l x y).toNat (topL l x y) else 0
/-- the grids of a canvas are the windows'. -/
def ItsOf (l : List R34) (cs : Its) : Prop := ∀ (j : Nat) (d : R34), l[j]? = some d → ∃ it : IT, cs (idW ((j : Int) - 1)) = some it ∧ it.W = d.W ∧ it.H = d.H ∧ it.px = d.px
section
variable {l : List R34} {RW RH : Nat} {cs : Its}
theorem dws_at {i : Nat} : (dws l)[i]? = (l[i + 1]?).map R34.dw := by
  unfold dws
  rw [List.getElem?_map, List.getElem?_tail]
theorem topI_bd (hu : UpR l) (hl : 1 ≤ l.length) (x y : Int) : 0 ≤ topI l x y ∧ topI l x y < (l.length : Int) := by
  have := atD_bd hu.upOk (F34 l) (-1) x y (by omega) (by omega)
  rw [dws_lenI hl] at this
  unfold topI
  omega
/-- the topmost window's place lies in it. -/
theorem topL_in (_hu : UpR l) {r : R34} (hr : l[0]? = some r) (hW : r.W = RW ∧ r.H = RH) {x y : Int} (hxy : rectP RW RH x y = true) : ∃ d, l[(topI l x y).toNat]? = some d ∧ (0 ≤ (topL l x y).1 ∧ (topL l x y).1 < d.W) ∧ 0 ≤ (topL l x y).2 ∧ (topL l x y).2 < d.H := by
  have h := hasD_at (l := dws l) (RW := RW) (RH := RH) (F34 l) (-1) x y (.inl ⟨rfl, (rectP_iff x y).1 hxy⟩)
  rcases h with ⟨h1, h2⟩ | ⟨i, d, h1, h2, h3⟩
  · refine ⟨r, ?_, ?_⟩
    · unfold topI
      rw [h1]
      exact hr
    · rw [hW.1, hW.2]
      exact h2
  · rw [dws_at] at h2
    cases hd : l[i + 1]? with
    | none => rw [hd] at h2; cases h2
    | some e =>
      rw [hd] at h2
      have e0 : e.dw = d := by simpa using h2
      subst e0
      refine ⟨e, ?_, has_box h3⟩
      unfold topI
      rw [h1, show ((i : Int) + 1).toNat = i + 1 from by omega]
      exact hd
/-- the screen is the document's. -/
theorem scr_doc (hu : UpR l) {r : R34} (hr : l[0]? = some r) (hW : r.W = RW ∧ r.H = RH) (hc : ItsOf l cs) (x y : Int) : scrP RW RH (nodesW (dws l)) (bxW RW RH (dws l)) cs x y = pixD l RW RH x y := by
  unfold scrP pixD
  cases hxy : rectP RW RH x y with
  | false => rfl
  | true =>
    rw [if_pos rfl, if_pos rfl]
    have hl : 1 ≤ l.length := by
      have := (List.getElem?_eq_some_iff.1 hr).1
      omega
    have hok := nodesW_ok hu.upOk
    have e := atD_root (RW := RW) (RH := RH) hu.upOk x y
    have hb := topI_bd hu hl x y
    obtain ⟨d, hd, hq⟩ := topL_in hu hr hW hxy
    obtain ⟨it, h1, h2, h3, h4⟩ := hc _ d hd
    have ei : (((topI l x y).toNat : Int) - 1) = atD (dws l) (F34 l) (-1) x y := by
      unfold topI at hb ⊢
      omega
    rw [ei] at h1
    have e' : idW (atD (dws l) (F34 l) (-1) x y) = topN (nodesW (dws l)) (bxW RW RH (dws l)) x y := e
    rw [e'] at h1
    unfold scrI pixAt
    rw [h1, hd]
    dsimp only
    rw [h2, h3, h4]
    have ho : ogG (nodesW (dws l)) (bxW RW RH (dws l)) (topN (nodesW (dws l)) (bxW RW RH (dws l)) x y) = orgN (nodesW (dws l)) (bxW RW RH (dws l)) (topN (nodesW (dws l)) (bxW RW RH (dws l)) x y) := by
      unfold ogG
      have h5 := look_some (bx := bxW RW RH (dws l)) hok (rectP RW RH) (topN (nodesW (dws l)) (bxW RW RH (dws l)) x y)
      rw [top_look hok] at h5
      rw [← h5]
      rfl
    have hloc := locD_org (RW := RW) (RH := RH) hu.upOk (F34 l) (-1) x y (0, 0) (by omega) (orgN_root hok)
    rw [e'] at hloc
    rw [ho]
    have hq' : topL l x y = (x - (orgN (nodesW (dws l)) (bxW RW RH (dws l)) (topN (nodesW (dws l)) (bxW RW RH (dws l)) x y)).1, y - (orgN (nodesW (dws l)) (bxW RW RH (dws l)) (topN (nodesW (dws l)) (bxW RW RH (dws l)) x y)).2) := by
      unfold topL
      rw [hloc, Prod.mk.injEq]
      dsimp only
      omega
    rw [hq'] at hq ⊢
    dsimp only at hq ⊢
    unfold Gr.gat
    rw [if_pos ((Gr.has_iff _ _ _ _).2 (by omega))]
end
end Go.Proofs.YtdaedkolpfkdjaaGreat
end

section
namespace Go.Proofs.YtdaedkolpfkdjaaGreat
open Go.RowKit Go.Maps Go.Shelf

section
variable {l : List DW}
theorem atD_fuel1 (hu : UpOk l) : ∀ (f : Nat) (p x y : Int), -1 ≤ p → p < (l.length : Int) → (l.length : Int) - p ≤ f → atD l (f + 1) p x y = atD l f p x y ∧ locD l (f + 1) p x y = locD l f p x y
  | 0, p, x, y, h1, h2, h3 => by omega
  | f + 1, p, x, y, h1, h2, h3 => by
    by_cases hh : lastHit (hitW p x y) l.zipIdx < 0
    · rw [atD_no hh, atD_no hh, locD_no hh, locD_no hh]; exact ⟨rfl, rfl⟩
    · obtain ⟨i, q, ei, hq, hit⟩ := lastHit_is hh
      have hP := hitW_up hit
      have hui := hu i q hq
      have hil := (List.getElem?_eq_some_iff.1 hq).1
      rw [atD_yes ei hq, atD_yes ei hq, locD_yes ei hq, locD_yes ei hq]
      exact atD_fuel1 hu f i _ _ (by omega) (by omega) (by omega)
theorem atD_fuel (hu : UpOk l) {f : Nat} {p : Int} (x y : Int) (h1 : -1 ≤ p) (h2 : p < (l.length : Int)) (h3 : (l.length : Int) - p ≤ f) : ∀ g : Nat, f ≤ g → atD l g p x y = atD l f p x y ∧ locD l g p x y = locD l f p x y := fun g hg => by
  induction g with
  | zero => rw [show f = 0 from by omega]; exact ⟨rfl, rfl⟩
  | succ g ih =>
    by_cases h : f ≤ g
    · have h4 := ih h
      have h5 := atD_fuel1 hu g p x y h1 h2 (by omega)
      rw [h5.1, h5.2]
      exact h4
    · rw [show f = g + 1 from by omega]; exact ⟨rfl, rfl⟩
end
def DW.strip (d : DW) : DW := { d with A := none, n := 0, c := 0 }
def R34.strip (d : R34) : R34 := { d with A := none, n := 0, c := 0, Ap := none, np := 0, cp := 0 }
section
variable {l : List R34}
theorem UpR.strip (h : UpR l) : UpR (l.map R34.strip) := fun j d hd hj => by
  rw [List.getElem?_map] at hd
  cases he : l[j]? with
  | none => rw [he] at hd; cases hd
  | some e =>
    rw [he] at hd
    have e0 : e.strip = d := by simpa using hd
    subst e0
    exact h j e he hj
/-- any steps that are enough. -/
theorem topI_fuel (hu : UpR l) (hl : 1 ≤ l.length) (x y : Int) : topI l x y = atD (dws l) l.length (-1) x y + 1 ∧ topL l x y = locD (dws l) l.length (-1) x y := by
  have h1 := below_lenW hu.upOk
  have h2 := dws_lenI hl
  have h3 : (dws l).length + 1 = l.length := by rw [dws_len]; omega
  have := atD_fuel hu.upOk (f := l.length) (p := -1) x y (by omega) (by omega) (by omega) (F34 l) (by unfold F34; omega)
  unfold topI topL
  rw [this.1, this.2]
  exact ⟨rfl, rfl⟩
end
/-- grids whose pixels are the same. -/
theorem px_ext {W H : Nat} {p q : List Int} (hp : p.length = W * H) (hq : q.length = W * H) (h : ∀ x y : Nat, x < W → y < H → Gr.gat W H p x y = Gr.gat W H q x y) : p = q := by
  apply List.ext_getElem (by omega)
  intro i h1 h2
  have hW : 0 < W := by
    rcases Nat.eq_zero_or_pos W with h0 | h0
    · rw [h0, Nat.zero_mul] at hp; omega
    · exact h0
  have hx : i % W < W := Nat.mod_lt _ hW
  have hy : i / W < H := Nat.div_lt_of_lt_mul (show i < W * H by rw [← hp]; exact h1)
  have := h (i % W) (i / W) hx hy
  unfold Gr.gat at this
  have hb : Gr.hasB W H ((i % W : Nat) : Int) ((i / W : Nat) : Int) = true := (Gr.has_iff _ _ _ _).2 ⟨Int.natCast_nonneg _, Int.ofNat_lt.2 hx, Int.natCast_nonneg _, Int.ofNat_lt.2 hy⟩
  rw [if_pos hb, if_pos hb] at this
  simp only [Int.toNat_natCast] at this
  rw [show i / W * W + i % W = i from by have := Nat.div_add_mod i W; rw [Nat.mul_comm]; exact this, List.getD_eq_getElem?_getD, List.getD_eq_getElem?_getD, List.getElem?_eq_getElem h1, List.getElem?_eq_getElem h2] at this
  simpa using this
end Go.Proofs.YtdaedkolpfkdjaaGreat
end

section
namespace Go.Proofs.YtdaedkolpfkdjaaGreat
open Go.RowKit Go.Maps Go.Shelf

/-- is a place one of a rectangle's? -/
def oneB (r : RC) (x y : Int) : Bool := decide (r.X ≤ x) && decide (x < r.X + r.W) && decide (r.Y ≤ y) && decide (y < r.Y + r.H)
theorem oneB_iff (r : RC) (x y : Int) : oneB r x y = true ↔ r.X ≤ x ∧ x < r.X + r.W ∧ r.Y ≤ y ∧ y < r.Y + r.H := by
  unfold oneB
  simp only [Bool.and_eq_true, decide_eq_true_eq]
  omega
theorem inB_snoc {l : List RC} {k : Nat} {r : RC} (h : l[k]? = some r) (x y : Int) : inB (l.take (k + 1)) x y = (inB (l.take k) x y || oneB r x y) := by
  rw [Bool.eq_iff_iff, Bool.or_eq_true, inB_iff, inB_iff, oneB_iff, take_snocI' h]
  unfold InR
  constructor
  · rintro ⟨q, hq, hh⟩
    rcases List.mem_append.1 hq with h1 | h1
    · exact .inl ⟨q, h1, hh⟩
    · obtain rfl := List.mem_singleton.1 h1
      exact .inr hh
  · rintro (⟨q, hq, hh⟩ | hh)
    · exact ⟨q, List.mem_append_left _ hq, hh⟩
    · exact ⟨r, by simp, hh⟩
def smallR (r : RC) : Prop := ((0 ≤ r.X ∧ r.X ≤ 50) ∧ 0 ≤ r.Y ∧ r.Y ≤ 50) ∧ (0 ≤ r.W ∧ r.W ≤ 50) ∧ 0 ≤ r.H ∧ r.H ≤ 50
theorem has_of {d : DW} {x y : Int} : d.has x y = ((decide (0 ≤ x) && decide (0 ≤ y) && decide (x < d.W) && decide (y < d.H)) && (!d.S || inB d.sh x y)) := by
  unfold DW.has
  congr 1
  rw [Bool.eq_iff_iff, inB_rect]
  simp only [Bool.and_eq_true, decide_eq_true_eq]
  omega
end Go.Proofs.YtdaedkolpfkdjaaGreat
end

section
namespace Go.Proofs.YtdaedkolpfkdjaaGreat
open Go.RowKit Go.Maps Go.Shelf

theorem zip_at {l : List DW} {k : Nat} {d : DW} (h : l[k]? = some d) : l.zipIdx[k]? = some (d, k) := by
  rw [List.getElem?_zipIdx, h]
  simp
theorem lastHit_take {hit : DW × Nat → Bool} {l : List DW} {k : Nat} {d : DW} (h : l[k]? = some d) : lastHit hit (l.zipIdx.take (k + 1)) = if hit (d, k) then (k : Int) else lastHit hit (l.zipIdx.take k) := by
  rw [take_snocI' (zip_at h), lastHit_snoc]
/-- what is told below a window of the first k windows. -/
def blwT (l : List DW) (f : Nat) (p : Int) (k : Nat) : List Int := ((l.zipIdx.take k).filter (fun q => decide (q.1.P = p) && q.1.M)).flatMap fun q => blwD l f q.2
end Go.Proofs.YtdaedkolpfkdjaaGreat
end

section
namespace Go.Proofs.YtdaedkolpfkdjaaGreat
open Go.RowKit Go.Maps Go.Shelf

theorem has34_of (d : R34) (x y : Int) : d.dw.has x y = (((!decide (x < 0) && !decide ((d.W : Int) ≤ x)) && (!decide (y < 0) && !decide ((d.H : Int) ≤ y))) && (!d.S || inB d.sh x y)) := by
  rw [has_of]
  congr 1
  rw [Bool.eq_iff_iff]
  simp only [Bool.and_eq_true, decide_eq_true_eq, Bool.not_eq_true', decide_eq_false_iff_not]
  constructor
  · rintro ⟨⟨⟨a, b⟩, c⟩, e⟩
    have c' : x < (d.W : Int) := c
    have e' : y < (d.H : Int) := e
    exact ⟨⟨by omega, by omega⟩, by omega, by omega⟩
  · rintro ⟨⟨a, b⟩, c, e⟩
    exact ⟨⟨⟨by omega, by omega⟩, show x < (d.W : Int) by omega⟩, show y < (d.H : Int) by omega⟩
theorem oneB_of (r : RC) (x y : Int) : oneB r x y = ((decide (r.X ≤ x) && decide (x < r.X + r.W)) && (decide (r.Y ≤ y) && decide (y < r.Y + r.H))) := by
  unfold oneB
  rw [Bool.and_assoc]
set_option maxRecDepth 100000 in
set_option maxHeartbeats 4000000 in
theorem in34_any (d : R34) (x y : Int) (w : World) (hd : DWok d.dw) (hs : RdR w d.A d.n d.sh) :
    Calls Tryz.prog 105 #[.agg #[.int .i64 d.U, .int .i64 d.X, .int .i64 d.Y, .int .i64 d.W, .int .i64 d.H, .bool d.M, .bool d.S, .slice d.A d.n d.c, .slice d.Ap d.np d.cp], .int .i64 x, .int .i64 y] w fun e w' => e = .returned (.bool (d.dw.has x y)) ∧ Below w.heap.size w w' := by
  have t : decide (x < 0) = true ∨ (decide (x < 0) = false ∧ (decide ((d.W : Int) ≤ x) = true ∨ (decide ((d.W : Int) ≤ x) = false ∧ (decide (y < 0) = true ∨ (decide (y < 0) = false ∧ (decide ((d.H : Int) ≤ y) = true ∨ decide ((d.H : Int) ≤ y) = false)))))) := by
    simp only [decide_eq_true_eq, decide_eq_false_iff_not]; omega
  have HV := Lib.hid (has34_of d x y)
  have hb := bal (bre w) (.cells #[.int .i64 d.U, .int .i64 d.X, .int .i64 d.Y, .int .i64 d.W, .int .i64 d.H, .bool d.M, .bool d.S, .slice d.A d.n d.c, .slice d.Ap d.np d.cp] 88)
  have hk := Blk.new w 88 #[.int .i64 d.U, .int .i64 d.X, .int .i64 d.Y, .int .i64 d.W, .int .i64 d.H, .bool d.M, .bool d.S, .slice d.A d.n d.c, .slice d.Ap d.np d.cp]
  have HB := Lib.hid hb
  have HS := Lib.hid (hs.below hb)
  have HK := Lib.hid hk
  have HSM := Lib.hid (show ∀ r ∈ d.sh, (-1000 ≤ r.X ∧ r.X ≤ 1000) ∧ (-1000 ≤ r.Y ∧ r.Y ≤ 1000) ∧ (-1000 ≤ r.W ∧ r.W ≤ 1000) ∧ -1000 ≤ r.H ∧ r.H ≤ 1000 from fun r hr => by have := hd.sh r hr; omega)
  have HN := Lib.hid (show d.sh.length = d.n ∧ d.n ≤ 1000000000 by
    have h1 := hs.1
    have h2 : d.sh.length ≤ 12 := hd.few
    omega)
  clear hb hk hs hd
  rcases t with h1 | ⟨h1, h2 | ⟨h2, h3 | ⟨h3, h4 | h4⟩⟩⟩
  case inr.inr.inr.inr =>
    cases hS : d.S with
    | false =>
      have HV2 := Lib.hid (show d.dw.has x y = true by rw [HV.out, h1, h2, h3, h4, hS]; rfl)
      have hb := HB.out
      rw [hS] at hb
      have HB2 := Lib.hid hb
      clear HB HK HS HV hb
      go_enter Tryz.func105, Tryz.ntmps105
      go_wp2_with fail
      go_ret
      rw [HV2.out]
      exact ⟨rfl, HB2.out⟩
    | true =>
      have HV2 := Lib.hid (show d.dw.has x y = inB d.sh x y by rw [HV.out, h1, h2, h3, h4, hS]; rfl)
      have hb := HB.out
      have hk := HK.out
      have hs := HS.out
      rw [hS] at hb hk hs
      clear HB HK HS HV
      obtain ⟨n, hn⟩ : ∃ n, d.n = n := ⟨_, rfl⟩
      obtain ⟨A, hA⟩ : ∃ A, d.A = A := ⟨_, rfl⟩
      obtain ⟨c, hc⟩ : ∃ c, d.c = c := ⟨_, rfl⟩
      obtain ⟨rs, hrs⟩ : ∃ rs, d.sh = rs := ⟨_, rfl⟩
      have hnn := HN.out
      have hsm := HSM.out
      have hv2 := HV2.out
      rw [hn, hA, hc] at hb hk hs
      rw [hrs] at hs hnn hsm hv2
      rw [hn] at hnn
      rw [hn, hA, hc, hv2]
      have HSH := Lib.hid hs
      have HSL := Lib.hid hsm
      have HLN := Lib.hid hnn
      clear HV2 HSM HN hn hA hc hrs hs hsm hnn hv2
      go_enter Tryz.func105, Tryz.ntmps105
      go_upto_region 1 with fail
      obtain ⟨X, hX⟩ : ∃ X, w.alloc (.cells #[.int .i64 d.U, .int .i64 d.X, .int .i64 d.Y, .int .i64 d.W, .int .i64 d.H, .bool d.M, .bool true, .slice A n c, .slice d.Ap d.np d.cp] 88) = X := ⟨_, rfl⟩
      have hsh := HSH.out
      rw [hX] at hb hk hsh ⊢
      replace HSH := Lib.hid hsh
      have HB := Lib.hid hb
      have HK := Lib.hid hk
      have c3 := hk.cellV (i := 3) (v := .int .i64 d.W) rfl
      have c4 := hk.cellV (i := 4) (v := .int .i64 d.H) rfl
      have c6 := hk.cellV (i := 6) (v := .bool true) rfl
      clear hb hk hsh hX
      go_wp2_with fail
      go_loopw [7, 8] (fun i _ wr => ∃ k : Nat, i = .int .i64 k ∧ k ≤ n ∧ inB (rs.take k) x y = false ∧ Below X.heap.size X wr) (fun i _ _ => n - (intOf i).toNat)
      case atStart => exact ⟨0, rfl, by omega, by simp [inB], bre X⟩
      case round =>
        obtain ⟨k, rfl, hk, hcv, hB⟩ := hrel
        have HBX := Lib.hid hB
        have HCV := Lib.hid hcv
        have c7 := (HK.out.belowS hB).cellV (i := 7) (v := .slice A n c) rfl
        by_cases hlt : k < n
        · obtain ⟨r, hr⟩ : ∃ r, rs[k]? = some r := ⟨_, List.getElem?_eq_getElem (by have := HLN.out.1; omega)⟩
          obtain ⟨b, off, rfl, hbl, hcl⟩ := (HSH.out.below hB).2 (by omega)
          obtain ⟨q0, q1, q2, q3⟩ := hcl k r hr
          have HT := Lib.hid (inB_snoc hr x y)
          have hsm := HSL.out r (List.mem_of_getElem? hr)
          have wX : IntKind.i64.wrap (r.X + r.W) = r.X + r.W := IntWalk.i64_in _ (by omega)
          have wY : IntKind.i64.wrap (r.Y + r.H) = r.Y + r.H := IntWalk.i64_in _ (by omega)
          have hn9 : n ≤ 1000000000 := HLN.out.2
          have k1 : (k : Int) < (n : Int) := by omega
          have k0 : (0 : Int) ≤ (k : Int) := by omega
          have HO := Lib.hid (oneB_of r x y)
          have hin : ∀ (h : oneB r x y = true), inB rs x y = true := fun h => by
            have h1 : inB (rs.take (k + 1)) x y = true := by rw [HT.out, h, Bool.or_true]
            rw [inB_iff] at h1 ⊢
            obtain ⟨q, hq, h2⟩ := h1
            exact ⟨q, List.mem_of_mem_take hq, h2⟩
          have HIN := Lib.hid hin
          have t2 : decide (r.X ≤ x) = false ∨ (decide (r.X ≤ x) = true ∧ (decide (x < r.X + r.W) = false ∨ (decide (x < r.X + r.W) = true ∧ (decide (r.Y ≤ y) = false ∨ (decide (r.Y ≤ y) = true ∧ (decide (y < r.Y + r.H) = false ∨ decide (y < r.Y + r.H) = true)))))) := by
            simp only [decide_eq_true_eq, decide_eq_false_iff_not]; omega
          clear hB hr hcl hcv hsm hin c3 c4 c6 h1 h2 h3 h4
          rcases t2 with g1 | ⟨g1, g2 | ⟨g2, g3 | ⟨g3, g4 | g4⟩⟩⟩
          case inr.inr.inr.inr =>
            as_aux_lemma =>
              have hall := HIN.out (by rw [HO.out, g1, g2, g3, g4]; rfl)
              have HA := Lib.hid hall
              clear hall
              go_wp2_with fail
              go_ret
              exact ⟨ret_bool HA.out.symm, bal (bstep HB.out HBX.out) _⟩
          all_goals
            have hno : oneB r x y = false := by rw [HO.out]; simp only [*, Bool.false_and, Bool.and_false, Bool.true_and]
            have HNO := Lib.hid hno
            clear hno
            go_wp2_with fail
            go_roundw
            case rel => exact ⟨k + 1, by go_num, by omega, by rw [HT.out, HCV.out, HNO.out]; rfl, bal HBX.out _⟩
            case measure => simp [intOf]; omega
        · obtain rfl : k = n := by omega
          have HA := Lib.hid (show inB rs x y = false by rw [← hcv, List.take_of_length_le (by rw [HLN.out.1]; exact Nat.le_refl _)])
          clear hB hcv
          go_wp2_with fail
          go_ret
          exact ⟨ret_bool HA.out.symm, bstep HB.out HBX.out⟩
  all_goals
    have HV2 := Lib.hid (show d.dw.has x y = false by rw [HV.out]; simp only [*, Bool.not_true, Bool.not_false, Bool.false_and, Bool.and_false, Bool.true_and])
    clear HK HS HV
    go_enter Tryz.func105, Tryz.ntmps105
    go_wp2_with fail
    go_ret
    rw [HV2.out]
    exact ⟨rfl, HB.out⟩
end Go.Proofs.YtdaedkolpfkdjaaGreat
end
