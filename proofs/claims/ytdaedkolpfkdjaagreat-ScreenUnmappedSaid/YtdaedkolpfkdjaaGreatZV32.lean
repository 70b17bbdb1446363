/-
  The walk of a grid's Lay.
  What screen.Show shows, place by place.
  The document's screen, plainly: the topmost window at a place, and the place in it.
-/
import Derived.Test.YtdaedkolpfkdjaaGreatZV31
import Derived.Test.YtdaedkolpfkdjaaGreatZV27
import Derived.Test.YtdaedkolpfkdjaaGreatZV26
import Derived.Test.YtdaedkolpfkdjaaGreatZV28
section
namespace Go.Proofs.YtdaedkolpfkdjaaGreat.Gr
open Go.RowKit Go.Shelf

theorem lay_do (W H n bh bx by' bo gp hw hh nh ch : Nat) (Ah : Option Addr) (hpx : List Int) (dx dy : Int) (px : List Int) (hW : W ≤ 128) (hH : H ≤ 128) (hn : n = W * H) (hl : px.length = n) (hhw : hw ≤ 128) (hhh : hh ≤ 128) (hnh : nh = hw * hh) (hdx : -1048576 ≤ dx ∧ dx ≤ 1048576) (hdy : -1048576 ≤ dy ∧ dy ≤ 1048576)
    (h1 : bh ≠ gp) (h2 : bx ≠ gp) (h3 : by' ≠ gp) (h4 : bo ≠ gp) (hA : 0 < nh → ∀ a, Ah = some a → a.block ≠ gp) :
    DoFn 157 #[.pointer (some ⟨bh, 0, none⟩), .pointer (some ⟨bx, 0, none⟩), .pointer (some ⟨by', 0, none⟩), .pointer (some ⟨bo, 0, none⟩)] (LayK W H n bh bx by' bo gp hw hh nh ch Ah hpx dx dy) W H gp (layS hw hh hpx dx dy) px :=
  fun M y a b yi ai bi w e1 e2 e3 hy hab hb hk hg => lay1_any W H n bh bx by' bo gp hw hh nh ch Ah hpx dx dy a b y yi ai bi M px w e1 e2 e3 hW hH hn hl hy hab hb hhw hhh hnh hdx hdy hk hg h1 h2 h3 h4 hA

set_option maxRecDepth 100000 in
set_option maxHeartbeats 2000000 in
theorem lay_far (W H hw hh : Int) (A Ah Ar : Option Addr) (n c nh ch nr cr : Nat) (dx dy : Int) (w : World) (hd : (coordB dx && coordB dy) = false) :
    Calls Tryz.prog 98 #[.agg #[.int .i64 W, .int .i64 H, .slice A n c], .agg #[.int .i64 hw, .int .i64 hh, .slice Ah nh ch], .int .i64 dx, .int .i64 dy, .agg #[.slice Ar nr cr]] w fun e w' => e = .returned (.agg #[.int .i64 W, .int .i64 H, .slice A n c]) ∧ Below w.heap.size w w' := by
  have hb := bal (bal (bal (bal (bal (bal (bre w) (.cells #[.int .i64 W, .int .i64 H, .slice A n c] 75)) (.cells #[.int .i64 hw, .int .i64 hh, .slice Ah nh ch] 75)) (.cells #[.int .i64 dx] 3)) (.cells #[.int .i64 dy] 3)) (.cells #[.slice Ar nr cr] 57)) (.cells #[.int .i64 W, .int .i64 H, .slice A n c] 75)
  have HB := Lib.hid hb
  clear hb
  cases h1 : coordB dx
  · clear hd
    go_enter Tryz.func98, Tryz.ntmps98
    go_wp2_with (go_at_call 103; refine (coord_any _ _).mono ?_; rintro e w' ⟨rfl, rfl⟩)
    exact bodyPost_ret (v := .agg #[.int .i64 W, .int .i64 H, .slice A n c]) (by simp [results, Tryz.results98, go_sem]) rfl ⟨rfl, HB.out⟩
  · have h2 : coordB dy = false := by simpa [h1] using hd
    clear hd
    go_enter Tryz.func98, Tryz.ntmps98
    go_wp2_with (go_at_call 103; refine (coord_any _ _).mono ?_; rintro e w' ⟨rfl, rfl⟩)
    exact bodyPost_ret (v := .agg #[.int .i64 W, .int .i64 H, .slice A n c]) (by simp [results, Tryz.results98, go_sem]) rfl ⟨rfl, HB.out⟩

set_option maxRecDepth 100000 in
set_option maxHeartbeats 4000000 in
theorem lay_near (W H hw hh : Nat) (px hpx : List Int) (A Ah Ar : Option Addr) (n c nh ch nr cr : Nat) (rs : List RC) (dx dy : Int) (w : World) (h1 : coordB dx = true) (h2 : coordB dy = true) (hn : n = W * H) (hW : W ≤ 128) (hH : H ≤ 128) (hr : Rd w A n (U8 px)) (hnh : nh = hw * hh) (hhw : hw ≤ 128) (hhh : hh ≤ 128) (hrh : Rd w Ah nh (U8 hpx)) (hnr : nr ≤ 1000000000000) (hrr : RdR w Ar nr rs) (hc : ∀ r ∈ rs, r.cnt = true) :
    Calls Tryz.prog 98 #[.agg #[.int .i64 W, .int .i64 H, .slice A n c], .agg #[.int .i64 hw, .int .i64 hh, .slice Ah nh ch], .int .i64 dx, .int .i64 dy, .agg #[.slice Ar nr cr]] w fun e w' => ∃ A', e = .returned (.agg #[.int .i64 W, .int .i64 H, .slice A' n n]) ∧ Rd w' A' n (U8 (lay W (layS hw hh hpx dx dy) (anyP rs) px)) ∧ Below w.heap.size w w' := by
  have hnm := mul_le_128 hW hH
  rw [← hn] at hnm
  have hl : px.length = n := by have := hr.1; simpa [U8] using this
  have hdx : -1048576 ≤ dx ∧ dx ≤ 1048576 := by simpa [coordB] using h1
  have hdy : -1048576 ≤ dy ∧ dy ≤ 1048576 := by simpa [coordB] using h2
  have hAh : 0 < nh → ∀ a, Ah = some a → a.block < w.heap.size := fun h0 a e => hrh.lt h0 a e
  have HN := Lib.hid hn
  have HNH := Lib.hid hnh
  have HR := Lib.hid hr
  have HRH := Lib.hid hrh
  have HRR := Lib.hid hrr
  have HC := Lib.hid hc
  have HL := Lib.hid hl
  have HDX := Lib.hid hdx
  have HDY := Lib.hid hdy
  have HAH := Lib.hid hAh
  clear hr hn hrr hc hl hrh hnh hdx hdy hAh
  go_enter Tryz.func98, Tryz.ntmps98
  have p1 := Blk.new (w.alloc (.cells #[.int .i64 W, .int .i64 H, .slice A n c] 75)) 75 #[.int .i64 hw, .int .i64 hh, .slice Ah nh ch]
  have p2 := Blk.new ((w.alloc (.cells #[.int .i64 W, .int .i64 H, .slice A n c] 75)).alloc (.cells #[.int .i64 hw, .int .i64 hh, .slice Ah nh ch] 75)) 3 #[.int .i64 dx]
  have p3 := Blk.new (((w.alloc (.cells #[.int .i64 W, .int .i64 H, .slice A n c] 75)).alloc (.cells #[.int .i64 hw, .int .i64 hh, .slice Ah nh ch] 75)).alloc (.cells #[.int .i64 dx] 3)) 3 #[.int .i64 dy]
  have p4 := Blk.new ((((w.alloc (.cells #[.int .i64 W, .int .i64 H, .slice A n c] 75)).alloc (.cells #[.int .i64 hw, .int .i64 hh, .slice Ah nh ch] 75)).alloc (.cells #[.int .i64 dx] 3)).alloc (.cells #[.int .i64 dy] 3)) 57 #[.slice Ar nr cr]
  have p5 := Blk.new (((((w.alloc (.cells #[.int .i64 W, .int .i64 H, .slice A n c] 75)).alloc (.cells #[.int .i64 hw, .int .i64 hh, .slice Ah nh ch] 75)).alloc (.cells #[.int .i64 dx] 3)).alloc (.cells #[.int .i64 dy] 3)).alloc (.cells #[.slice Ar nr cr] 57)) 75 #[.int .i64 0, .int .i64 0, .slice none 0 0]
  have b0 := bal (bal (bal (bal (bal (bal (bre w) (.cells #[.int .i64 W, .int .i64 H, .slice A n c] 75)) (.cells #[.int .i64 hw, .int .i64 hh, .slice Ah nh ch] 75)) (.cells #[.int .i64 dx] 3)) (.cells #[.int .i64 dy] 3)) (.cells #[.slice Ar nr cr] 57)) (.cells #[.int .i64 0, .int .i64 0, .slice none 0 0] 75)
  simp only [World.size_alloc] at p1 p2 p3 p4 p5
  have q1 := (((p1.alloc (.cells #[.int .i64 dx] 3)).alloc (.cells #[.int .i64 dy] 3)).alloc (.cells #[.slice Ar nr cr] 57)).alloc (.cells #[.int .i64 0, .int .i64 0, .slice none 0 0] 75)
  have q2 := ((p2.alloc (.cells #[.int .i64 dy] 3)).alloc (.cells #[.slice Ar nr cr] 57)).alloc (.cells #[.int .i64 0, .int .i64 0, .slice none 0 0] 75)
  have q3 := (p3.alloc (.cells #[.slice Ar nr cr] 57)).alloc (.cells #[.int .i64 0, .int .i64 0, .slice none 0 0] 75)
  have q4 := p4.alloc (.cells #[.int .i64 0, .int .i64 0, .slice none 0 0] 75)
  have HB0 := Lib.hid b0
  have HQ1 := Lib.hid q1
  have HQ2 := Lib.hid q2
  have HQ3 := Lib.hid q3
  have HQ4 := Lib.hid q4
  have HQ5 := Lib.hid p5
  clear b0 p1 p2 p3 p4 p5 q1 q2 q3 q4
  go_upto_region 4 with (first
    | (go_at_call 103; refine (coord_any _ _).mono ?_; rintro e w' ⟨rfl, rfl⟩)
    | (go_at_call 100; refine (twin_any _ _ _ _ _ px _ hnm (HR.out.below HB0.out)).mono ?_; rintro e w1 ⟨g, rfl, hown, hb1⟩; have HO := Lib.hid hown; have HB1 := Lib.hid hb1; have z1 := hb1.size; simp only [World.size_alloc] at z1; clear hown hb1))
  obtain ⟨hge, hpx⟩ := own_blk HO.out
  simp only [World.size_alloc] at hge
  have hgl := hpx.lt
  have bX := bal (bre w1) (.cells #[.int .i64 W, .int .i64 H, .slice (some ⟨g, 0, none⟩) n n] 75)
  have hbx := Blk.new w1 75 #[.int .i64 W, .int .i64 H, .slice (some ⟨g, 0, none⟩) n n]
  have k1 := (HQ1.out.belowS HB1.out).belowS bX
  have k2 := (HQ2.out.belowS HB1.out).belowS bX
  have k3 := (HQ3.out.belowS HB1.out).belowS bX
  have k4 := (HQ4.out.belowS HB1.out).belowS bX
  have k5 := (HQ5.out.belowS HB1.out).belowS bX
  have hpx2 := hpx.belowS bX
  have hBX : Below w.heap.size w (w1.alloc (.cells #[.int .i64 W, .int .i64 H, .slice (some ⟨g, 0, none⟩) n n] 75)) := bstep (bstep HB0.out HB1.out) bX
  obtain ⟨X, hX⟩ : ∃ X, w1.alloc (.cells #[.int .i64 W, .int .i64 H, .slice (some ⟨g, 0, none⟩) n n] 75) = X := ⟨_, rfl⟩
  obtain ⟨B, hB⟩ : ∃ B, w1.heap.size = B := ⟨_, rfl⟩
  rw [hX] at hbx hpx2 hBX k1 k2 k3 k4 k5 ⊢
  rw [hB] at hbx hgl z1 ⊢
  have HRX := Lib.hid (HRR.out.below hBX)
  have HRHX := Lib.hid (HRH.out.below hBX)
  have HPX := Lib.hid hpx2
  have HBX := Lib.hid hBX
  have HKX := Lib.hid hbx
  have HK1 := Lib.hid k1
  have HK2 := Lib.hid k2
  have HK3 := Lib.hid k3
  have HK5 := Lib.hid k5
  have c4 := k4.cellV (i := 0) (v := .slice Ar nr cr) rfl
  have c0 := hbx.cellV (i := 0) rfl
  have c01 := hbx.cellV (i := 1) rfl
  have c02 := hbx.cellV (i := 2) rfl
  clear hX hB HB1 HO HQ1 HQ2 HQ3 HQ4 HQ5 bX hbx k1 k2 k3 k4 k5 hpx hpx2 hBX
  go_upto_region 5 with (go_at_call 156; refine (spans_do 157 _ (.inr rfl) (LayK W H n (w.heap.size + 1) (w.heap.size + 1 + 1) (w.heap.size + 1 + 1 + 1) B g hw hh nh ch Ah hpx dx dy) W H g n n nr cr _ _ (layS hw hh hpx dx dy) px rs _ (lay_do W H n _ _ _ _ g hw hh nh ch Ah hpx dx dy px hW hH HN.out HL.out hhw hhh HNH.out HDX.out HDY.out (by omega) (by omega) (by omega) (by omega) (fun h0 a e => by have := HAH.out h0 a e; omega)) (fun w1 w2 hk hg => hk.grown hg (by omega) (by omega) (by omega) (by omega) (fun h0 a e => by have := HAH.out h0 a e; omega)) hW hH (HL.out.trans HN.out) hnr HRX.out HC.out ⟨HK1.out, HK2.out, HK3.out, HKX.out, HRHX.out⟩ HPX.out).mono ?_; rintro e w2 ⟨rfl, hg2, hgr2⟩; have HG2 := Lib.hid hg2; have HGR := Lib.hid hgr2; clear hg2 hgr2)
  have r5 := HK5.out.grown HGR.out (by intro e; injection e with e; omega)
  have rX := HKX.out.grown HGR.out (by intro e; injection e with e; omega)
  have hB2 : Below w.heap.size w w2 := HBX.out.grown HGR.out HBX.out.size (fun q e => by cases e; omega)
  have HB2 := Lib.hid hB2
  clear c4 c0 c01 c02 HK1 HK2 HK3 HK5 HKX
  have c0 := rX.cellV (i := 0) rfl
  have c1 := rX.cellV (i := 1) rfl
  have c2 := rX.cellV (i := 2) rfl
  have d0 := r5.cellV (i := 0) rfl
  have d1 := r5.cellV (i := 1) rfl
  have d2 := r5.cellV (i := 2) rfl
  have f0 := r5.frozen 0
  have f1 := r5.frozen 1
  have f2 := r5.frozen 2
  clear rX r5 hB2
  go_wp2_with fail
  refine bodyPost_ret (v := .agg #[.int .i64 W, .int .i64 H, .slice (some ⟨g, 0, none⟩) n n]) (by simp [results, Tryz.results98, go_sem, d0, d1, d2]) rfl ⟨some ⟨g, 0, none⟩, rfl, ?_, ?_⟩
  · have hr := Rd.of_own (blk_own HG2.out (base := 0) (n := n) (Nat.zero_le _) (by simp [U8, lay_len, HL.out]) (by simp only [maxLen]; omega))
    have hne : ∀ a : Addr, some (⟨g, 0, none⟩ : Addr) = some a → a.block ≠ w.heap.size + 1 + 1 + 1 + 1 + 1 := fun a e => by cases e; dsimp only; omega
    exact ((hr.far (p := ⟨w.heap.size + 1 + 1 + 1 + 1 + 1, 0, none⟩) hne _).far (p := ⟨w.heap.size + 1 + 1 + 1 + 1 + 1, 1, none⟩) hne _).far (p := ⟨w.heap.size + 1 + 1 + 1 + 1 + 1, 2, none⟩) hne _
  · exact bset (p := ⟨_, _, _⟩) (bset (p := ⟨_, _, _⟩) (bset (p := ⟨_, _, _⟩) HB2.out (by dsimp only; omega) _) (by dsimp only; omega) _) (by dsimp only; omega) _

/-- what a grid, laid on another one, has. -/
def layR (W hw hh : Nat) (hpx : List Int) (dx dy : Int) (rs : List RC) (px : List Int) : List Int := if (coordB dx && coordB dy) = true then lay W (layS hw hh hpx dx dy) (anyP rs) px else px
theorem lay_any (W H hw hh : Nat) (px hpx : List Int) (A Ah Ar : Option Addr) (n c nh ch nr cr : Nat) (rs : List RC) (dx dy : Int) (w : World) (hcn : n ≤ c) (hn : n = W * H) (hW : W ≤ 128) (hH : H ≤ 128) (hr : Rd w A n (U8 px)) (hnh : nh = hw * hh) (hhw : hw ≤ 128) (hhh : hh ≤ 128) (hrh : Rd w Ah nh (U8 hpx)) (hnr : nr ≤ 1000000000000) (hrr : RdR w Ar nr rs) (hc : ∀ r ∈ rs, r.cnt = true) :
    Calls Tryz.prog 98 #[.agg #[.int .i64 W, .int .i64 H, .slice A n c], .agg #[.int .i64 hw, .int .i64 hh, .slice Ah nh ch], .int .i64 dx, .int .i64 dy, .agg #[.slice Ar nr cr]] w fun e w' => ∃ A' c', e = .returned (.agg #[.int .i64 W, .int .i64 H, .slice A' n c']) ∧ Rd w' A' n (U8 (layR W hw hh hpx dx dy rs px)) ∧ n ≤ c' ∧ Below w.heap.size w w' := by
  unfold layR
  cases hd : (coordB dx && coordB dy)
  · rw [if_neg (by decide)]
    exact (lay_far W H hw hh A Ah Ar n c nh ch nr cr dx dy w hd).mono fun e w' ⟨he, hb⟩ => ⟨A, c, he, hr.below hb, hcn, hb⟩
  · rw [if_pos rfl]
    simp only [Bool.and_eq_true] at hd
    exact (lay_near W H hw hh px hpx A Ah Ar n c nh ch nr cr rs dx dy w hd.1 hd.2 hn hW hH hr hnh hhw hhh hrh hnr hrr hc).mono fun e w' ⟨A', he, hr', hb⟩ => ⟨A', n, he, hr', Nat.le_refl _, hb⟩

end Go.Proofs.YtdaedkolpfkdjaaGreat.Gr
end

section
namespace Go.Proofs.YtdaedkolpfkdjaaGreat
open Go.RowKit Go.Maps Go.Shelf

theorem gr_gat_lay {W H : Nat} {S : Nat → Nat → Option Int} {M : Nat → Nat → Bool} {px : List Int} (hl : px.length = W * H) {x y : Nat} (hx : x < W) (hy : y < H) :
    Gr.gat W H (Gr.lay W S M px) x y = if M x y then (S x y).getD (Gr.gat W H px x y) else Gr.gat W H px x y := by
  have hh : Gr.hasB W H x y = true := (Gr.has_iff _ _ _ _).2 (by omega)
  have hi := Gr.has_idx hh
  unfold Gr.gat
  rw [if_pos hh, if_pos hh]
  simp only [Int.toNat_natCast] at *
  rw [List.getD_eq_getElem?_getD, List.getD_eq_getElem?_getD, Gr.lay_get]
  obtain ⟨d1, d2⟩ := Gr.idx_div (W := W) (x := x) (y := y) hx
  rw [d1, d2]
  obtain ⟨q, hq⟩ : ∃ q, px[y * W + x]? = some q := ⟨_, List.getElem?_eq_getElem (by rw [hl]; exact hi)⟩
  rw [hq]
  simp
theorem gr_layR_len (W W2 H2 : Nat) (hpx : List Int) (dx dy : Int) (out : List RC) (px : List Int) : (Gr.layR W W2 H2 hpx dx dy out px).length = px.length := by
  unfold Gr.layR
  split
  · exact Gr.lay_len _ _ _ _
  · rfl
theorem gr_lay_at {W H W2 H2 : Nat} {hpx px : List Int} {out : List RC} {dx dy : Int} (hl : px.length = W * H) (hc : (Gr.coordB dx && Gr.coordB dy) = true) {x y : Nat} (hx : x < W) (hy : y < H) :
    Gr.gat W H (Gr.layR W W2 H2 hpx dx dy out px) x y = if inB out x y && Gr.hasB W2 H2 ((x : Int) - dx) ((y : Int) - dy) then Gr.gat W2 H2 hpx ((x : Int) - dx) ((y : Int) - dy) else Gr.gat W H px x y := by
  unfold Gr.layR
  rw [if_pos hc, gr_gat_lay hl hx hy]
  have : Gr.anyP out x y = inB out x y := by rw [Bool.eq_iff_iff, Gr.anyP_iff, inB_iff]
  rw [this]
  unfold Gr.layS
  cases inB out (x : Int) (y : Int)
  · simp
  · cases Gr.hasB W2 H2 ((x : Int) - dx) ((y : Int) - dy) <;> simp
theorem gat_out {W H : Nat} {px : List Int} {x y : Int} (h : Gr.hasB W H x y = false) : Gr.gat W H px x y = 0 := by
  unfold Gr.gat
  rw [h]
  rfl
/-- what an item has at a place of the root. -/
def scrI (cs : Its) (o : Int × Int) (i x y : Int) : Int := match cs i with
  | some it => Gr.gat it.W it.H it.px (x - o.1) (y - o.2)
  | none => 0
/-- the screen. -/
def scrP (RW RH : Nat) (ns : Nodes) (bx : Int → Option VB) (cs : Its) (x y : Int) : Int := if rectP RW RH x y then scrI cs (ogG ns bx (topN ns bx x y)) (topN ns bx x y) x y else 0
/-- the screen behind some windows. -/
structure ScrAt (RW RH W H : Nat) (ns : Nodes) (bx : Int → Option VB) (cs : Its) (l : List Int) (px : List Int) : Prop where
  len : px.length = W * H
  px : ∀ x y : Nat, x < W → y < H → Gr.gat W H px x y = if rectP RW RH x y = true ∧ topN ns bx x y ∈ l then scrI cs (ogG ns bx (topN ns bx x y)) (topN ns bx x y) x y else 0
section
variable {RW RH W H : Nat} {ns : Nodes} {bx : Int → Option VB} {cs : Its} {l px : List Int} {i : Int}
theorem ScrAt.start : ScrAt RW RH W H ns bx cs [] (List.replicate (W * H) 0) := ⟨by simp, fun x y hx hy => by
  rw [if_neg (by simp)]
  unfold Gr.gat
  split
  · rw [List.getD_eq_getElem?_getD, List.getElem?_replicate]
    split <;> rfl
  · rfl⟩
theorem ScrAt.skip (h : ScrAt RW RH W H ns bx cs l px) (hi : cs i = none ∨ ∀ x y, shG RW RH ns bx x y i = false) : ScrAt RW RH W H ns bx cs (l ++ [i]) px := ⟨h.len, fun x y hx hy => by
  rw [h.px x y hx hy]
  cases hr : rectP RW RH (x : Int) (y : Int) with
  | false => simp
  | true =>
    by_cases ht : topN ns bx (x : Int) (y : Int) = i
    · rcases hi with h0 | h0
      · have e : scrI cs (ogG ns bx (topN ns bx x y)) (topN ns bx x y) x y = 0 := by rw [ht]; unfold scrI; rw [h0]
        rw [e]
        split <;> split <;> rfl
      · have := h0 x y
        unfold shG at this
        rw [hr, ht] at this
        simp at this
    · have : (topN ns bx (x : Int) (y : Int) ∈ l ++ [i]) ↔ topN ns bx (x : Int) (y : Int) ∈ l := by
        rw [List.mem_append, List.mem_singleton]
        exact ⟨fun h => h.resolve_right ht, .inl⟩
      simp only [this]⟩
theorem ScrAt.lay (h : ScrAt RW RH W H ns bx cs l px) {it : IT} (hi : cs i = some it) {out : List RC} (hp : ∀ x y, inB out x y = shG RW RH ns bx x y i) (hc : (Gr.coordB (ogG ns bx i).1 && Gr.coordB (ogG ns bx i).2) = true) : ScrAt RW RH W H ns bx cs (l ++ [i]) (Gr.layR W it.W it.H it.px (ogG ns bx i).1 (ogG ns bx i).2 out px) := ⟨(gr_layR_len _ _ _ _ _ _ _ _).trans h.len, fun x y hx hy => by
  rw [gr_lay_at h.len hc hx hy, hp, h.px x y hx hy]
  unfold shG
  cases hr : rectP RW RH (x : Int) (y : Int) with
  | false => simp
  | true =>
    by_cases ht : topN ns bx (x : Int) (y : Int) = i
    · have e : scrI cs (ogG ns bx (topN ns bx x y)) (topN ns bx x y) x y = Gr.gat it.W it.H it.px ((x : Int) - (ogG ns bx i).1) ((y : Int) - (ogG ns bx i).2) := by rw [ht]; unfold scrI; rw [hi]
      rw [e]
      simp only [ht, Bool.true_and, decide_true, true_and, List.mem_append, List.mem_singleton, or_true, if_true]
      cases hh : Gr.hasB it.W it.H ((x : Int) - (ogG ns bx i).1) ((y : Int) - (ogG ns bx i).2) with
      | true => rfl
      | false => rw [gat_out hh]; simp
    · have h1 : decide (i = topN ns bx (x : Int) (y : Int)) = false := decide_eq_false fun e => ht e.symm
      have h2 : (topN ns bx (x : Int) (y : Int) ∈ l ++ [i]) ↔ topN ns bx (x : Int) (y : Int) ∈ l := by
        rw [List.mem_append, List.mem_singleton]
        exact ⟨fun h => h.resolve_right ht, .inl⟩
      simp only [h1, h2, Bool.and_false, Bool.false_and, Bool.false_eq_true, if_false]⟩
theorem top_ord (hn : TreeOk ns) (x y : Int) : topN ns bx x y ∈ ordW ns bx 1 := by
  obtain ⟨h1, h2⟩ := topF_vw (bx := bx) hn (belowAt ns 1).length 1 x y (hasN_root ns) (vw_root hn)
  unfold ordW
  exact List.mem_filter.2 ⟨(below_root hn).2 h1, h2⟩
theorem ScrAt.all (h : ScrAt RW RH W H ns bx cs (ordW ns bx 1) px) (hn : TreeOk ns) (x y : Nat) (hx : x < W) (hy : y < H) : Gr.gat W H px x y = scrP RW RH ns bx cs x y := by
  rw [h.px x y hx hy]
  unfold scrP
  simp only [top_ord hn, and_true]
end
theorem coordB_og {w : World} {v : Value} {RW RH : Nat} {ns : Nodes} {bx : Int → Option VB} {og : Int → Int × Int} (h : SeenG w v RW RH ns bx og) (hn : TreeOk ns) (i : Int) : (Gr.coordB (ogG ns bx i).1 && Gr.coordB (ogG ns bx i).2) = true := by
  rw [← h.og_eq hn]
  obtain ⟨A, n, c, mv, nm, f, hv⟩ := h.is
  obtain ⟨_, _, _, _, _, _, _, hb, _⟩ := hv.look i
  unfold Gr.coordB
  rw [Bool.and_eq_true, decide_eq_true_eq, decide_eq_true_eq]
  omega
/-- a view tells a window's place; and which there are. -/
theorem SeenG.origin {w : World} {v : Value} {RW RH : Nat} {ns : Nodes} {bx : Int → Option VB} {og : Int → Int × Int} (h : SeenG w v RW RH ns bx og) (hn : TreeOk ns) (i : Int) (hi : 0 ≤ i ∧ i ≤ 4294967295) :
    Calls Tryz.prog 97 #[v, .int .u32 i] w fun e w' => e = .returned (.tuple #[.agg #[.int .i64 (ogG ns bx i).1, .int .i64 (ogG ns bx i).2], .bool (hasN ns i && vw ns bx i)]) ∧ Below w.heap.size w w' := by
  have e := h.og_eq hn i
  obtain ⟨A, n, c, mv, nm, f, hv⟩ := h.is
  have := vorigin_any i hi hv
  rw [look_some hn, e] at this
  exact this
theorem SeenG.windows {w : World} {v : Value} {RW RH : Nat} {ns : Nodes} {bx : Int → Option VB} {og : Int → Int × Int} (h : SeenG w v RW RH ns bx og) :
    Calls Tryz.prog 26 #[v] w fun e w' => ∃ u, e = .returned u ∧ w'.ownsRow w.heap.size 48 1 u (ordW ns bx 1).length (U32 (ordW ns bx 1)) ∧ (∀ i ∈ ordW ns bx 1, 0 ≤ i ∧ i ≤ 4294967295) ∧ (ordW ns bx 1).length ≤ 1001 ∧ Below w.heap.size w w' := by
  obtain ⟨A, n, c, mv, nm, f, hv⟩ := h.is
  have hl : (ordW ns bx 1).length = n := by simpa [U32] using hv.order.1
  refine (vwindows_any hv).mono ?_
  rintro e w' ⟨u, rfl, ho, hb⟩
  rw [← hl] at ho
  exact ⟨u, rfl, ho, hv.ids, by rw [hl]; exact hv.few, hb⟩

end Go.Proofs.YtdaedkolpfkdjaaGreat
end

section
namespace Go.Proofs.YtdaedkolpfkdjaaGreat
open Go.RowKit Go.Maps Go.Shelf

section
variable {l : List DW} {RW RH : Int}
/-- the place in the window that is the topmost one at a place of a window. -/
def locD (l : List DW) : Nat → Int → Int → Int → Int × Int
  | 0, _, x, y => (x, y)
  | f + 1, p, x, y => if lastHit (hitW p x y) l.zipIdx < 0 then (x, y) else
      locD l f (lastHit (hitW p x y) l.zipIdx) (x - ((l[(lastHit (hitW p x y) l.zipIdx).toNat]?).map DW.X).getD 0) (y - ((l[(lastHit (hitW p x y) l.zipIdx).toNat]?).map DW.Y).getD 0)
theorem locD_no {f : Nat} {p x y : Int} (h : lastHit (hitW p x y) l.zipIdx < 0) : locD l (f + 1) p x y = (x, y) := by unfold locD; rw [if_pos h]
theorem locD_yes {f : Nat} {p x y : Int} {i : Nat} {d : DW} (h : lastHit (hitW p x y) l.zipIdx = (i : Int)) (hd : l[i]? = some d) : locD l (f + 1) p x y = locD l f i (x - d.X) (y - d.Y) := by
  show (if lastHit (hitW p x y) l.zipIdx < 0 then (x, y) else _) = _
  rw [if_neg (by omega), h, show ((i : Int)).toNat = i from by omega, hd]
  rfl
theorem locD_org (hu : UpOk l) : ∀ (f : Nat) (p x y : Int) (o : Int × Int), -1 ≤ p → orgN (nodesW l) (bxW RW RH l) (idW p) = o → locD l f p x y = (x + o.1 - (orgN (nodesW l) (bxW RW RH l) (idW (atD l f p x y))).1, y + o.2 - (orgN (nodesW l) (bxW RW RH l) (idW (atD l f p x y))).2)
  | 0, p, x, y, o, _, ho => by
    show (x, y) = (x + o.1 - (orgN (nodesW l) (bxW RW RH l) (idW p)).1, y + o.2 - (orgN (nodesW l) (bxW RW RH l) (idW p)).2)
    rw [ho, Prod.mk.injEq]
    omega
  | f + 1, p, x, y, o, hp, ho => by
    by_cases hh : lastHit (hitW p x y) l.zipIdx < 0
    · rw [locD_no hh, atD_no hh, ho, Prod.mk.injEq]
      omega
    · obtain ⟨i, d, e, hd, hit⟩ := lastHit_is hh
      have hP := hitW_up hit
      have hou := orgW (RW := RW) (RH := RH) hu hd
      rw [hP, ho] at hou
      rw [locD_yes e hd, atD_yes e hd, locD_org hu f i (x - d.X) (y - d.Y) _ (by omega) hou, Prod.mk.injEq]
      dsimp only
      omega
/-- has a window a place? -/
def hasD (l : List DW) (RW RH : Int) (p x y : Int) : Prop := (p = -1 ∧ (0 ≤ x ∧ x < RW) ∧ 0 ≤ y ∧ y < RH) ∨ ∃ (i : Nat) (d : DW), p = i ∧ l[i]? = some d ∧ d.has x y = true
theorem hasD_at : ∀ (f : Nat) (p x y : Int), hasD l RW RH p x y → hasD l RW RH (atD l f p x y) (locD l f p x y).1 (locD l f p x y).2
  | 0, _, _, _, h => h
  | f + 1, p, x, y, h => by
    by_cases hh : lastHit (hitW p x y) l.zipIdx < 0
    · rw [locD_no hh, atD_no hh]; exact h
    · obtain ⟨i, d, e, hd, hit⟩ := lastHit_is hh
      rw [locD_yes e hd, atD_yes e hd]
      unfold hitW at hit
      simp only [Bool.and_eq_true] at hit
      exact hasD_at f i _ _ (.inr ⟨i, d, rfl, hd, hit.2.2⟩)
theorem has_box {d : DW} {x y : Int} (h : d.has x y = true) : (0 ≤ x ∧ x < d.W) ∧ 0 ≤ y ∧ y < d.H := by
  unfold DW.has at h
  rw [Bool.and_eq_true, inB_iff] at h
  obtain ⟨⟨q, hq, h1⟩, _⟩ := h
  rw [List.mem_singleton] at hq
  subst hq
  dsimp only at h1
  omega
theorem rectP_iff {W H : Int} (x y : Int) : rectP W H x y = true ↔ (0 ≤ x ∧ x < W) ∧ 0 ≤ y ∧ y < H := by
  unfold rectP
  rw [inB_iff]
  constructor
  · rintro ⟨q, hq, h1⟩
    rw [List.mem_singleton] at hq
    subst hq
    dsimp only at h1
    omega
  · intro h
    exact ⟨_, List.mem_singleton_self _, by dsimp only; omega⟩
end
/-- the steps that a search down may take. -/
def F34 (l : List R34) : Nat := (belowAt (nodesW (dws l)) 1).length
/-- the document's topmost window at a place, and the place in it. -/
def topI (l : List R34) (x y : Int) : Int := atD (dws l) (F34 l) (-1) x y + 1
def topL (l : List R34) (x y : Int) : Int × Int := locD (dws l) (F34 l) (-1) x y
/-- the document's pixel there. -/
def pixAt (l : List R34) (i : Nat) (q : Int × Int) : Int := match l[i]? with
  | some d => d.px.getD (q.2.toNat * d.W + q.1.toNat) 0
  | none => 0
def pixD (l : List R34) (RW RH : Nat) (x y : Int) : Int := if rectP RW RH x y then pixAt l (topI l x y).toNat (topL l x y) else 0
/-- the grids of a canvas are the windows'. -/
def ItsOf (l : List R34) (cs : Its) : Prop := ∀ (j : Nat) (d : R34), l[j]? = some d → ∃ it : IT, cs (idW ((j : Int) - 1)) = some it ∧ it.W = d.W ∧ it.H = d.H ∧ it.px = d.px
section
variable {l : List R34} {RW RH : Nat} {cs : Its}
theorem dws_at {i : Nat} : (dws l)[i]? = (l[i + 1]?).map R34.dw := by
  unfold dws
  rw [List.getElem?_map, List.getElem?_tail]
theorem topI_bd (hu : UpR l) (hl : 1 ≤ l.length) (x y : Int) : 0 ≤ topI l x y ∧ topI l x y < (l.length : Int) := by
  have := atD_bd hu.upOk (F34 l) (-1) x y (by omega) (by omega)
  rw [dws_lenI hl] at this
  unfold topI
  omega
/-- the topmost window's place lies in it. -/
theorem topL_in (_hu : UpR l) {r : R34} (hr : l[0]? = some r) (hW : r.W = RW ∧ r.H = RH) {x y : Int} (hxy : rectP RW RH x y = true) : ∃ d, l[(topI l x y).toNat]? = some d ∧ (0 ≤ (topL l x y).1 ∧ (topL l x y).1 < d.W) ∧ 0 ≤ (topL l x y).2 ∧ (topL l x y).2 < d.H := by
  have h := hasD_at (l := dws l) (RW := RW) (RH := RH) (F34 l) (-1) x y (.inl ⟨rfl, (rectP_iff x y).1 hxy⟩)
  rcases h with ⟨h1, h2⟩ | ⟨i, d, h1, h2, h3⟩
  · refine ⟨r, ?_, ?_⟩
    · unfold topI
      rw [h1]
      exact hr
    · rw [hW.1, hW.2]
      exact h2
  · rw [dws_at] at h2
    cases hd : l[i + 1]? with
    | none => rw [hd] at h2; cases h2
    | some e =>
      rw [hd] at h2
      have e0 : e.dw = d := by simpa using h2
      subst e0
      refine ⟨e, ?_, has_box h3⟩
      unfold topI
      rw [h1, show ((i : Int) + 1).toNat = i + 1 from by omega]
      exact hd
/-- the screen is the document's. -/
theorem scr_doc (hu : UpR l) {r : R34} (hr : l[0]? = some r) (hW : r.W = RW ∧ r.H = RH) (hc : ItsOf l cs) (x y : Int) : scrP RW RH (nodesW (dws l)) (bxW RW RH (dws l)) cs x y = pixD l RW RH x y := by
  unfold scrP pixD
  cases hxy : rectP RW RH x y with
  | false => rfl
  | true =>
    rw [if_pos rfl, if_pos rfl]
    have hl : 1 ≤ l.length := by
      have := (List.getElem?_eq_some_iff.1 hr).1
      omega
    have hok := nodesW_ok hu.upOk
    have e := atD_root (RW := RW) (RH := RH) hu.upOk x y
    have hb := topI_bd hu hl x y
    obtain ⟨d, hd, hq⟩ := topL_in hu hr hW hxy
    obtain ⟨it, h1, h2, h3, h4⟩ := hc _ d hd
    have ei : (((topI l x y).toNat : Int) - 1) = atD (dws l) (F34 l) (-1) x y := by
      unfold topI at hb ⊢
      omega
    rw [ei] at h1
    have e' : idW (atD (dws l) (F34 l) (-1) x y) = topN (nodesW (dws l)) (bxW RW RH (dws l)) x y := e
    rw [e'] at h1
    unfold scrI pixAt
    rw [h1, hd]
    dsimp only
    rw [h2, h3, h4]
    have ho : ogG (nodesW (dws l)) (bxW RW RH (dws l)) (topN (nodesW (dws l)) (bxW RW RH (dws l)) x y) = orgN (nodesW (dws l)) (bxW RW RH (dws l)) (topN (nodesW (dws l)) (bxW RW RH (dws l)) x y) := by
      unfold ogG
      have h5 := look_some (bx := bxW RW RH (dws l)) hok (rectP RW RH) (topN (nodesW (dws l)) (bxW RW RH (dws l)) x y)
      rw [top_look hok] at h5
      rw [← h5]
      rfl
    have hloc := locD_org (RW := RW) (RH := RH) hu.upOk (F34 l) (-1) x y (0, 0) (by omega) (orgN_root hok)
    rw [e'] at hloc
    rw [ho]
    have hq' : topL l x y = (x - (orgN (nodesW (dws l)) (bxW RW RH (dws l)) (topN (nodesW (dws l)) (bxW RW RH (dws l)) x y)).1, y - (orgN (nodesW (dws l)) (bxW RW RH (dws l)) (topN (nodesW (dws l)) (bxW RW RH (dws l)) x y)).2) := by
      unfold topL
      rw [hloc, Prod.mk.injEq]
      dsimp only
      omega
    rw [hq'] at hq ⊢
    dsimp only at hq ⊢
    unfold Gr.gat
    rw [if_pos ((Gr.has_iff _ _ _ _).2 (by omega))]
end
end Go.Proofs.YtdaedkolpfkdjaaGreat
end
